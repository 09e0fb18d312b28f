/- The walk of SpansAbove itself. -/
import Derived.Test.YtpnchcbbiboabaaGreatDoorAbove
namespace Go.Proofs.YtpnchcbbiboabaaGreatDoor
open Go Go.RowKit Go.Lib
set_option maxHeartbeats 2000000
set_option maxRecDepth 100000
/-- A grammar in a block of its own. -/
structure Boxed (w : World) (B : Nat) (v0 v1 v2 v3 v4 : Value) : Prop where
  c0 : w.cell? ⟨B, 0, none⟩ = some v0
  c1 : w.cell? ⟨B, 1, none⟩ = some v1
  c2 : w.cell? ⟨B, 2, none⟩ = some v2
  c3 : w.cell? ⟨B, 3, none⟩ = some v3
  c4 : w.cell? ⟨B, 4, none⟩ = some v4
theorem boxed_new (w : World) (v0 v1 v2 v3 v4 : Value) : Boxed (w.alloc (.cells #[v0, v1, v2, v3, v4] 34)) w.heap.size v0 v1 v2 v3 v4 := ⟨by simp, by simp, by simp, by simp, by simp⟩
theorem Boxed.below {w w' : World} {B : Nat} {v0 v1 v2 v3 v4 : Value} (h : Boxed w B v0 v1 v2 v3 v4) (hB : B < w.heap.size) (k : Below w.heap.size w w') : Boxed w' B v0 v1 v2 v3 v4 :=
  ⟨(k.cell (p := ⟨B, 0, none⟩) hB).trans h.c0, (k.cell (p := ⟨B, 1, none⟩) hB).trans h.c1, (k.cell (p := ⟨B, 2, none⟩) hB).trans h.c2, (k.cell (p := ⟨B, 3, none⟩) hB).trans h.c3, (k.cell (p := ⟨B, 4, none⟩) hB).trans h.c4⟩
theorem calls_via {P : Program} {f : FuncId} {args : Array Value} {w : World} {R : Ending → World → Prop} (Facts : World → Prop) (hx : Facts w) (h : ∀ W, Facts W → Calls P f args W R) : Calls P f args w R := h w hx
/-- What the two classes are looked up in. -/
structure Two (w2 W : World) (n : Nat) (y : Int) (v0 v1 v2 p3 q3 v4 : Value) : Prop where
  bel : Below w2.heap.size w2 W
  size : W.heap.size = w2.heap.size + 7
  one : W.cell? ⟨w2.heap.size + 1 + 1, 0 + n * 4 + 3, none⟩ = some (.int .i64 y)
  two : W.cell? ⟨w2.heap.size + 1 + 1 + 1 + 1 + 1, 0 + n * 4 + 3, none⟩ = some (.int .i64 0)
  h : Boxed W w2.heap.size v0 v1 v2 p3 v4
  k : Boxed W (w2.heap.size + 1 + 1 + 1) v0 v1 v2 q3 v4
  x : Boxed W (w2.heap.size + 1 + 1 + 1 + 1 + 1 + 1) (.int .i64 n) (.int .i64 0) (.int .i64 0) (.int .i64 0) (.slice none 0 0)
theorem Two.below {w2 W W' : World} {n : Nat} {y : Int} {v0 v1 v2 p3 q3 v4 : Value} (h : Two w2 W n y v0 v1 v2 p3 q3 v4) (k : Below W.heap.size W W') :
    Boxed W' (w2.heap.size + 1 + 1 + 1) v0 v1 v2 q3 v4 ∧ Boxed W' (w2.heap.size + 1 + 1 + 1 + 1 + 1 + 1) (.int .i64 n) (.int .i64 0) (.int .i64 0) (.int .i64 0) (.slice none 0 0) ∧ W'.cell? ⟨w2.heap.size + 1 + 1 + 1 + 1 + 1, 0 + n * 4 + 3, none⟩ = some (.int .i64 0) :=
  have hs := h.size
  ⟨h.k.below (by omega) k, h.x.below (by omega) k, (k.cell (p := ⟨w2.heap.size + 1 + 1 + 1 + 1 + 1, 0 + n * 4 + 3, none⟩) (by simp only; omega)).trans h.two⟩
theorem spansAbove_no (ta oa sa pa : Option Addr) (tn tc on oc sn sc pn pc : Nat) (st : Int) (b off : Nat) (V : Nat → Value) (A : Nat → Option Addr) (L K : Nat → Nat) (C : Nat → Int) (tb toff : Nat) (U : Nat → Value) (S : Nat → ByteArray) (x y z : Int) (w : World)
    (hp : Prods w pa b off pn V A L K C) (ht : Terms w ta tb toff tn U S) (hone : ∀ k, k < pn * 4 → (V k).oneCell' = true) (hC : ∀ j, j < pn → V (j * 4 + 3) = .int .i64 (C j))
    (hworks : ∀ w', Below w.heap.size w w' → Calls Tryz.prog 5 #[] w' fun e w2 => e = .returned (.bool true) ∧ Below w'.heap.size w' w2)
    (hno : ¬ (0 ≤ x ∧ x < pn ∧ 1 ≤ y ∧ y ≤ 1000)) :
    Calls Tryz.prog 4 #[.agg #[.slice ta tn tc, .slice oa on oc, .slice sa sn sc, .slice pa pn pc, .int .i64 st], .int .i64 x, .int .i64 y, .int .i64 z] w fun e w' => e = .returned (.bool true) ∧ Below w.heap.size w w' := by
  have HB : Hid (∀ w', Below w.heap.size w w' → Prods w' pa b off pn V A L K C ∧ Terms w' ta tb toff tn U S) := Lib.hid fun w' h => ⟨hp.below h, ht.below h⟩
  have hle := hp.le
  have HP := Lib.hid hp
  have HW := Lib.hid hworks
  have H1 := Lib.hid hone
  have HC := Lib.hid hC
  clear hp ht hworks hone hC
  have HN := Lib.hid hno
  clear hno
  go_enter Tryz.func4, Tryz.ntmps4
  go_wp2_with (first | (go_at_call 5; refine (HW.out _ ((Below.refl _ w).alloc (Nat.le_refl _) _)).mono ?_; rintro e w1 ⟨rfl, hb1⟩; have hbx := (boxed_new w _ _ _ _ _).below (by simp) hb1; have HX := Lib.hid hbx; obtain ⟨c0, c1, c2, c3, c4⟩ := hbx) | (go_at_call 8; refine (little17_any ta oa sa pa tn tc on oc sn sc pn pc st b off V A L K C tb toff U S _ (HB.out _ (((Below.refl _ w).alloc (Nat.le_refl _) _).trans (hb1.mono (by simp)))).1 (HB.out _ (((Below.refl _ w).alloc (Nat.le_refl _) _).trans (hb1.mono (by simp)))).2).mono ?_; clear c0 c1 c2 c3 c4; rintro e w2 ⟨little, rfl, hlit, hb2⟩; have hbx := HX.out.below (Nat.lt_of_lt_of_le (by simp) hb1.size) hb2; have HX2 := Lib.hid hbx; have HL := Lib.hid hlit; have hbel : Below w.heap.size w w2 := (((Below.refl _ w).alloc (Nat.le_refl _) _).trans (hb1.mono (by simp))).trans (hb2.mono (Nat.le_trans (by simp) hb1.size)); have HBEL := Lib.hid hbel; have hlt2 : w.heap.size < w2.heap.size := Nat.lt_of_lt_of_le (Nat.lt_of_lt_of_le (by simp) hb1.size) hb2.size; clear hlit hbel hb1 hb2 HX; obtain ⟨c0, c1, c2, c3, c4⟩ := hbx; cases little) | (at_builtin; exfalso; have hn := HN.out; omega))
  all_goals first
    | (go_ret; exact ⟨rfl, HBEL.out⟩)
    | (go_ways; exfalso; have hn := HN.out; omega)
theorem spansAbove_yes (ta oa sa pa : Option Addr) (tn tc on oc sn sc pn pc : Nat) (st : Int) (b off : Nat) (V : Nat → Value) (A : Nat → Option Addr) (L K : Nat → Nat) (C : Nat → Int) (tb toff : Nat) (U : Nat → Value) (S : Nat → ByteArray) (n : Nat) (y z : Int) (w : World)
    (hp : Prods w pa b off pn V A L K C) (ht : Terms w ta tb toff tn U S) (hone : ∀ k, k < pn * 4 → (V k).oneCell' = true) (hC : ∀ j, j < pn → V (j * 4 + 3) = .int .i64 (C j))
    (hworks : ∀ w', Below w.heap.size w w' → Calls Tryz.prog 5 #[] w' fun e w2 => e = .returned (.bool true) ∧ Below w'.heap.size w' w2)
    (hn : n < pn) (hy1 : 1 ≤ y) (hy2 : y ≤ 1000) :
    Calls Tryz.prog 4 #[.agg #[.slice ta tn tc, .slice oa on oc, .slice sa sn sc, .slice pa pn pc, .int .i64 st], .int .i64 n, .int .i64 y, .int .i64 z] w fun e w' => e = .returned (.bool true) ∧ Below w.heap.size w w' := by
  have HB : Hid (∀ w', Below w.heap.size w w' → Prods w' pa b off pn V A L K C ∧ Terms w' ta tb toff tn U S) := Lib.hid fun w' h => ⟨hp.below h, ht.below h⟩
  have hle := hp.le
  have HP := Lib.hid hp
  have HW := Lib.hid hworks
  have H1 := Lib.hid hone
  have HC := Lib.hid hC
  clear hp ht hworks hone hC
  go_enter Tryz.func4, Tryz.ntmps4
  go_wp2_with (first | (go_at_call 5; refine (HW.out _ ((Below.refl _ w).alloc (Nat.le_refl _) _)).mono ?_; rintro e w1 ⟨rfl, hb1⟩; have hbx := (boxed_new w _ _ _ _ _).below (by simp) hb1; have HX := Lib.hid hbx; obtain ⟨c0, c1, c2, c3, c4⟩ := hbx) | (go_at_call 8; refine (little17_any ta oa sa pa tn tc on oc sn sc pn pc st b off V A L K C tb toff U S _ (HB.out _ (((Below.refl _ w).alloc (Nat.le_refl _) _).trans (hb1.mono (by simp)))).1 (HB.out _ (((Below.refl _ w).alloc (Nat.le_refl _) _).trans (hb1.mono (by simp)))).2).mono ?_; clear c0 c1 c2 c3 c4; rintro e w2 ⟨little, rfl, hlit, hb2⟩; have hbx := HX.out.below (Nat.lt_of_lt_of_le (by simp) hb1.size) hb2; have HX2 := Lib.hid hbx; have HL := Lib.hid hlit; have hbel : Below w.heap.size w w2 := (((Below.refl _ w).alloc (Nat.le_refl _) _).trans (hb1.mono (by simp))).trans (hb2.mono (Nat.le_trans (by simp) hb1.size)); have HBEL := Lib.hid hbel; have hlt2 : w.heap.size < w2.heap.size := Nat.lt_of_lt_of_le (Nat.lt_of_lt_of_le (by simp) hb1.size) hb2.size; clear hlit hbel hb1 hb2 HX; obtain ⟨c0, c1, c2, c3, c4⟩ := hbx; have hb : b < w2.heap.size := Nat.lt_of_lt_of_le (HP.out.lt (by omega)) HBEL.out.size; obtain rfl := HP.out.at_ (by omega); have n0 : w.heap.size < w2.heap.size := (by omega); have n1 : w.heap.size < w2.heap.size + 1 := (by omega); have n2 : w.heap.size < w2.heap.size + 1 + 1 := (by omega); have n3 : w.heap.size < w2.heap.size + 1 + 1 + 1 := (by omega); have n4 : w.heap.size < w2.heap.size + 1 + 1 + 1 + 1 := (by omega); have n5 : w.heap.size < w2.heap.size + 1 + 1 + 1 + 1 + 1 := (by omega); have n6 : w.heap.size < w2.heap.size + 1 + 1 + 1 + 1 + 1 + 1 := (by omega); have m0 : b < w2.heap.size := (by omega); have m1 : b < w2.heap.size + 1 := (by omega); have m2 : b < w2.heap.size + 1 + 1 := (by omega); have m3 : b < w2.heap.size + 1 + 1 + 1 := (by omega); have m4 : b < w2.heap.size + 1 + 1 + 1 + 1 := (by omega); have m5 : b < w2.heap.size + 1 + 1 + 1 + 1 + 1 := (by omega); have m6 : b < w2.heap.size + 1 + 1 + 1 + 1 + 1 + 1 := (by omega); cases little) | (at_builtin; refine wpList_copy4 rfl _ _ rfl _ b off pn pc V rfl rfl (by omega) (HL.out trivial) ?ROW H1.out ?_; (case ROW => (intro k hk; have hr := (HB.out _ HBEL.out).1.row.c k hk; (refine (Below.cell (B := w2.heap.size) (p := ⟨b, off + k, none⟩) ?_ hb).trans hr; repeat (first | exact Below.refl _ _ | (refine Below.alloc ?_ (by simp <;> omega) _) | refine Below.drew ?_ | (refine Below.setCell ?_ (by simp) _))))); intro cap arr harr; have a3 := harr (n * 4 + 3) (by omega); rw [HC.out n hn] at a3; clear harr))
  · go_ret
    exact ⟨rfl, HBEL.out⟩
  · rename_i cap1 arr1 a31 _ _ _ _
    have e1 := (Array.getElem?_eq_some_iff.1 a31).1
    have e2 := (Array.getElem?_eq_some_iff.1 a3).1
    refine calls_via (fun W => Two w2 W n y (.slice ta tn tc) (.slice oa on oc) (.slice sa sn sc) (.slice (some ⟨w2.heap.size + 1 + 1, 0, none⟩) pn cap1) (.slice (some ⟨w2.heap.size + 1 + 1 + 1 + 1 + 1, 0, none⟩) pn cap) (.int .i64 st)) ?_ ?_
    · clear a31 a3
      refine ⟨?_, by simp, ?_, ?_, ⟨?_, ?_, ?_, ?_, ?_⟩, ⟨?_, ?_, ?_, ?_, ?_⟩, ⟨?_, ?_, ?_, ?_, ?_⟩⟩
      · repeat (first | exact Below.refl _ _ | (refine Below.alloc ?_ (by simp <;> omega) _) | refine Below.drew ?_ | (refine Below.setCell ?_ (by simp) _))
      all_goals go_simp
    · clear a31 a3 e1 e2
      intro W hW
      have hsz := hW.size
      have hwb : Below w.heap.size w W := HBEL.out.trans (hW.bel.mono HBEL.out.size)
      have HWB := Lib.hid hwb
      have HTW := Lib.hid hW
      have hy0 : 0 < y := by omega
      clear c0 c1 c2 c3 c4 hwb
      refine (class_any ta oa sa tn tc on oc sn sc pn cap1 st _ 0 n y z _ _ _ _ W hn (by omega) hle hW.one).mono ?_
      clear hW
      rintro e w4 ⟨rfl, hb4⟩
      obtain ⟨hk, hx, h2⟩ := HTW.out.below hb4
      have HB4 := Lib.hid hb4
      have H2 := Lib.hid h2
      have hs4 : w2.heap.size + 7 ≤ w4.heap.size := by rw [← hsz]; exact hb4.size
      obtain ⟨k0, k1, k2, k3, k4⟩ := hk
      obtain ⟨x0, x1, x2, x3, x4⟩ := hx
      clear hb4 hsz h2
      rw [if_pos hy0]
      go_wp2_with fail
      refine (class_any ta oa sa tn tc on oc sn sc pn cap st _ 0 n 0 z _ _ _ _ _ hn ?_ hle ?_).mono ?_
      · omega
      · exact H2.out
      rintro e w5 ⟨rfl, hb5⟩
      rw [if_neg (by omega)]
      go_wp2
      go_ret
      exact ⟨rfl, (HWB.out.trans (HB4.out.mono HWB.out.size)).trans (hb5.mono (Nat.le_trans HWB.out.size HB4.out.size))⟩
end Go.Proofs.YtpnchcbbiboabaaGreatDoor
