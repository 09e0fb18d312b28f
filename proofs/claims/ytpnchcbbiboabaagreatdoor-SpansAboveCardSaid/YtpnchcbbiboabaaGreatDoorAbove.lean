/- The walks of SpansAbove's functions. -/
import Derived.Test.YtpnchcbbiboabaaGreatDoorProg
import Derived.WalkKit
import Derived.LoopTactic
import Derived.Lib.Hide
import Derived.Lib.SliceRun
import Derived.OwnWalk
import Derived.Deep.AppendSrc
namespace Go.Proofs.YtpnchcbbiboabaaGreatDoor
open Go Go.RowKit Go.Lib
set_option maxHeartbeats 1000000
/-- A row of elements of four cells each. -/
structure Row4 (w : World) (b off n : Nat) (V : Nat → Value) : Prop where
  c : ∀ k, k < n * 4 → w.cell? ⟨b, off + k, none⟩ = some (V k)
theorem Row4.below {w w' : World} {b off n : Nat} {V : Nat → Value} (h : Row4 w b off n V) (hb : 0 < n → b < w.heap.size) (k : Below w.heap.size w w') : Row4 w' b off n V :=
  ⟨fun j hj => (k.cell (p := ⟨b, off + j, none⟩) (hb (by omega))).trans (h.c j hj)⟩
/-- Productions. -/
structure Prods (w : World) (a : Option Addr) (b off n : Nat) (V : Nat → Value) (A : Nat → Option Addr) (L K : Nat → Nat) (C : Nat → Int) : Prop where
  at_ : 0 < n → a = some ⟨b, off, none⟩
  lt : 0 < n → b < w.heap.size
  le : n ≤ 9223372036854775807
  row : Row4 w b off n V
  right : ∀ j, j < n → V (j * 4 + 2) = .slice (A j) (L j) (K j)
  len : ∀ j, j < n → L j ≤ 9223372036854775807
theorem Prods.below {w w' : World} {a : Option Addr} {b off n : Nat} {V : Nat → Value} {A : Nat → Option Addr} {L K : Nat → Nat} {C : Nat → Int} (h : Prods w a b off n V A L K C) (k : Below w.heap.size w w') : Prods w' a b off n V A L K C :=
  ⟨h.at_, fun h0 => Nat.lt_of_lt_of_le (h.lt h0) k.size, h.le, h.row.below h.lt k, h.right, h.len⟩
/-- It says yes only of few. -/
def Says (n most : Nat) (w : World) (e : Ending) (w' : World) : Prop := ∃ b : Bool, e = .returned (.bool b) ∧ (b = true → n ≤ most) ∧ Below w.heap.size w w'
theorem few_any (ta oa sa pa : Option Addr) (tn tc on oc sn sc pn pc : Nat) (st : Int) (b off : Nat) (V : Nat → Value) (A : Nat → Option Addr) (L K : Nat → Nat) (C : Nat → Int) (w : World) (hp : Prods w pa b off pn V A L K C) :
    Calls Tryz.prog 20 #[.agg #[.slice ta tn tc, .slice oa on oc, .slice sa sn sc, .slice pa pn pc, .int .i64 st]] w (Says pn 14 w) := by
  have HP := Lib.hid hp; clear hp
  go_enter Tryz.func20, Tryz.ntmps20
  go_wp2
  go_loop [3] (fun i => ∃ k : Nat, k ≤ pn ∧ i = .int .i64 k) (fun i => pn - (intOf i).toNat)
  case atStart => exact ⟨0, Nat.zero_le _, rfl⟩
  case round =>
    obtain ⟨k, hk, rfl⟩ := hrel
    have hle := HP.out.le
    by_cases hlt : k < pn
    · have hb := HP.out.lt (by omega)
      obtain rfl := HP.out.at_ (by omega)
      have hc := HP.out.row.c (k * 4 + 2) (by omega)
      rw [HP.out.right k hlt, ← Nat.add_assoc] at hc
      have hne : ¬ b = w.heap.size := by omega
      go_wp2
      case roundEnd =>
        go_round
        case rel => exact ⟨k + 1, by omega, by go_num⟩
        case measure => simp [intOf]; omega
      all_goals (go_ret; exact ⟨_, rfl, fun h => by first | omega | (simp at h; done) | (simp at h; omega), (Below.refl _ _).alloc (Nat.le_refl _) _⟩)
    · go_wp2
      all_goals (go_ret; exact ⟨_, rfl, fun h => by first | omega | (simp at h; done) | (simp at h; omega), (Below.refl _ _).alloc (Nat.le_refl _) _⟩)
theorem little14_any (ta oa sa pa : Option Addr) (tn tc on oc sn sc pn pc : Nat) (st : Int) (b off : Nat) (V : Nat → Value) (A : Nat → Option Addr) (L K : Nat → Nat) (C : Nat → Int) (w : World) (hp : Prods w pa b off pn V A L K C) :
    Calls Tryz.prog 15 #[.agg #[.slice ta tn tc, .slice oa on oc, .slice sa sn sc, .slice pa pn pc, .int .i64 st]] w (Says pn 10 w) := by
  have hp1 := hp.below ((Below.refl _ w).alloc (Nat.le_refl _) (.cells #[.slice ta tn tc, .slice oa on oc, .slice sa sn sc, .slice pa pn pc, .int .i64 st] 34))
  have hcon := few_any ta oa sa pa tn tc on oc sn sc pn pc st b off V A L K C _ hp1
  have HC := Lib.hid hcon; clear hcon hp1
  have HP := Lib.hid hp; clear hp
  go_enter Tryz.func15, Tryz.ntmps15
  go_wp2_with (go_at_call 20; refine HC.out.mono ?_; rintro e w' ⟨few, rfl, hfew, hb'⟩)
  have hbel : Below w.heap.size w w' := ((Below.refl _ w).alloc (Nat.le_refl _) _).trans (hb'.mono (by simp))
  have hp' := HP.out.below hbel
  have HB := Lib.hid hbel
  have HP' := Lib.hid hp'
  have HF := Lib.hid hfew
  have hcell : w'.cell? ⟨w.heap.size, 3, none⟩ = some (.slice pa pn pc) := (hb'.cell (p := ⟨w.heap.size, 3, none⟩) (by simp)).trans (by simp)
  clear hb' hbel hp' hfew HP
  go_loop [4] (fun i => ∃ k : Nat, k ≤ pn ∧ i = .int .i64 k) (fun i => pn - (intOf i).toNat)
  case atStart => exact ⟨0, Nat.zero_le _, rfl⟩
  case round =>
    obtain ⟨k, hk, rfl⟩ := hrel
    have hle := HP'.out.le
    by_cases hlt : k < pn
    · have hb := HP'.out.lt (by omega)
      obtain rfl := HP'.out.at_ (by omega)
      have hc := HP'.out.row.c (k * 4 + 2) (by omega)
      rw [HP'.out.right k hlt, ← Nat.add_assoc] at hc
      go_wp2
      case roundEnd =>
        go_round
        case rel => exact ⟨k + 1, by omega, by go_num⟩
        case measure => simp [intOf]; omega
      all_goals (go_ret; exact ⟨_, rfl, fun h => by first | omega | (simp at h; done) | (simp at h; omega), HB.out⟩)
    · go_wp2
      all_goals (go_ret; exact ⟨_, rfl, fun h => by first | omega | (simp at h; done) | (simp at h; omega), HB.out⟩)
/-- Terminals. -/
structure Terms (w : World) (a : Option Addr) (b off n : Nat) (V : Nat → Value) (S : Nat → ByteArray) : Prop where
  at_ : 0 < n → a = some ⟨b, off, none⟩
  lt : 0 < n → b < w.heap.size
  le : n ≤ 9223372036854775807
  row : Row4 w b off n V
  regex : ∀ j, j < n → V (j * 4 + 1) = .string (S j)
theorem Terms.below {w w' : World} {a : Option Addr} {b off n : Nat} {V : Nat → Value} {S : Nat → ByteArray} (h : Terms w a b off n V S) (k : Below w.heap.size w w') : Terms w' a b off n V S :=
  ⟨h.at_, fun h0 => Nat.lt_of_lt_of_le (h.lt h0) k.size, h.le, h.row.below h.lt k, h.regex⟩
theorem little17_any (ta oa sa pa : Option Addr) (tn tc on oc sn sc pn pc : Nat) (st : Int) (b off : Nat) (V : Nat → Value) (A : Nat → Option Addr) (L K : Nat → Nat) (C : Nat → Int) (tb toff : Nat) (U : Nat → Value) (S : Nat → ByteArray) (w : World) (hp : Prods w pa b off pn V A L K C) (ht : Terms w ta tb toff tn U S) :
    Calls Tryz.prog 8 #[.agg #[.slice ta tn tc, .slice oa on oc, .slice sa sn sc, .slice pa pn pc, .int .i64 st]] w (Says pn 10 w) := by
  have hp1 := hp.below ((Below.refl _ w).alloc (Nat.le_refl _) (.cells #[.slice ta tn tc, .slice oa on oc, .slice sa sn sc, .slice pa pn pc, .int .i64 st] 34))
  have hcon := little14_any ta oa sa pa tn tc on oc sn sc pn pc st b off V A L K C _ hp1
  have HC := Lib.hid hcon; clear hcon hp1 hp
  have HT := Lib.hid ht; clear ht
  go_enter Tryz.func8, Tryz.ntmps8
  go_wp2_with (go_at_call 15; refine HC.out.mono ?_; rintro e w' ⟨few, rfl, hfew, hb'⟩)
  have hbel : Below w.heap.size w w' := ((Below.refl _ w).alloc (Nat.le_refl _) _).trans (hb'.mono (by simp))
  have ht' := HT.out.below hbel
  have HB := Lib.hid hbel
  have HT' := Lib.hid ht'
  have HF := Lib.hid hfew
  have hcell : w'.cell? ⟨w.heap.size, 0, none⟩ = some (.slice ta tn tc) := (hb'.cell (p := ⟨w.heap.size, 0, none⟩) (by simp)).trans (by simp)
  clear hb' hbel ht' hfew HT
  go_loop [4] (fun i => ∃ k : Nat, k ≤ tn ∧ i = .int .i64 k) (fun i => tn - (intOf i).toNat)
  case atStart => exact ⟨0, Nat.zero_le _, rfl⟩
  case round =>
    obtain ⟨k, hk, rfl⟩ := hrel
    have hle := HT'.out.le
    by_cases hlt : k < tn
    · have hb := HT'.out.lt (by omega)
      obtain rfl := HT'.out.at_ (by omega)
      have hc := HT'.out.row.c (k * 4 + 1) (by omega)
      rw [HT'.out.regex k hlt, ← Nat.add_assoc] at hc
      go_wp2
      case roundEnd =>
        go_round
        case rel => exact ⟨k + 1, by omega, by go_num⟩
        case measure => simp [intOf]; omega
      all_goals (go_ret; exact ⟨_, rfl, fun h => by first | omega | exact HF.out h | (simp at h; done) | (simp at h; omega), HB.out⟩)
    · go_wp2
      all_goals (go_ret; exact ⟨_, rfl, fun h => by first | omega | exact HF.out h | (simp at h; done) | (simp at h; omega), HB.out⟩)
/-- A production's class. -/
theorem class_any (ta oa sa : Option Addr) (tn tc on oc sn sc pn pc : Nat) (st : Int) (b off : Nat) (n : Nat) (x y : Int) (r1 r2 r3 r4 : Value) (w : World) (hn : n < pn) (hb : b < w.heap.size) (_hle : pn ≤ 9223372036854775807)
    (hc : w.cell? ⟨b, off + n * 4 + 3, none⟩ = some (.int .i64 x)) :
    Calls Tryz.prog 9 #[.agg #[.slice ta tn tc, .slice oa on oc, .slice sa sn sc, .slice (some ⟨b, off, none⟩) pn pc, .int .i64 st], .agg #[.int .i64 n, r1, r2, r3, r4], .int .i64 y] w fun e w' => e = .returned (.int .i64 (if 0 < x then x else y)) ∧ Below w.heap.size w w' := by
  have hne : ¬ b = w.heap.size := by omega
  have hne2 : ¬ b = w.heap.size + 1 := by omega
  go_enter Tryz.func9, Tryz.ntmps9
  go_wp2
  · go_ret
    exact ⟨rfl, (((Below.refl _ w).alloc (Nat.le_refl _) _).alloc (by simp) _)⟩
  · go_ret
    exact ⟨rfl, (((Below.refl _ w).alloc (Nat.le_refl _) _).alloc (by simp) _)⟩
/-- Productions, copied. -/
theorem wpList_copy4 {ops : Array Oper} {rest : List Oper} {o : Oper} {a : Act} {Q : Exit → Act → World → Prop} {w : World} (hgd : o.guard = none) (s x : Operand)
    (ho : o.op = .call { callee := .builtin .append, args := #[s, x], argTypes := #[32, 32] }) (g b off n c : Nat) (V : Nat → Value) (hs : a.eval s = .slice (some ⟨g, 0, none⟩) 0 0) (hx : a.eval x = .slice (some ⟨b, off, none⟩) n c)
    (hn : 0 < n) (hle : n ≤ 10) (hrow : ∀ k, k < n * 4 → w.cell? ⟨b, off + k, none⟩ = some (V k)) (h1 : ∀ k, k < n * 4 → (V k).oneCell' = true)
    (h : ∀ (cap : Nat) (arr : Array Value), (∀ k, k < n * 4 → arr[k]? = some (V k)) → wpList Tryz.prog ops Q rest (a.put o.dst (.slice (some ⟨w.heap.size, 0, none⟩) n cap)) (w.drew.alloc (.cells arr 38))) : wpList Tryz.prog ops Q (o :: rest) a w := by
  have hi : Tryz.prog.info? 38 = some Tryz.t38 := by kernel_rfl
  obtain ⟨z, hz⟩ : ∃ z, Tryz.t38.zero = some z := Option.isSome_iff_exists.1 (by kernel_rfl)
  have hsz : Tryz.t38.size = 4 := by kernel_rfl
  have hby : Tryz.t38.bytes = 56 := by kernel_rfl
  have hlen : ((List.range (n * 4)).map V).length = n * Tryz.t38.size := by rw [hsz]; simp
  have hsrc : Src Tryz.prog Tryz.t38.size 32 (.slice (some ⟨b, off, none⟩) n c) n ((List.range (n * 4)).map V) w := Src.ofSlice w Tryz.underlying32 _ _ _ _ hlen (fun j u hj => by
    rw [List.getElem?_map] at hj
    obtain ⟨k, hk, rfl⟩ := Option.map_eq_some_iff.1 hj
    obtain ⟨hkl, rfl⟩ := List.getElem?_eq_some_iff.1 hk
    simp at hkl ⊢
    have := hrow j hkl
    simp only [Addr.add]
    split
    · rename_i h0; subst h0; exact this
    · exact this) (fun u hu => by
    obtain ⟨k, hk, rfl⟩ := List.mem_map.1 hu
    exact h1 k (by simpa using hk))
  have hr := run_append_grow_src (P := Tryz.prog) w 32 32 o.type 38 Tryz.t38 z Tryz.underlying32 hi hz (some ⟨g, 0, none⟩) 0 0 [] (run_firstCells_some w.drew _ 0 _ 0 0 [] (by simp) (fun j v h => by simp at h)) _ n _ hsrc (by omega) (by omega) (by
    rw [nextslicecap_zero (by omega), hby]; omega)
  simp only [Nat.zero_add, List.nil_append] at hr
  refine wpList_plain hgd fun K hK => ?_
  unfold Oper.wp execOp
  simp only [ho, resolve, invoke, builtin, Sem.run_bind, Sem.run_pure, Result.andThen_ok, List.map_toArray, List.map_cons, List.map_nil, hs, hx, hr]
  refine hK _ _ (h _ _ fun k hk => ?_)
  rw [Array.getElem?_append_left (by simpa using hk)]
  simp [hk]
end Go.Proofs.YtpnchcbbiboabaaGreatDoor
