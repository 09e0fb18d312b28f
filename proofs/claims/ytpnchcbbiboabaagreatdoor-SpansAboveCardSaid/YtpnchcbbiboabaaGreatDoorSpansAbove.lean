/- SpansAbove: with no class of its own a terminal has that of the nearest production above it that has one: for every input that the statement speaks of the law returns true, and its arguments read as they did. -/
import Derived.Test.YtpnchcbbiboabaaGreatDoorGram
namespace Go.Proofs.YtpnchcbbiboabaaGreatDoor
open Go.Joins Go.ChangeShapes Go.WideShapes Go.ChangeAt Go.RowKit Go.Deep Go.Lw
set_option maxRecDepth 100000
namespace spansAbove
theorem five : ∃ f0 f1 f2 f3 f4 : Field, fsOf Tryz.t33.desc = #[f0, f1, f2, f3, f4] ∧ f0.type = 29 ∧ f1.type = 30 ∧ f2.type = 31 ∧ f3.type = 32 ∧ f4.type = 3 := by
  have h := f34
  generalize fsOf Tryz.t33.desc = fs at h
  obtain ⟨l⟩ := fs
  have hl : l.length = 5 := by simpa using congrArg List.length h
  match l, hl with
  | [f0, f1, f2, f3, f4], _ =>
    simp only [List.map_cons, List.map_nil, List.cons.injEq, and_true] at h
    exact ⟨f0, f1, f2, f3, f4, rfl, h⟩
theorem works_any2 {W : World} (h : laidMetH Tryz.prog Rows.spansAboveRow.laid W) : ∀ w', Below W.heap.size W w' → Calls Tryz.prog 5 #[] w' fun e w2 => e = .returned (.bool true) ∧ Below w'.heap.size w' w2 := fun w' hb => by
  have hh : Go.Sh.AllP (Go.Sh.Held W) held := held_ok h
  have keep : ∀ x, Go.Sh.Held W x → Go.Sh.Held w' x := fun x hx => ⟨hx.1, hx.2.1, fun i v hv => by
    obtain ⟨v', h1, h2⟩ := hx.2.2 i v hv
    refine ⟨v', ?_, h2⟩
    have hlt : x.1 < W.heap.size := by
      rcases Nat.lt_or_ge x.1 W.heap.size with h' | h'
      · exact h'
      · simp [World.cell?, Array.getElem?_eq_none h'] at h1
    exact (hb.cell (p := ⟨x.1, i, none⟩) hlt).trans h1⟩
  exact Go.Sh.closed_true works_run tyl_ok fnl_ok any_ok ⟨keep _ hh.1, keep _ hh.2.1, trivial⟩ Go.Sh.VRs.nil
theorem contract (H : Type) (enc : TypeId × Value → H) (W : World) (base : Nat) (args : Array Value) (ds gs : List (DataW H)) (before : List MemPlace)
    (hval : ∀ (j : Nat) t v, Tryz.f4.params[j]? = some t → args[j]? = some v → Value.okWide Tryz.prog W .any base t v)
    (hW : DataW.Whole enc Tryz.prog Tryz.f4.params.toList Rows.spansAboveSpec.vars false W args.toList ds gs before) (hL : laidMetH Tryz.prog Rows.spansAboveRow.laid W) :
    Calls Tryz.prog 4 args W fun e W' => ∃ v, e = .returned v ∧ Rows.spansAboveSpec.post enc Tryz.prog Tryz.f4 false true false false W args v W' := by
  have hW' := hW
  obtain ⟨p, q, hA0, hV, rfl, hfz, hnd⟩ := hW
  have hA : DataW.TrodAll enc Tryz.prog W 0 (fun _ => true) true Tryz.f4.params.toList args.toList ds p := hA0
  have hpar : Tryz.f4.params = #[34, 3, 3, 3] := Tryz.params4
  rw [hpar] at hA hval
  obtain ⟨v0, v1, v2, v3, d0, d1, d2, d3, p0, p1, p2, p3, rfl, rfl, rfl, h0, h1, h2, h3⟩ := trodAll_four hA
  obtain ⟨x, rfl, rfl, rfl, wx⟩ := open_int Tryz.underlying3 (hval 1 3 v1 rfl rfl) h1
  obtain ⟨y, rfl, rfl, rfl, wy⟩ := open_int Tryz.underlying3 (hval 2 3 v2 rfl rfl) h2
  obtain ⟨z, rfl, rfl, rfl, wz⟩ := open_int Tryz.underlying3 (hval 3 3 v3 rfl rfl) h3
  obtain ⟨f0, f1, f2, f3, f4, hfs, t0, t1, t2, t3, t4⟩ := five
  have hu := u34
  have ho := one34
  rw [hfs] at hu ho
  obtain ⟨g0, g1, g2, g3, g4, y0, y1, y2, y3, y4, n, rfl, _, _, k0, k1, k2, k3, k4⟩ := open_agg5 hu ho cells34 (hval 0 34 v0 rfl rfl) h0
  rw [t0] at k0; rw [t1] at k1; rw [t2] at k2; rw [t3] at k3; rw [t4] at k4
  obtain ⟨ta, tb, toff, tn, tc, U, rfl, a1, a2, a3, a4, a5⟩ := row4_open Tryz.underlying29 u45 one45 cells45 size45 f45 k0
  obtain ⟨oa, on, oc, rfl, _⟩ := slice_open Tryz.underlying30 k1
  obtain ⟨sa, sn, sc, rfl, _⟩ := slice_open Tryz.underlying31 k2
  obtain ⟨pa, b, off, pn, pc, V, rfl, b1, b2, b3, b4, b5⟩ := row4_open Tryz.underlying32 u38 one38 cells38 size38 f38 k3
  obtain ⟨st, hst, _, _⟩ := DataW.trod_int Tryz.underlying3 k4
  simp only [List.cons.injEq, and_true] at hst
  subst hst
  have ht : Terms W ta tb toff tn U (fun j => match U (j * 4 + 1) with | .string s => s | _ => ByteArray.empty) := ⟨a1, a2, a3, a4, fun j hj => by
    obtain ⟨yy, m, hh⟩ := a5 j 1 hj (by omega) 9 rfl
    obtain ⟨s, hs, _⟩ := DataW.trod_string Tryz.underlying9 hh
    simp only [List.cons.injEq, and_true] at hs
    simp only [hs]⟩
  have hr : ∀ j, j < pn → ∃ (ao : Option Addr) (n c : Nat), V (j * 4 + 2) = .slice ao n c ∧ n ≤ 9223372036854775807 := fun j hj => by
    obtain ⟨yy, m, hh⟩ := b5 j 2 hj (by omega) 36 rfl
    exact slice_open Tryz.underlying36 hh
  have hp : Prods W pa b off pn V (fun j => match V (j * 4 + 2) with | .slice a _ _ => a | _ => none) (fun j => match V (j * 4 + 2) with | .slice _ n _ => n | _ => 0) (fun j => match V (j * 4 + 2) with | .slice _ _ c => c | _ => 0) (fun j => match V (j * 4 + 3) with | .int _ z => z | _ => 0) :=
    ⟨b1, b2, b3, b4, fun j hj => by obtain ⟨ao, n, c, hv, _⟩ := hr j hj; simp only [hv], fun j hj => by obtain ⟨ao, n, c, hv, hn⟩ := hr j hj; simp only [hv]; exact hn⟩
  have hC : ∀ j, j < pn → V (j * 4 + 3) = .int .i64 ((fun j => match V (j * 4 + 3) with | .int _ z => z | _ => 0) j) := fun j hj => by
    obtain ⟨yy, m, hh⟩ := b5 j 3 hj (by omega) 3 rfl
    obtain ⟨z, hz, _⟩ := DataW.trod_int Tryz.underlying3 hh
    simp only [List.cons.injEq, and_true] at hz
    simp only [hz]
  have hone : ∀ k, k < pn * 4 → (V k).oneCell' = true := fun k hk => by
    have hkk : k / 4 * 4 + k % 4 = k := by omega
    have hi : k / 4 < pn := by omega
    have hj : k % 4 = 0 ∨ k % 4 = 1 ∨ k % 4 = 2 ∨ k % 4 = 3 := by omega
    rcases hj with e | e | e | e
    · obtain ⟨yy, m, hh⟩ := b5 (k / 4) 0 hi (by omega) 9 rfl
      obtain ⟨s, hs, _⟩ := DataW.trod_string Tryz.underlying9 hh
      simp only [List.cons.injEq, and_true] at hs
      rw [← hkk, e, hs]; rfl
    · obtain ⟨yy, m, hh⟩ := b5 (k / 4) 1 hi (by omega) 3 rfl
      obtain ⟨z, hz, _⟩ := DataW.trod_int Tryz.underlying3 hh
      simp only [List.cons.injEq, and_true] at hz
      rw [← hkk, e, hz]; rfl
    · obtain ⟨ao, n, c, hv, _⟩ := hr (k / 4) hi
      rw [← hkk, e, hv]; rfl
    · rw [← hkk, e, hC (k / 4) hi]; rfl
  have main : Calls Tryz.prog 4 #[.agg #[.slice ta tn tc, .slice oa on oc, .slice sa sn sc, .slice pa pn pc, .int .i64 st], .int .i64 x, .int .i64 y, .int .i64 z] W fun e w' => e = .returned (.bool true) ∧ Below W.heap.size W w' := by
    by_cases hc : 0 ≤ x ∧ x < pn ∧ 1 ≤ y ∧ y ≤ 1000
    · obtain ⟨c1, c2, c3, c4⟩ := hc
      obtain ⟨n, rfl⟩ : ∃ n : Nat, x = n := ⟨x.toNat, by omega⟩
      exact spansAbove_yes ta oa sa pa tn tc on oc sn sc pn pc st b off V _ _ _ _ tb toff U _ n y z W hp ht hone hC (works_any2 hL) (by omega) c3 c4
    · exact spansAbove_no ta oa sa pa tn tc on oc sn sc pn pc st b off V _ _ _ _ tb toff U _ x y z W hp ht hone hC (works_any2 hL) hc
  refine main.mono fun e W' ⟨he, hb⟩ => ?_
  subst he
  exact ⟨_, rfl, law_post laidOut (by rw [hpar]; intro t ht; simp only [List.mem_cons, List.not_mem_nil, or_false] at ht; rcases ht with rfl | rfl | rfl | rfl <;> exact ⟨by kernel_rfl, of_decide_eq_true (by kernel_rfl)⟩) hW' rfl rfl (by kernel_rfl) Tryz.underlying4 hb⟩
noncomputable def wargs : Array Value := #[.agg #[.slice none 0 0, .slice none 0 0, .slice none 0 0, .slice none 0 0, .int .i64 0], .int .i64 0, .int .i64 0, .int .i64 0]
theorem laid_met (os : Os) : laidMet Tryz.prog Rows.spansAboveRow.laid ((laidWorld os).forCall (fun _ _ => 0) ⟨#[], wargs, []⟩).memory :=
  laidMet_of_run' 8 (by kernel_rfl) (by kernel_rfl)
theorem reads (os : Os) {H : Type} (enc : TypeId × Value → H) : ∃ places, DataW.whole enc Tryz.prog ((laidWorld os).forCall (fun _ _ => 0) ⟨#[], wargs, []⟩).memory Tryz.f4.params.toList Rows.spansAboveSpec.vars false wargs.toList 8 = some ([.agg [.nil, .nil, .nil, .nil, .lit (.int .i64 0)], .lit (.int .i64 0), .lit (.int .i64 0), .lit (.int .i64 0)], [], places) :=
  ⟨[], by kernel_rfl⟩
theorem lifted (os : Os) (started : os.Started) (H : Type) (enc : TypeId × Value → H) (F : Stop.Interp) :
    ReturnsInHanded {} Tryz.checked os 4 .any ((OpenSpec.ofChange Rows.spansAboveSpec).preRow enc Tryz.prog Tryz.f4 Rows.spansAboveRow.domain false Rows.spansAboveRow.laid) (((OpenSpec.ofChange Rows.spansAboveSpec).at F).post enc Tryz.prog Tryz.f4 false true false false) := by
  obtain ⟨places, hx⟩ := reads os enc
  refine returnsInHanded_of_row (C := Tryz.checked) (s := OpenSpec.ofChange Rows.spansAboveSpec) own started (by kernel_rfl) Tryz.func4
    (witness_row_at (enc := enc) (C := Tryz.checked) false (laidWorld os) wargs rfl (by kernel_rfl) (by kernel_rfl) (by kernel_rfl)
      (OpenSpec.preRow_of_cond 8 hx (by kernel_rfl) (fun k hk => by cases hk) (by kernel_rfl) (laid_met os))) ?_
  intro W base args ds gs before hval hW _ _ _ hL _ _
  exact contract H enc W base args ds gs before hval hW hL
theorem said : Rows.SpansAboveSaid :=
  OpenClaim.holds_of_cond 4 Tryz.f4 rfl rfl rfl rfl rfl rfl rfl ⟨rfl, rfl, rfl, rfl, rfl⟩ rfl rfl rfl rfl rfl (by kernel_rfl) Tryz.func4 (by kernel_rfl)
    (of_decide_eq_true (by kernel_rfl)) (by unfold Func.isWrapper; first | (rw [if_pos (by decide +kernel)]; kernel_rfl) | (rw [if_neg (by decide +kernel)]; exact ⟨rfl, rfl⟩))
    (fun os started H enc _ F => by rw [OpenClaim.pre_eq_preRow]; exact lifted os started H enc F)
theorem plain (f : FuncId) (fn : Func) (hf : Tryz.pinned.checked.prog.funcNamed "syntagm/syntagmlaw20.SpansAbove" = some f) (hfn : Tryz.pinned.checked.prog.funcs[f]? = some fn) :
    true = Tryz.pinned.checked.prog.looks [] ∧ ∀ (j : Nat) t, fn.params[j]? = some t → Tryz.pinned.checked.prog.wantsStandIn t = false := by
  obtain rfl : f = 4 := Option.some.inj ((show Tryz.prog.funcNamed "syntagm/syntagmlaw20.SpansAbove" = some 4 by kernel_rfl).symm.trans hf) |>.symm
  obtain rfl : fn = Tryz.f4 := (Option.some.inj (Tryz.func4.symm.trans hfn)).symm
  refine ⟨by kernel_rfl, fun j t ht => ?_⟩
  rw [show Tryz.f4.params = #[34, 3, 3, 3] from Tryz.params4] at ht
  have hm := Array.mem_of_getElem? ht
  have : t = 34 ∨ t = 3 := by simpa using hm
  rcases this with rfl | rfl
  · exact (show Tryz.prog.wantsStandIn 34 = false by kernel_rfl)
  · exact (show Tryz.prog.wantsStandIn 3 = false by kernel_rfl)
end spansAbove
theorem spansAbove_holds : Rows.SpansAboveCardSaid :=
  Claim7.holds_tied_plain_at .later [] _ _ _ _ spansAbove.said (fun _ h => by cases h) (by kernel_rfl) (fun _ h => by cases h) spansAbove_row_tie rfl ⟨rfl, rfl⟩ (by kernel_rfl) rfl spansAbove.plain (by kernel_rfl)
end Go.Proofs.YtpnchcbbiboabaaGreatDoor
