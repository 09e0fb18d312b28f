/- SpansAt: of spans in order each place has one at most: for every input that the statement speaks of the law returns true, and its arguments read as they did. -/
import Derived.Test.YtpnchcbbiboabaaGreatDoorBase
import Derived.Test.YtpnchcbbiboabaaGreatDoorAt
import Derived.Deep.Slices
import Derived.Deep.Fields
namespace Go.Proofs.YtpnchcbbiboabaaGreatDoor
open Go.ChangeShapes Go.WideShapes Go.ChangeAt Go.RowKit Go.Deep Go.Lw
set_option maxRecDepth 100000
section
variable {H : Type} {enc : TypeId × Value → H} {P : Program} {w : World} {base : Nat} {spare : Nat → Bool} {held : Bool}
theorem open_slice_fields {t e : TypeId} {fs : Array Field} {fuel : Nat} {cs : List Value} {x : DataW H × List MemPlace} (ht : P.underlying t = some (.slice e)) (he : P.underlying e = some (.struct fs))
    (hone : oneCellFields P fs = true) (hC : P.cellsOf e = fs.size) (h : DataW.trod enc P w base spare held fuel t cs = some x) :
    (cs = [.slice none 0 0] ∧ x = (.nil, [])) ∨
    ∃ (a : Addr) (len cap m : Nat) (D : Nat → DataW H) (Pl : Nat → List MemPlace), cs = [.slice (some a) len cap] ∧ base ≤ a.block ∧ len ≤ cap ∧ cap ≤ maxLen ∧ m = (if spare a.block then cap else len) ∧
      x = (.slice ((List.range len).map D) ((List.range (m - len)).map fun j => D (len + j)), MemPlace.row a (m * fs.size) ++ (List.range m).flatMap Pl) ∧
      ∀ i, i < m → ∃ (ys : List (DataW H × List MemPlace)) (n : Nat), D i = .agg (ys.map (·.1)) ∧ Pl i = ys.flatMap (·.2) ∧ ys.length = fs.size ∧
        ∀ (j : Nat) (f : Field), fs[j]? = some f → ∃ (v : Value) (y : DataW H × List MemPlace), w.cell? (a.add (i * fs.size + j)) = some v ∧ ys[j]? = some y ∧ DataW.trod enc P w base spare held n f.type [v] = some y := by
  rcases open_slice ht h with h0 | ⟨a, len, cap, m, n, D, Pl, hcs, hb, hl, hm, hmm, hx, hi⟩
  · exact .inl h0
  · refine .inr ⟨a, len, cap, m, D, Pl, hcs, hb, hl, hm, hmm, by rw [hC] at hx; exact hx, fun i him => ?_⟩
    obtain ⟨cs', hc, ht'⟩ := hi i him
    rw [hC] at hc
    obtain ⟨ys, n', hn', hy, hlen, hyl, hf⟩ := DataW.trod_struct he ht'
    obtain ⟨_, hcl, hat⟩ := World.cells?_some hc
    simp only [Prod.mk.injEq] at hy
    refine ⟨ys, n', hy.1, hy.2, hyl, fun j f hj => ?_⟩
    obtain ⟨ho, hk⟩ := hone_of hone j f hj
    have hjl : j < fs.size := (Array.getElem?_eq_some_iff.1 hj).1
    have hcell := hat j hjl
    have hv : cs'[j]? = some (cs'[j]'(by omega)) := List.getElem?_eq_getElem (by omega)
    have h1 := hf j f hj
    rw [ho, hk] at h1
    have hone' : (cs'.drop j).take 1 = [cs'[j]'(by omega)] := by
      rw [List.drop_eq_getElem_cons (by omega)]
      rfl
    rw [hone'] at h1
    have hys : ys[j]? = some (ys[j]'(by omega)) := List.getElem?_eq_getElem (by omega)
    refine ⟨_, _, ?_, hys, h1.trans hys⟩
    rw [← Go.Deep.add_add, hcell, hv]
end
noncomputable def fs27 : Array Field := match Tryz.t26.desc with
  | .struct fs => fs
  | _ => #[]
theorem u27 : Tryz.prog.underlying 27 = some (.struct fs27) := by kernel_rfl
theorem one27 : oneCellFields Tryz.prog fs27 = true := by kernel_rfl
theorem size27 : fs27.size = 3 := by kernel_rfl
theorem cells27 : Tryz.prog.cellsOf 27 = 3 := by kernel_rfl
theorem f27 : fs27.toList.map (·.type) = [3, 3, 3] := by kernel_rfl
theorem f27_at {j : Nat} (hj : j < 3) : ∃ f, fs27[j]? = some f ∧ f.type = 3 := by
  have hlt : j < fs27.size := by rw [size27]; exact hj
  obtain ⟨f, hf⟩ : ∃ f, fs27[j]? = some f := ⟨_, Array.getElem?_eq_getElem hlt⟩
  refine ⟨f, hf, ?_⟩
  have h := congrArg (fun l => l[j]?) f27
  simp only [List.getElem?_map, Array.getElem?_toList, hf, Option.map_some] at h
  have : j = 0 ∨ j = 1 ∨ j = 2 := by omega
  rcases this with e | e | e <;> rw [e] at h <;> exact Option.some.inj h
/-- The number in a cell. -/
def numAt (W : World) (a : Addr) : Int := match W.cell? a with
  | some (.int _ z) => z
  | _ => 0
theorem spans_open {H : Type} {enc : TypeId × Value → H} {W : World} {sp : Nat → Bool} {held : Bool} {fuel : Nat} {v : Value} {x : DataW H × List MemPlace} (hf : DataW.trod enc Tryz.prog W 0 sp held fuel 22 [v] = some x) :
    ∃ (b off n c : Nat) (ao : Option Addr) (F T : Nat → Int), v = .slice ao n c ∧ (0 < n → ao = some ⟨b, off, none⟩) ∧ n ≤ 9223372036854775807 ∧ (0 < n → b < W.heap.size) ∧ Spans W b off n F T := by
  rcases open_slice_fields (e := 27) Tryz.underlying22 u27 one27 (cells27.trans size27.symm) hf with ⟨h1, _⟩ | ⟨a, len, cap, m, D, Pl, h1, _, h3, h4, h5, _, h7⟩
  · simp only [List.cons.injEq, and_true] at h1
    subst h1
    exact ⟨0, 0, 0, 0, none, fun _ => 0, fun _ => 0, rfl, fun h => absurd h (Nat.lt_irrefl _), by omega, fun h => absurd h (Nat.lt_irrefl _), ⟨fun j hj => absurd hj (Nat.not_lt_zero _), fun j hj => absurd hj (Nat.not_lt_zero _), fun j hj => absurd hj (Nat.not_lt_zero _)⟩⟩
  · simp only [List.cons.injEq, and_true] at h1
    subst h1
    have hlm : len ≤ m := by rw [h5]; split <;> omega
    have cell : ∀ i j, i < len → j < 3 → ∃ z, W.cell? (a.add (i * 3 + j)) = some (.int .i64 z) := fun i j hi hj => by
      obtain ⟨ys, n', _, _, _, hfld⟩ := h7 i (by omega)
      obtain ⟨f, hf1, hf2⟩ := f27_at hj
      obtain ⟨v, y, hc, _, ht⟩ := hfld j f hf1
      rw [hf2] at ht
      obtain ⟨z, hz, _⟩ := DataW.trod_int Tryz.underlying3 ht
      simp only [List.cons.injEq, and_true] at hz
      subst hz
      rw [size27] at hc
      exact ⟨z, hc⟩
    have hspot : 0 < len → a = ⟨a.block, a.off, none⟩ := fun h0 => by
      obtain ⟨z, hz⟩ := cell 0 0 h0 (by omega)
      obtain ⟨ab, ao, asp⟩ := a
      simp only [Addr.add, Nat.zero_mul, Nat.add_zero, if_true, World.cell?] at hz
      split at hz
      · cases asp with
        | none => rfl
        | some s => simp at hz
      · cases hz
    have at_ : ∀ i j, i < len → j < 3 → ∃ z, W.cell? ⟨a.block, a.off + (i * 3 + j), none⟩ = some (.int .i64 z) := fun i j hi hj => by
      obtain ⟨z, hz⟩ := cell i j hi hj
      rw [hspot (by omega)] at hz
      refine ⟨z, ?_⟩
      rw [← hz]
      simp only [Addr.add]
      split
      · rename_i h0; rw [h0, Nat.add_zero]
      · rfl
    refine ⟨a.block, a.off, len, cap, some a, fun j => numAt W ⟨a.block, a.off + j * 3, none⟩, fun j => numAt W ⟨a.block, a.off + j * 3 + 1, none⟩, rfl, fun h0 => by rw [← hspot h0], by unfold maxLen at h4; omega, fun h0 => ?_, ⟨fun j hj => ?_, fun j hj => ?_, fun j hj => ?_⟩⟩
    · obtain ⟨z, hz⟩ := at_ 0 0 h0 (by omega)
      rcases Nat.lt_or_ge a.block W.heap.size with h | h
      · exact h
      · simp [World.cell?, Array.getElem?_eq_none h] at hz
    · obtain ⟨z, hz⟩ := at_ j 0 hj (by omega)
      simp only [Nat.add_zero] at hz
      simp only [numAt, hz]
    · obtain ⟨z, hz⟩ := at_ j 1 hj (by omega)
      rw [← Nat.add_assoc] at hz
      simp only [numAt, hz]
    · obtain ⟨z, hz⟩ := at_ j 2 hj (by omega)
      rw [← Nat.add_assoc] at hz
      exact ⟨z, hz⟩
namespace spansAt
theorem contract (H : Type) (enc : TypeId × Value → H) (W : World) (base : Nat) (args : Array Value) (ds gs : List (DataW H)) (before : List MemPlace)
    (hval : ∀ (j : Nat) t v, Tryz.f3.params[j]? = some t → args[j]? = some v → Value.okWide Tryz.prog W .any base t v)
    (hW : DataW.Whole enc Tryz.prog Tryz.f3.params.toList Rows.spansAtSpec.vars false W args.toList ds gs before) (hL : laidMetH Tryz.prog Rows.spansAtRow.laid W) :
    Calls Tryz.prog 3 args W fun e W' => ∃ v, e = .returned v ∧ Rows.spansAtSpec.post enc Tryz.prog Tryz.f3 false true false false W args v W' := by
  have hW' := hW
  obtain ⟨p, q, hA0, hV, rfl, hfz, hnd⟩ := hW
  have hA : DataW.TrodAll enc Tryz.prog W 0 (fun _ => true) true Tryz.f3.params.toList args.toList ds p := hA0
  have hpar : Tryz.f3.params = #[22, 3, 3, 3] := Tryz.params3
  rw [hpar] at hA hval
  obtain ⟨v0, v1, v2, v3, d0, d1, d2, d3, p0, p1, p2, p3, rfl, rfl, rfl, h0, h1, h2, h3⟩ := trodAll_four hA
  obtain ⟨x, rfl, rfl, rfl, wx⟩ := open_int Tryz.underlying3 (hval 1 3 v1 rfl rfl) h1
  obtain ⟨y, rfl, rfl, rfl, wy⟩ := open_int Tryz.underlying3 (hval 2 3 v2 rfl rfl) h2
  obtain ⟨z, rfl, rfl, rfl, wz⟩ := open_int Tryz.underlying3 (hval 3 3 v3 rfl rfl) h3
  obtain ⟨a0, len, cap, rfl⟩ := okWide_slice Tryz.underlying22 (hval 0 22 v0 rfl rfl)
  obtain ⟨fuel, hf⟩ := h0
  obtain ⟨b, off, n, c, ao, F, T, hv, k1, k2, k3, k4⟩ := spans_open hf
  cases hv
  refine (spansAt_any b off _ _ _ F T x y z W k1 k2 k3 k4 (works_any hL)).mono fun e W' ⟨he, hb⟩ => ?_
  subst he
  exact ⟨_, rfl, law_post laidOut (by rw [hpar]; intro t ht; simp only [List.mem_cons, List.not_mem_nil, or_false] at ht; rcases ht with rfl | rfl | rfl | rfl <;> exact ⟨by kernel_rfl, of_decide_eq_true (by kernel_rfl)⟩) hW' rfl rfl (by kernel_rfl) Tryz.underlying4 hb⟩
noncomputable def wargs : Array Value := #[.slice none 0 0, .int .i64 0, .int .i64 0, .int .i64 0]
theorem laid_met (os : Os) : laidMet Tryz.prog Rows.spansAtRow.laid ((laidWorld os).forCall (fun _ _ => 0) ⟨#[], wargs, []⟩).memory :=
  laidMet_of_run' 8 (by kernel_rfl) (by kernel_rfl)
theorem reads (os : Os) {H : Type} (enc : TypeId × Value → H) : ∃ places, DataW.whole enc Tryz.prog ((laidWorld os).forCall (fun _ _ => 0) ⟨#[], wargs, []⟩).memory Tryz.f3.params.toList Rows.spansAtSpec.vars false wargs.toList 8 = some ([.nil, .lit (.int .i64 0), .lit (.int .i64 0), .lit (.int .i64 0)], [], places) :=
  ⟨[], by kernel_rfl⟩
theorem lifted (os : Os) (started : os.Started) (H : Type) (enc : TypeId × Value → H) (F : Stop.Interp) :
    ReturnsInHanded {} Tryz.checked os 3 .any ((OpenSpec.ofChange Rows.spansAtSpec).preRow enc Tryz.prog Tryz.f3 Rows.spansAtRow.domain false Rows.spansAtRow.laid) (((OpenSpec.ofChange Rows.spansAtSpec).at F).post enc Tryz.prog Tryz.f3 false true false false) := by
  obtain ⟨places, hx⟩ := reads os enc
  refine returnsInHanded_of_row (C := Tryz.checked) (s := OpenSpec.ofChange Rows.spansAtSpec) own started (by kernel_rfl) Tryz.func3
    (witness_row_at (enc := enc) (C := Tryz.checked) false (laidWorld os) wargs rfl (by kernel_rfl) (by kernel_rfl) (by kernel_rfl)
      (OpenSpec.preRow_of_cond 8 hx (by kernel_rfl) (fun k hk => by cases hk) (by kernel_rfl) (laid_met os))) ?_
  intro W base args ds gs before hval hW _ _ _ hL _ _
  exact contract H enc W base args ds gs before hval hW hL
theorem said : Rows.SpansAtSaid :=
  OpenClaim.holds_of_cond 3 Tryz.f3 rfl rfl rfl rfl rfl rfl rfl ⟨rfl, rfl, rfl, rfl, rfl⟩ rfl rfl rfl rfl rfl (by kernel_rfl) Tryz.func3 (by kernel_rfl)
    (of_decide_eq_true (by kernel_rfl)) (by unfold Func.isWrapper; first | (rw [if_pos (by decide +kernel)]; kernel_rfl) | (rw [if_neg (by decide +kernel)]; exact ⟨rfl, rfl⟩))
    (fun os started H enc _ F => by rw [OpenClaim.pre_eq_preRow]; exact lifted os started H enc F)
theorem plain (f : FuncId) (fn : Func) (hf : Tryz.pinned.checked.prog.funcNamed "syntagm/syntagmlaw20.SpansAt" = some f) (hfn : Tryz.pinned.checked.prog.funcs[f]? = some fn) :
    true = Tryz.pinned.checked.prog.looks [] ∧ ∀ (j : Nat) t, fn.params[j]? = some t → Tryz.pinned.checked.prog.wantsStandIn t = false := by
  obtain rfl : f = 3 := Option.some.inj ((show Tryz.prog.funcNamed "syntagm/syntagmlaw20.SpansAt" = some 3 by kernel_rfl).symm.trans hf) |>.symm
  obtain rfl : fn = Tryz.f3 := (Option.some.inj (Tryz.func3.symm.trans hfn)).symm
  refine ⟨by kernel_rfl, fun j t ht => ?_⟩
  rw [show Tryz.f3.params = #[22, 3, 3, 3] from Tryz.params3] at ht
  have hm := Array.mem_of_getElem? ht
  have : t = 22 ∨ t = 3 := by simpa using hm
  rcases this with rfl | rfl
  · exact (show Tryz.prog.wantsStandIn 22 = false by kernel_rfl)
  · exact (show Tryz.prog.wantsStandIn 3 = false by kernel_rfl)
end spansAt
theorem spansAt_holds : Rows.SpansAtCardSaid :=
  Claim7.holds_tied_plain_at .later [] _ _ _ _ spansAt.said (fun _ h => by cases h) (by kernel_rfl) (fun _ h => by cases h) spansAt_row_tie rfl ⟨rfl, rfl⟩ (by kernel_rfl) rfl spansAt.plain (by kernel_rfl)
end Go.Proofs.YtpnchcbbiboabaaGreatDoor
