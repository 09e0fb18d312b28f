/- A grammar that comes in, opened. -/
import Derived.Test.YtpnchcbbiboabaaGreatDoorBase
import Derived.Test.YtpnchcbbiboabaaGreatDoorAbv
import Derived.Lib.SmallJoins
import Derived.Deep.Slices
import Derived.Deep.Fields
namespace Go.Proofs.YtpnchcbbiboabaaGreatDoor
open Go.Joins Go.ChangeShapes Go.WideShapes Go.RowKit Go.Deep
set_option maxRecDepth 100000
section
variable {H : Type} {enc : TypeId × Value → H} {P : Program} {w : World} {base : Nat} {spare : Nat → Bool} {held : Bool}
theorem open_slice_fields {t e : TypeId} {fs : Array Field} {fuel : Nat} {cs : List Value} {x : DataW H × List MemPlace} (ht : P.underlying t = some (.slice e)) (he : P.underlying e = some (.struct fs))
    (hone : oneCellFields P fs = true) (hC : P.cellsOf e = fs.size) (h : DataW.trod enc P w base spare held fuel t cs = some x) :
    (cs = [.slice none 0 0] ∧ x = (.nil, [])) ∨
    ∃ (a : Addr) (len cap m : Nat) (D : Nat → DataW H) (Pl : Nat → List MemPlace), cs = [.slice (some a) len cap] ∧ base ≤ a.block ∧ len ≤ cap ∧ cap ≤ maxLen ∧ m = (if spare a.block then cap else len) ∧
      x = (.slice ((List.range len).map D) ((List.range (m - len)).map fun j => D (len + j)), MemPlace.row a (m * fs.size) ++ (List.range m).flatMap Pl) ∧
      ∀ i, i < m → ∃ (ys : List (DataW H × List MemPlace)) (n : Nat), D i = .agg (ys.map (·.1)) ∧ Pl i = ys.flatMap (·.2) ∧ ys.length = fs.size ∧
        ∀ (j : Nat) (f : Field), fs[j]? = some f → ∃ (v : Value) (y : DataW H × List MemPlace), w.cell? (a.add (i * fs.size + j)) = some v ∧ ys[j]? = some y ∧ DataW.trod enc P w base spare held n f.type [v] = some y := by
  rcases open_slice ht h with h0 | ⟨a, len, cap, m, n, D, Pl, hcs, hb, hl, hm, hmm, hx, hi⟩
  · exact .inl h0
  · refine .inr ⟨a, len, cap, m, D, Pl, hcs, hb, hl, hm, hmm, by rw [hC] at hx; exact hx, fun i him => ?_⟩
    obtain ⟨cs', hc, ht'⟩ := hi i him
    rw [hC] at hc
    obtain ⟨ys, n', hn', hy, hlen, hyl, hf⟩ := DataW.trod_struct he ht'
    obtain ⟨_, hcl, hat⟩ := World.cells?_some hc
    simp only [Prod.mk.injEq] at hy
    refine ⟨ys, n', hy.1, hy.2, hyl, fun j f hj => ?_⟩
    obtain ⟨ho, hk⟩ := hone_of hone j f hj
    have hjl : j < fs.size := (Array.getElem?_eq_some_iff.1 hj).1
    have hcell := hat j hjl
    have hv : cs'[j]? = some (cs'[j]'(by omega)) := List.getElem?_eq_getElem (by omega)
    have h1 := hf j f hj
    rw [ho, hk] at h1
    have hone' : (cs'.drop j).take 1 = [cs'[j]'(by omega)] := by
      rw [List.drop_eq_getElem_cons (by omega)]
      rfl
    rw [hone'] at h1
    have hys : ys[j]? = some (ys[j]'(by omega)) := List.getElem?_eq_getElem (by omega)
    refine ⟨_, _, ?_, hys, h1.trans hys⟩
    rw [← Go.Deep.add_add, hcell, hv]
theorem open_agg5 {r : Reach} {b0 : Nat} {t : TypeId} {f0 f1 f2 f3 f4 : Field} {v : Value} {d : DataW H} {p : List MemPlace} (hs : P.underlying t = some (.struct #[f0, f1, f2, f3, f4])) (hone : oneCellFields P #[f0, f1, f2, f3, f4] = true) (hC : P.cellsOf t = 5)
    (hv : Value.okWide P w r b0 t v) (h : DataW.Trod enc P w base spare held t v d p) :
    ∃ (v0 v1 v2 v3 v4 : Value) (y0 y1 y2 y3 y4 : DataW H × List MemPlace) (n : Nat), v = .agg #[v0, v1, v2, v3, v4] ∧ d = .agg [y0.1, y1.1, y2.1, y3.1, y4.1] ∧ p = y0.2 ++ (y1.2 ++ (y2.2 ++ (y3.2 ++ y4.2))) ∧
      DataW.trod enc P w base spare held n f0.type [v0] = some y0 ∧ DataW.trod enc P w base spare held n f1.type [v1] = some y1 ∧ DataW.trod enc P w base spare held n f2.type [v2] = some y2 ∧ DataW.trod enc P w base spare held n f3.type [v3] = some y3 ∧ DataW.trod enc P w base spare held n f4.type [v4] = some y4 := by
  obtain ⟨cs, rfl, hsz⟩ := okWide_struct hs hv
  obtain ⟨l⟩ := cs
  match l, hsz.trans hC with
  | [c0, c1, c2, c3, c4], _ =>
    obtain ⟨fuel, hf⟩ := h
    obtain ⟨xs, n, _, hx, _, hlen, hg⟩ := DataW.trod_struct hs hf
    obtain ⟨o0, k0⟩ := hone_of hone 0 f0 rfl
    obtain ⟨o1, k1⟩ := hone_of hone 1 f1 rfl
    obtain ⟨o2, k2⟩ := hone_of hone 2 f2 rfl
    obtain ⟨o3, k3⟩ := hone_of hone 3 f3 rfl
    obtain ⟨o4, k4⟩ := hone_of hone 4 f4 rfl
    match xs, hlen with
    | [y0, y1, y2, y3, y4], _ =>
      simp only [Prod.mk.injEq] at hx
      exact ⟨c0, c1, c2, c3, c4, y0, y1, y2, y3, y4, n, rfl, by simpa using hx.1, by simpa using hx.2, by simpa [Value.cells, o0, k0] using hg 0 f0 rfl, by simpa [Value.cells, o1, k1] using hg 1 f1 rfl, by simpa [Value.cells, o2, k2] using hg 2 f2 rfl, by simpa [Value.cells, o3, k3] using hg 3 f3 rfl, by simpa [Value.cells, o4, k4] using hg 4 f4 rfl⟩
end
noncomputable def fsOf : TypeDesc → Array Field
  | .struct fs => fs
  | _ => #[]
theorem u45 : Tryz.prog.underlying 45 = some (.struct (fsOf Tryz.t44.desc)) := by kernel_rfl
theorem u38 : Tryz.prog.underlying 38 = some (.struct (fsOf Tryz.t37.desc)) := by kernel_rfl
theorem u34 : Tryz.prog.underlying 34 = some (.struct (fsOf Tryz.t33.desc)) := by kernel_rfl
theorem one45 : oneCellFields Tryz.prog (fsOf Tryz.t44.desc) = true := by kernel_rfl
theorem one38 : oneCellFields Tryz.prog (fsOf Tryz.t37.desc) = true := by kernel_rfl
theorem one34 : oneCellFields Tryz.prog (fsOf Tryz.t33.desc) = true := by kernel_rfl
theorem size45 : (fsOf Tryz.t44.desc).size = 4 := by kernel_rfl
theorem size38 : (fsOf Tryz.t37.desc).size = 4 := by kernel_rfl
theorem cells45 : Tryz.prog.cellsOf 45 = 4 := by kernel_rfl
theorem cells38 : Tryz.prog.cellsOf 38 = 4 := by kernel_rfl
theorem cells34 : Tryz.prog.cellsOf 34 = 5 := by kernel_rfl
theorem f45 : (fsOf Tryz.t44.desc).toList.map (·.type) = [9, 9, 4, 3] := by kernel_rfl
theorem f38 : (fsOf Tryz.t37.desc).toList.map (·.type) = [9, 3, 36, 3] := by kernel_rfl
theorem f34 : (fsOf Tryz.t33.desc).toList.map (·.type) = [29, 30, 31, 32, 3] := by kernel_rfl
section
variable {H : Type} {enc : TypeId × Value → H} {W : World} {sp : Nat → Bool} {held : Bool} {fuel : Nat}
/-- A slice of elements of four cells. -/
theorem row4_open {t e : TypeId} {fs : Array Field} {ts : List TypeId} {v : Value} {x : DataW H × List MemPlace} (ht : Tryz.prog.underlying t = some (.slice e)) (he : Tryz.prog.underlying e = some (.struct fs)) (hone : oneCellFields Tryz.prog fs = true)
    (hC : Tryz.prog.cellsOf e = 4) (hsz : fs.size = 4) (hts : fs.toList.map (·.type) = ts) (hf : DataW.trod enc Tryz.prog W 0 sp held fuel t [v] = some x) :
    ∃ (ao : Option Addr) (b off n c : Nat) (V : Nat → Value), v = .slice ao n c ∧ (0 < n → ao = some ⟨b, off, none⟩) ∧ (0 < n → b < W.heap.size) ∧ n ≤ 9223372036854775807 ∧ Row4 W b off n V ∧
      ∀ i j, i < n → j < 4 → ∀ T, ts[j]? = some T → ∃ (y : DataW H × List MemPlace) (m : Nat), DataW.trod enc Tryz.prog W 0 sp held m T [V (i * 4 + j)] = some y := by
  rcases open_slice_fields ht he hone (hC.trans hsz.symm) hf with ⟨h1, _⟩ | ⟨a, len, cap, m, D, Pl, h1, _, h3, h4, h5, _, h7⟩
  · simp only [List.cons.injEq, and_true] at h1
    subst h1
    exact ⟨none, 0, 0, 0, 0, fun _ => undef, rfl, fun h => absurd h (Nat.lt_irrefl _), fun h => absurd h (Nat.lt_irrefl _), by omega, ⟨fun j hj => absurd hj (by omega)⟩, fun i j hi => absurd hi (Nat.not_lt_zero _)⟩
  · simp only [List.cons.injEq, and_true] at h1
    subst h1
    have hlm : len ≤ m := by rw [h5]; split <;> omega
    have cell : ∀ i j, i < len → j < 4 → ∃ v, W.cell? (a.add (i * 4 + j)) = some v ∧ ∀ T, ts[j]? = some T → ∃ (y : DataW H × List MemPlace) (m : Nat), DataW.trod enc Tryz.prog W 0 sp held m T [v] = some y := fun i j hi hj => by
      obtain ⟨ys, n', _, _, _, hfld⟩ := h7 i (by omega)
      have hlt : j < fs.size := by omega
      obtain ⟨v, y, hc, _, ht'⟩ := hfld j fs[j] (Array.getElem?_eq_getElem hlt)
      rw [hsz] at hc
      refine ⟨v, hc, fun T hT => ⟨y, n', ?_⟩⟩
      rw [← hts, List.getElem?_map, Array.getElem?_toList, Array.getElem?_eq_getElem hlt] at hT
      simp only [Option.map_some, Option.some.injEq] at hT
      rw [← hT]; exact ht'
    have hspot : 0 < len → a = ⟨a.block, a.off, none⟩ := fun h0 => by
      obtain ⟨z, hz, _⟩ := cell 0 0 h0 (by omega)
      obtain ⟨ab, ao, asp⟩ := a
      simp only [Addr.add, Nat.zero_mul, Nat.add_zero, if_true, World.cell?] at hz
      split at hz
      · cases asp with
        | none => rfl
        | some s => simp at hz
      · cases hz
    have at_ : ∀ i j, i < len → j < 4 → ∃ v, W.cell? ⟨a.block, a.off + (i * 4 + j), none⟩ = some v ∧ ∀ T, ts[j]? = some T → ∃ (y : DataW H × List MemPlace) (m : Nat), DataW.trod enc Tryz.prog W 0 sp held m T [v] = some y := fun i j hi hj => by
      obtain ⟨z, hz, hT⟩ := cell i j hi hj
      rw [hspot (by omega)] at hz
      refine ⟨z, ?_, hT⟩
      rw [← hz]
      simp only [Addr.add]
      split
      · rename_i h0; rw [h0, Nat.add_zero]
      · rfl
    refine ⟨some a, a.block, a.off, len, cap, fun k => (W.cell? ⟨a.block, a.off + k, none⟩).getD undef, rfl, fun h0 => by rw [← hspot h0], fun h0 => ?_, by unfold maxLen at h4; omega, ⟨fun k hk => ?_⟩, fun i j hi hj T hT => ?_⟩
    · obtain ⟨z, hz, _⟩ := at_ 0 0 h0 (by omega)
      rcases Nat.lt_or_ge a.block W.heap.size with h | h
      · exact h
      · simp [World.cell?, Array.getElem?_eq_none h] at hz
    · obtain ⟨z, hz, _⟩ := at_ (k / 4) (k % 4) (by omega) (by omega)
      rw [show k / 4 * 4 + k % 4 = k by omega] at hz
      rw [hz]; rfl
    · obtain ⟨z, hz, hT'⟩ := at_ i j hi hj
      simp only [hz, Option.getD_some]
      exact hT' T hT
theorem slice_open {t e : TypeId} {v : Value} {x : DataW H × List MemPlace} (ht : Tryz.prog.underlying t = some (.slice e)) (hf : DataW.trod enc Tryz.prog W 0 sp held fuel t [v] = some x) : ∃ (ao : Option Addr) (n c : Nat), v = .slice ao n c ∧ n ≤ 9223372036854775807 := by
  rcases open_slice ht hf with ⟨h1, _⟩ | ⟨a, len, cap, m, n, D, Pl, h1, _, h3, h4, _⟩
  · simp only [List.cons.injEq, and_true] at h1
    exact ⟨none, 0, 0, h1, by omega⟩
  · simp only [List.cons.injEq, and_true] at h1
    exact ⟨some a, len, cap, h1, by unfold maxLen at h4; omega⟩
end
end Go.Proofs.YtpnchcbbiboabaaGreatDoor
