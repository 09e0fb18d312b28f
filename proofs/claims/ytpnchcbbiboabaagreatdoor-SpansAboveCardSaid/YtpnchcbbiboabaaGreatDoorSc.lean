/- The shadow machine (a compiler and an interpreter over abstract memory, made for the kernel), and that what it comes to the model comes to: part 3. -/
import Derived.Test.YtpnchcbbiboabaaGreatDoorSb
import Derived.Below
/- The shadow machine: regions that draw their order, tenth part: operations that call nobody and store nothing. -/
namespace Go.Sh
set_option linter.unusedSimpArgs false
set_option linter.unusedVariables false
set_option linter.unusedSectionVars false
noncomputable section
variable {P : Program} {E : Env} {R : Rec}
section
variable {fid nt : Nat} {l : Option Nat} {ops : Array Oper} {items : List (COp × Nat)} {base : Nat} {s : Nat → DSt} (Γ : Reg P E R fid nt l ops items base s)
    {S : Sites} {kind : CallKind} {cs0 : List Frame} {β0 : Bij} {h0 : Tr SO} {w0 : World} {H : Tr SO} {sds : List SDef} {n : Nat} {rc : RC} {Op D : Nat → Prop} {a : Act} {cl : List Frame} {w : World} {β : Bij}
include Γ
/-- An operation that is not heavy is done; mem: what a look sees there. -/
theorem light_ok {b : Frame} {k : List Item} {rest : List Nat} (hT : TInv ops s nt D a.tmps β) (hM : MInv S items base s kind cs0 β0 h0 w0 H sds n rc Op D a.defers cl w β) {j : Nat} (hj : Next? ops D j) (hnh : ∀ c bb, items[j]? = some (c, bb) → clsOf c.k = .heavy → want (s j).tm c.g = false)
    (hread : ∀ dst g f bb, items[j]? = some ((⟨dst, g, .read f⟩ : COp), bb) → want (s j).tm g = true → ∃ v, PutR (s j).tm dst v (s (j + 1)).tm ∧ f H (s j).tm = some v) :
    ∃ a' w' β', TInv ops s nt (fun i => D i ∨ i = j) a'.tmps β' ∧ MInv S items base s kind cs0 β0 h0 w0 H sds n rc Op (fun i => D i ∨ i = j) a'.defers cl w' β' ∧
      Steps P (lone (b.atR a (.inRegion ops (j :: rest) :: k)) cl w) (lone (b.atR a' (.inRegion ops rest :: k)) cl w') := by
  obtain ⟨hnd, o, ho, hed⟩ := hj
  have hj : Next? ops D j := ⟨hnd, o, ho, hed⟩
  obtain ⟨c, hit, hop⟩ := Γ.item ho
  have hjl : j < items.length := (List.getElem?_eq_some_iff.1 hit).1
  have hs := stepI Γ.run hit
  have hE : OpE β (s j).tm a o.op := opE_ok Γ hM.hr.glob hT hj ho (ds := a.defers)
  have hW := want_ok Γ hT hj ho hop.guard
  obtain ⟨dst, g, kk⟩ := c
  have hdst : dst = o.dst := hop.dst
  subst hdst
  have hlt := hop.lt
  have hnd' : ∀ v w', (execOp a.eval o).run P w = .ok (.value v) w' → ∀ c, o.op ≠ .defer c := fun v w' e1 c hc => by
    rw [execOp] at e1; simp only [hc, Sem.run_bind] at e1
    cases hq : (resolve a.eval c o.type).run P w <;> rw [hq] at e1 <;> simp at e1
  -- what a value comes to
  have fin : ∀ {v : SV} {v' : Value} {w' : World} {β' : Bij}, want (s j).tm g = true → (execOp a.eval o).run P w = .ok (.value v') w' → VR β' v v' → Ext β β' → PutR (s j).tm o.dst v (s (j + 1)).tm →
      MInv S items base s kind cs0 β0 h0 w0 H sds n rc Op (fun i => D i ∨ i = j) a.defers cl w' β' →
      ∃ a' w' β', TInv ops s nt (fun i => D i ∨ i = j) a'.tmps β' ∧ MInv S items base s kind cs0 β0 h0 w0 H sds n rc Op (fun i => D i ∨ i = j) a'.defers cl w' β' ∧
        Steps P (lone (b.atR a (.inRegion ops (j :: rest) :: k)) cl w) (lone (b.atR a' (.inRegion ops rest :: k)) cl w') := by
    intro v v' w' β' hw hr hv he hp hm
    exact ⟨a.put o.dst v', w', β', t_next Γ hT hj ho hlt hp he hv (ds := a.defers), by rw [put_defers]; exact hm, .one (stepX_value ho (by rw [hW]; exact hw) (.inr (hnd' _ _ hr)) hr)⟩
  have noalloc : (want (s j).tm g = false ∨ ∀ f, kk ≠ .alloc f) → ∀ so, ¬ AllocAt items s j so := by
    rintro hx so ⟨d1, g1, f1, b1, sh1, e1, e2, e3⟩
    rw [hit] at e1; cases e1
    rcases hx with hx | hx
    · rw [hx] at e2; cases e2
    · exact hx f1 rfl
  cases hw : want (s j).tm g with
  | false =>
    have hp : PutR (s j).tm o.dst (.tup []) (s (j + 1)).tm := by
      generalize s j = A at hs hw ⊢
      generalize s (j + 1) = B at hs ⊢
      cases hs with
      | skip hw' ht => exact ht
      | pure hw' => rw [hw'] at hw; cases hw
      | read hw' => rw [hw'] at hw; cases hw
      | alloc hw' => rw [hw'] at hw; cases hw
      | heavy hw' => rw [hw'] at hw; cases hw
    refine ⟨a.put o.dst undef, w, β, t_next Γ hT hj ho hlt hp (Ext.refl _) (VR_undef β) (ds := a.defers), by rw [put_defers]; exact m_still Γ hM (noalloc (.inl hw)), .one ?_⟩
    have := stepR_op_skip (P := P) (b := b) (a := a) (k := k) (cs := cl) (w := w) (ops := ops) (i := j) (rest := rest) (by simp [ho, hW, hw])
    rw [ho] at this; exact this
  | true =>
    cases kk with
    | heavy hk => have h9 := hnh _ _ hit rfl; simp only at h9; rw [h9] at hw; cases hw
    | read f =>
      obtain ⟨v, hp, hf⟩ := hread _ _ _ _ hit hw
      obtain ⟨v', e1, e2⟩ := hop.op S β (s j).tm a H n w hM.hr hE v hf o rfl
      exact fin hw e1 e2 (Ext.refl _) hp (m_still Γ hM (noalloc (.inr fun f e => by cases e)))
    | pure f =>
      have hex : ∃ v, f (s j).tm = some v ∧ PutR (s j).tm o.dst v (s (j + 1)).tm := by
        generalize s j = A at hs hw ⊢
        generalize s (j + 1) = B at hs ⊢
        cases hs with
        | skip hw' ht => rw [hw'] at hw; cases hw
        | pure hw' hf ht => exact ⟨_, hf, ht⟩
      obtain ⟨v, hf, hp⟩ := hex
      obtain ⟨v', e1, e2⟩ := hop.op β (s j).tm a hE v hf o rfl w
      exact fin hw e1 e2 (Ext.refl _) hp (m_still Γ hM (noalloc (.inr fun f e => by cases e)))
    | alloc f =>
      have hex : ∃ so sh, f (s j).tm = some (so, sh) ∧ PutR (s j).tm o.dst (sh.val (base + j)) (s (j + 1)).tm := by
        generalize s j = A at hs hw ⊢
        generalize s (j + 1) = B at hs ⊢
        cases hs with
        | skip hw' ht => rw [hw'] at hw; cases hw
        | alloc hw' hf ht => exact ⟨_, _, hf, ht⟩
      obtain ⟨so, sh, hf, hp⟩ := hex
      obtain ⟨x, m, w', v', e1, e2, e3, e4, e5, e6⟩ := hop.op β (s j).tm a hE so sh hf o rfl w
      have hfree := hM.free j hjl hnd
      obtain ⟨e7, e8⟩ := e6 S (base + j) hfree
      exact fin hw e1 e7 (Ext.upd _ hfree) hp (m_alloc Γ hM hjl hnd ⟨_, _, _, _, _, hit, hw, hf⟩ e2 e3 e4 e5 e8)
end
end
end Go.Sh

/- The shadow machine: regions that draw their order, eleventh part: a heavy operation as the machine steps through it. -/
namespace Go.Sh
set_option linter.unusedSimpArgs false
set_option linter.unusedVariables false
set_option linter.unusedSectionVars false
noncomputable section
variable {P : Program} {E : Env} {R : Rec}
section
variable {b : Frame} {nt : Nat} {l : Option Nat} {ops : Array Oper} {items : List (COp × Nat)} {base : Nat} {s : Nat → DSt} (Γ : Reg P E R b.fn nt l ops items base s)
    {cs0 : List Frame} {β0 : Bij} {h0 : Tr SO} {w0 : World} {H : Tr SO} {sds : List SDef} {n : Nat} {rc : RC} {Op D : Nat → Prop} {a : Act} {cl : List Frame} {w : World} {β : Bij}
    (hEnv : EnvOk P E) (hR : RecOk P E R)
include Γ hEnv hR
theorem heavy_ok {k : List Item} {rest : List Nat} (hl : RoundR β b l) (hT : TInv ops s nt D a.tmps β) (hM : MInv (sitesOf P E) items base s b.kind cs0 β0 h0 w0 H sds n rc Op D a.defers cl w β) {j : Nat} (hj : Next? ops D j)
    {dst : Option Nat} {g : Go.Sh.G} {hk : HK} {bb : Nat} (hit : items[j]? = some (⟨dst, g, .heavy hk⟩, bb)) (hw : want (s j).tm g = true) {st : St} (hs : heavyS E R ⟨b.fn, l⟩ dst hk (s j).tm sds H n rc nx = some (.norm, st))
    (htm : ∀ q, st.tm.get q = (s (j + 1)).tm.get q) :
    ∃ a' cl' w' β', TInv ops s nt (fun i => D i ∨ i = j) a'.tmps β' ∧ MInv (sitesOf P E) items base s b.kind cs0 β0 h0 w0 st.heap st.ds st.nx st.rc Op (fun i => D i ∨ i = j) a'.defers cl' w' β' ∧ Ext β β' ∧
      Steps P (lone (b.atR a (.inRegion ops (j :: rest) :: k)) cl w) (lone (b.atR a' (.inRegion ops rest :: k)) cl' w') := by
  obtain ⟨hnd, o, ho, hed⟩ := hj
  have hj : Next? ops D j := ⟨hnd, o, ho, hed⟩
  obtain ⟨c, hit', hop⟩ := Γ.item ho
  rw [hit] at hit'
  cases hit'
  have hE : OpE β (s j).tm a o.op := opE_ok Γ hM.hr.glob hT hj ho (ds := a.defers)
  have hW := want_ok Γ hT hj ho hop.guard
  have hdst : dst = o.dst := hop.dst
  subst hdst
  have hdone := heavy_done (b := b) (cs0 := cs0) (k := k) (cs := cl) (rest := rest) hEnv hR ho (by rw [hW]; exact hw) hM.hr hE hM.ds hM.cs hl rfl hop.op hs
  rcases hdone with ⟨v, β1, ds1, h1, n1, rc1, v', a1, cl1, w1, r1, r2, r3, r4, r5, r6, r7, r8⟩ | ⟨ch, ch', k', β1, ds1, h1, n1, rc1, a1, cl1, w1, r1, _⟩
  · obtain ⟨tm', q1, q2⟩ := put_inv r1
    cases q1
    have hp : PutR (s j).tm o.dst v (s (j + 1)).tm := fun q => by rw [← htm q]; exact q2 q
    refine ⟨a1.put o.dst v', cl1, w1, β1, ?_, ?_, r4.ext, r8⟩
    · have := t_next Γ hT hj ho hop.lt hp r4.ext r2 (ds := a1.defers)
      rw [← r6] at this
      exact this
    · rw [put_defers]
      exact m_run Γ hM (fun so ⟨d1, g1, f1, b1, sh1, e1, e2, e3⟩ => by rw [hit] at e1; cases e1) r3 r4 r5 r7
  · cases r1
end
end
end Go.Sh

/- The shadow machine: regions that draw their order, twelfth part: steps where the heavy operations done are those ahead of a place. -/
namespace Go.Sh
set_option linter.unusedSimpArgs false
set_option linter.unusedVariables false
set_option linter.unusedSectionVars false
noncomputable section
variable {P : Program} {E : Env} {R : Rec}
section
variable {b : Frame} {nt : Nat} {l : Option Nat} {ops : Array Oper} {items : List (COp × Nat)} {base : Nat} {s : Nat → DSt} (Γ : Reg P E R b.fn nt l ops items base s)
    {cs0 : List Frame} {β0 : Bij} {h0 : Tr SO} {w0 : World} {D : Nat → Prop} {a : Act} {cl : List Frame} {w : World} {β : Bij}
    (hEnv : EnvOk P E) (hR : RecOk P E R)
/-- Normal: the heavy operations done are those ahead of p. -/
structure Norm (P : Program) (E : Env) (b : Frame) (nt : Nat) (ops : Array Oper) (items : List (COp × Nat)) (base : Nat) (s : Nat → DSt) (cs0 : List Frame) (β0 : Bij) (h0 : Tr SO) (w0 : World) (p : Nat) (D : Nat → Prop) (a : Act) (cl : List Frame) (w : World) (β : Bij) : Prop where
  le : p ≤ items.length
  hv : ∀ q, HeavyAt items q → (D q ↔ q < p)
  t : TInv ops s nt D a.tmps β
  m : MInv (sitesOf P E) items base s b.kind cs0 β0 h0 w0 (s p).h (s p).ds (s p).n (s p).rc (Open s p) D a.defers cl w β
include Γ hEnv hR
theorem norm_light {k : List Item} {rest : List Nat} {p : Nat} (hN : Norm P E b nt ops items base s cs0 β0 h0 w0 p D a cl w β) {j : Nat} (hj : Next? ops D j) (hnh : ¬ HeavyAt items j) :
    ∃ a' w' β', Norm P E b nt ops items base s cs0 β0 h0 w0 p (fun i => D i ∨ i = j) a' cl w' β' ∧ Steps P (lone (b.atR a (.inRegion ops (j :: rest) :: k)) cl w) (lone (b.atR a' (.inRegion ops rest :: k)) cl w') := by
  obtain ⟨a', w', β', r1, r2, r3⟩ := light_ok (b := b) (k := k) (rest := rest) Γ hN.t hN.m hj (fun c bb hc hh => absurd ⟨_, hc, hh⟩ hnh) (fun dst g f bb hc hw => by
    refine read_ok Γ.run hc hw hN.le (fun q hq hb => ?_) (fun q it hq hh hb => ?_)
    · obtain ⟨o, ho, _⟩ := hj.2
      obtain ⟨c', hc', _⟩ := Γ.item ho
      rw [hc] at hc'; cases hc'
      exact (hN.hv q hq).1 (ahead_done Γ hN.t hj hb)
    · rcases Nat.lt_or_ge q p with h1 | h1
      · have hDq := (hN.hv q ⟨it, hq, hh⟩).2 h1
        have hql : q < items.length := (List.getElem?_eq_some_iff.1 hq).1
        obtain ⟨o, c', _, hc', _⟩ := Γ.oper hql
        rw [hq] at hc'; cases hc'
        exact absurd (hN.t.down q j hDq hb) hj.1
      · exact h1)
  exact ⟨a', w', β', ⟨hN.le, fun q hq => by
    rw [← hN.hv q hq]
    exact ⟨fun x => x.resolve_right fun e => hnh (e ▸ hq), .inl⟩, r1, r2⟩, r3⟩
theorem norm_heavy {k : List Item} {rest : List Nat} (hl : RoundR β b l) {p : Nat} (hN : Norm P E b nt ops items base s cs0 β0 h0 w0 p D a cl w β) {j : Nat} (hj : Next? ops D j) (hjh : HeavyAt items j) (hall : ∀ q, q < j → HeavyAt items q → D q) :
    ∃ a' cl' w' β', Norm P E b nt ops items base s cs0 β0 h0 w0 (j + 1) (fun i => D i ∨ i = j) a' cl' w' β' ∧ Steps P (lone (b.atR a (.inRegion ops (j :: rest) :: k)) cl w) (lone (b.atR a' (.inRegion ops rest :: k)) cl' w') := by
  have hpj : p ≤ j := by
    rcases Nat.lt_or_ge j p with h1 | h1
    · exact absurd ((hN.hv j hjh).2 h1) hj.1
    · exact h1
  obtain ⟨it, hit, hcl⟩ := hjh
  have hjh : HeavyAt items j := ⟨it, hit, hcl⟩
  have hjl : j < items.length := (List.getElem?_eq_some_iff.1 hit).1
  have hbt : (s j).h = (s p).h ∧ (s j).ds = (s p).ds ∧ (s j).n = (s p).n ∧ (s j).rc = (s p).rc ∧ (s j).last = (s p).last ∧ (∀ x ∈ (s j).pend, x ∈ (s p).pend ∨ p ≤ x.i) ∧ (∀ x ∈ (s p).pend, x ∈ (s j).pend) := by
    obtain ⟨m, rfl⟩ : ∃ m, j = p + m := ⟨j - p, by omega⟩
    exact Γ.between (by omega) (fun q h1 h2 h3 => by have := (hN.hv q h3).1 (hall q h2 h3); omega)
  obtain ⟨e1, e2, e3, e4, _, e5, e6⟩ := hbt
  have hv' : ∀ q, HeavyAt items q → ((D q ∨ q = j) ↔ q < j + 1) := fun q hq => by
    constructor
    · rintro (h1 | h1)
      · have := (hN.hv q hq).1 h1; omega
      · omega
    · intro h1
      by_cases c : q = j
      · exact .inr c
      · exact .inl (hall q (by omega) hq)
  have hM : MInv (sitesOf P E) items base s b.kind cs0 β0 h0 w0 (s j).h (s j).ds (s j).n (s j).rc (Open s p) D a.defers cl w β := by rw [e1, e2, e3, e4]; exact hN.m
  have hop : ∀ x ∈ (s j).pend, Open s p x.i := fun x hx => (e5 x hx).elim (fun h => .inr ⟨x, h, rfl⟩) .inl
  have hs := stepI Γ.run hit
  obtain ⟨c, bb⟩ := it
  obtain ⟨g1, g2⟩ := Γ.pend (Nat.le_of_lt hjl)
  cases hw : want (s j).tm c.g with
  | false =>
    obtain ⟨a', w', β', r1, r2, r3⟩ := light_ok (b := b) (k := k) (rest := rest) Γ hN.t hM hj (fun c' bb' hc _ => by rw [hit] at hc; cases hc; exact hw) (fun dst g f bb' hc _ => by rw [hit] at hc; cases hc; cases hcl)
    have hun := step_unwanted (s := s) Γ.run (j := j) (c := c) (p := planAt items j (c, bb)) (by
      have := plans_spec items j 0
      simp only [List.drop_zero, hvAt, alAt, Nat.zero_add] at this
      rw [this, hit]; rfl) hw
    obtain ⟨u1, u2, u3, u4, _, u6⟩ := hun
    refine ⟨a', cl, w', β', ⟨hjl, hv', r1, ?_⟩, r3⟩
    rw [u2, u3, u4]
    refine m_same r2 (fun q => by rw [u1]) (fun i hi => ?_)
    rcases hi with hi | ⟨x, hx, hxi⟩
    · exact .inl (by omega)
    · rw [u6] at hx; rw [← hxi]; exact hop x hx
  | true =>
    have hex : ∃ dst g hk h' pend' st, c = ⟨dst, g, .heavy hk⟩ ∧ CommitR (s j).h (s j).pend (planAt items j (c, bb)).commit h' pend' ∧ heavyS E R ⟨b.fn, l⟩ dst hk (s j).tm (s j).ds h' (s j).n (s j).rc nx = some (.norm, st) ∧
        st.tm = (s (j + 1)).tm ∧ st.ds = (s (j + 1)).ds ∧ st.heap = (s (j + 1)).h ∧ st.nx = (s (j + 1)).n ∧ st.rc = (s (j + 1)).rc ∧ (s (j + 1)).pend = pend' := by
      simp only at hs
      generalize planAt items j (c, bb) = pl at hs ⊢
      generalize s j = A at hs hw ⊢
      generalize s (j + 1) = B at hs ⊢
      cases hs with
      | skip hw' ht => simp only at hw; rw [hw'] at hw; cases hw
      | pure => cases hcl
      | read => cases hcl
      | alloc => cases hcl
      | heavy hw' ht hc hk hs' => exact ⟨_, _, _, _, _, _, rfl, hc, hk, rfl, rfl, rfl, rfl, rfl, rfl⟩
    obtain ⟨dst, g, hk, h', pend', st, rfl, hc, hrun, q1, q2, q3, q4, q5, q6⟩ := hex
    obtain ⟨o, ho, _⟩ := hj.2
    have hbb : bb = (befs [] ops.toList).getD j 0 := by
      obtain ⟨c', hc', _⟩ := Γ.item ho
      rw [hit] at hc'; cases hc'; rfl
    have hcD : ∀ i ∈ (planAt items j (⟨dst, g, .heavy hk⟩, bb)).commit, D i := fun i hi => by
      have : i ∈ (alAt items j).filter (Nat.testBit bb) := hi
      rw [List.mem_filter] at this
      exact ahead_done Γ hN.t hj (by rw [ahead, ← hbb]; exact this.2)
    have hsub := commit_ok (S := sitesOf P E) hc hcD hM.hr hM.fr (m_pend Γ hM (Nat.le_of_lt hjl) hop)
    have hM2 := m_commit Γ hM (Nat.le_of_lt hjl) hop hc hcD (Op' := Open s (j + 1)) (fun i hi => by
      rcases hi with hi | ⟨x, hx, hxi⟩
      · exact ⟨.inl (by omega), fun x hx _ => by have := (g1 x hx).1; omega⟩
      · rw [q6] at hx
        obtain ⟨b1, b2⟩ := hsub.2.2.2.1 x hx
        refine ⟨by rw [← hxi]; exact hop x b1, fun y hy hyc hyi => ?_⟩
        rw [hxi, ← hyi] at b2; exact b2 hyc)
    obtain ⟨a', cl', w', β', r1, r2, _, r4⟩ := heavy_ok (k := k) (rest := rest) Γ hEnv hR hl hN.t hM2 hj hit hw hrun (fun q => by rw [q1])
    rw [q2, q3, q4, q5] at r2
    exact ⟨a', cl', w', β', ⟨hjl, hv', r1, r2⟩, r4⟩
end
end
end Go.Sh

/- The shadow machine: regions that draw their order, thirteenth part: two stores of two blocks. -/
namespace Go.Sh
set_option linter.unusedSimpArgs false
set_option linter.unusedVariables false
set_option linter.unusedSectionVars false
noncomputable section
variable {P : Program} {E : Env} {R : Rec}

/-- Whether a number may be laid down depends on no trie. -/
theorem Tr.setK_any {α γ δ : Type} (n : Nat) : ∀ (t : Tr α) (k : Nat) (x : α) (c : Tr α → Option γ) (y : γ), t.setK n k x c = some y → ∀ (t2 : Tr α) (x2 : α) (c2 : Tr α → Option δ), (∀ t', ∃ z, c2 t' = some z) → ∃ z, t2.setK n k x2 c2 = some z := by
  induction n with
  | zero => intro t k x c y h; cases h
  | succ n ih =>
    intro t k x c y h t2 x2 c2 hc
    cases k with
    | zero => cases t2 <;> exact hc _
    | succ j =>
      have e0 : Nat.mod j 2 = j % 2 := rfl
      have hex : ∃ (t' : Tr α) (c' : Tr α → Option γ), t'.setK n (Nat.div j 2) x c' = some y := by
        cases t with
        | nil =>
          have h2 : Nat.rec (motive := fun _ => Option γ) (Tr.setK n .nil (Nat.div j 2) x (fun l => c (.node none l .nil))) (fun _ _ => Tr.setK n .nil (Nat.div j 2) x (fun r => c (.node none .nil r))) (Nat.mod j 2) = some y := h
          rw [e0] at h2
          rcases (show j % 2 = 0 ∨ j % 2 = 1 by omega) with e | e <;> rw [e] at h2 <;> exact ⟨_, _, h2⟩
        | node v l r =>
          have h2 : Nat.rec (motive := fun _ => Option γ) (Tr.setK n l (Nat.div j 2) x (fun l => c (.node v l r))) (fun _ _ => Tr.setK n r (Nat.div j 2) x (fun r => c (.node v l r))) (Nat.mod j 2) = some y := h
          rw [e0] at h2
          rcases (show j % 2 = 0 ∨ j % 2 = 1 by omega) with e | e <;> rw [e] at h2 <;> exact ⟨_, _, h2⟩
      obtain ⟨t', c', h3⟩ := hex
      cases t2 with
      | nil =>
        show ∃ z, Nat.rec (motive := fun _ => Option δ) (Tr.setK n .nil (Nat.div j 2) x2 (fun l => c2 (.node none l .nil))) (fun _ _ => Tr.setK n .nil (Nat.div j 2) x2 (fun r => c2 (.node none .nil r))) (Nat.mod j 2) = some z
        rw [e0]
        rcases (show j % 2 = 0 ∨ j % 2 = 1 by omega) with e | e <;> rw [e] <;> exact ih t' _ x c' y h3 _ _ _ (fun _ => hc _)
      | node v l r =>
        show ∃ z, Nat.rec (motive := fun _ => Option δ) (Tr.setK n l (Nat.div j 2) x2 (fun l => c2 (.node v l r))) (fun _ _ => Tr.setK n r (Nat.div j 2) x2 (fun r => c2 (.node v l r))) (Nat.mod j 2) = some z
        rw [e0]
        rcases (show j % 2 = 0 ∨ j % 2 = 1 by omega) with e | e <;> rw [e] <;> exact ih t' _ x c' y h3 _ _ _ (fun _ => hc _)
theorem put_any {tm : Tr SV} {dst : Option Nat} {v : SV} {c : After} {y : Sig × St} (h : put tm dst v c = some y) (c2 : After) (hc : ∀ t', ∃ z, c2 t' = some z) : ∃ z, put tm dst v c2 = some z := by
  cases dst with
  | none => exact hc _
  | some d => exact Tr.setK_any deep tm d v c y h tm v c2 hc
/-- A store, on other memory that has the same block. -/
theorem store_move {tm : Tr SV} {ds : List SDef} {h h2 : Tr SO} {n : Nat} {rc : RC} {dst : Option Nat} {size b off : Nat} {vs : List SV} {st : St} (hs : storeS tm ds h n rc dst nx size (.ptr b off) vs = some (.norm, st)) (heq : h2.get b = h.get b) :
    (st.ds = ds ∧ st.nx = n ∧ st.rc = rc ∧ (∀ q, st.tm.get q = if dst = some q then some (.tup []) else tm.get q) ∧ ∀ q, q ≠ b → st.heap.get q = h.get q) ∧
    ∃ st2, storeS tm ds h2 n rc dst nx size (.ptr b off) vs = some (.norm, st2) ∧ (∀ q, st2.tm.get q = st.tm.get q) ∧ st2.ds = ds ∧ st2.nx = n ∧ st2.rc = rc ∧ ∀ q, st2.heap.get q = if q = b then st.heap.get b else h2.get q := by
  unfold storeS at hs
  obtain ⟨b', off', h1, hs⟩ := onPtr_inv hs
  cases h1
  obtain ⟨ob, h2', hs⟩ := onSome_inv hs
  obtain ⟨rw', cs, rfl, hs⟩ := onCells_inv hs
  obtain ⟨c1, hs⟩ := ifB_some hs
  obtain ⟨c2, hs⟩ := ifB_some hs
  obtain ⟨c3, hs⟩ := ifB_some hs
  obtain ⟨c4, hs⟩ := ifB_some hs
  rw [fL_eq] at hs
  have hset := hs
  obtain ⟨h', hs, hh⟩ := Tr.setK_inv _ _ _ _ _ _ hs
  obtain ⟨tm', hp, ht⟩ := put_inv hs
  cases hp
  refine ⟨⟨rfl, rfl, rfl, ht, fun q hq => by show h'.get q = _; rw [hh q, if_neg hq]⟩, ?_⟩
  obtain ⟨z, hz⟩ := Tr.setK_any deep _ _ _ _ _ hset h2 (.cells true (setL cs off vs)) (fun h => put tm dst (.tup []) fun tm => nx (.mk tm ds h n rc)) (fun t' => put_any hs _ fun t'' => ⟨_, rfl⟩)
  have hz' := hz
  obtain ⟨h3, hz, hh3⟩ := Tr.setK_inv _ _ _ _ _ _ hz
  obtain ⟨tm3, hp3, ht3⟩ := put_inv hz
  cases hp3
  refine ⟨.mk tm3 ds h3 n rc, ?_, fun q => (ht3 q).trans (ht q).symm, rfl, rfl, rfl, fun q => ?_⟩
  · unfold storeS
    simp only [onPtr, heq, h2', onSome_some, onCells, c1, c2, c3, c4, ifB_true, fL_eq]
    exact hz'
  · show h3.get q = if q = b then h'.get b else h2.get q
    rw [hh3 q, hh b, if_pos rfl]
end
end Go.Sh

/- The shadow machine: regions that draw their order, fourteenth part: which case. -/
namespace Go.Sh
set_option linter.unusedSimpArgs false
set_option linter.unusedVariables false
set_option linter.unusedSectionVars false
noncomputable section
variable {P : Program} {E : Env} {R : Rec}

theorem hvAt_head {items : List (COp × Nat)} : ∀ {j i : Nat} {more : List Nat}, hvAt items j = i :: more → HeavyAt items i ∧ i < j ∧ more = hvAt items i ∧ ∀ q, i < q → q < j → ¬ HeavyAt items q
  | 0, i, more, h => by simp [hvAt] at h
  | j + 1, i, more, h => by
    by_cases c : HeavyAt items j
    · rw [hvAt_succ_heavy items c] at h
      cases h
      exact ⟨c, Nat.lt_succ_self _, rfl, fun q h1 h2 => by omega⟩
    · rw [hvAt_succ_not items c] at h
      obtain ⟨h1, h2, h3, h4⟩ := hvAt_head h
      refine ⟨h1, by omega, h3, fun q h5 h6 => ?_⟩
      by_cases e : q = j
      · subst e; exact c
      · exact h4 q h5 (by omega)
/-- Two stores in no order, the last heavy ones. -/
structure TwinAt (ops : Array Oper) (items : List (COp × Nat)) (i j : Nat) (D : Nat → Prop) : Prop where
  lt : i < j
  hi : ∃ c b, items[i]? = some (c, b) ∧ isStore c.k = true
  hj : ∃ c b, items[j]? = some (c, b) ∧ isStore c.k = true
  below : ∀ q, q < i → HeavyAt items q → D q
  none : ∀ q, i < q → q < j → ¬ HeavyAt items q
  tail : ∀ m q, j < m → items[m]? = some q → clsOf q.1.k = .pure
  ahead : ∀ m q, items[m]? = some q → (clsOf q.1.k = .read ∨ clsOf q.1.k = .alloc) → ahead ops j m ∧ Go.Sh.ahead ops i m
section
variable {b : Frame} {nt : Nat} {l : Option Nat} {ops : Array Oper} {items : List (COp × Nat)} {base : Nat} {s : Nat → DSt} (Γ : Reg P E R b.fn nt l ops items base s)
    {cs0 : List Frame} {β0 : Bij} {h0 : Tr SO} {w0 : World} {D : Nat → Prop} {a : Act} {cl : List Frame} {w : World} {β : Bij}
include Γ
theorem chain_case {p : Nat} (hN : Norm P E b nt ops items base s cs0 β0 h0 w0 p D a cl w β) {j : Nat} (hj : Next? ops D j) (hjh : HeavyAt items j) : (∀ q, q < j → HeavyAt items q → D q) ∨ ∃ i, ¬ D i ∧ TwinAt ops items i j D := by
  obtain ⟨it, hit, hcl⟩ := hjh
  have hch := chain_spec items j 0 (by simpa [hvAt] using Γ.chain) it (by simpa using hit) hcl
  rw [Nat.zero_add] at hch
  have hjl : j < items.length := (List.getElem?_eq_some_iff.1 hit).1
  have hbits : ∀ {m : Nat} {x : COp × Nat}, items[m]? = some x → x.2 = (befs [] ops.toList).getD m 0 := fun {m x} hx => by
    obtain ⟨o, c, _, h2, _⟩ := Γ.oper (List.getElem?_eq_some_iff.1 hx).1
    rw [hx] at h2; cases h2; rfl
  have below : ∀ {i : Nat}, HeavyAt items i → D i → (∀ q, i < q → q < j → ¬ HeavyAt items q) → ∀ q, q < j → HeavyAt items q → D q := fun {i} hi hD hno q hq hqh => by
    have h1 := (hN.hv i hi).1 hD
    rcases Nat.lt_or_ge i q with h2 | h2
    · exact absurd hqh (hno q h2 hq)
    · exact (hN.hv q hqh).2 (by omega)
  unfold Chained at hch
  cases hv : hvAt items j with
  | nil =>
    refine .inl fun q hq hqh => ?_
    have := hvAt_has items hq hqh
    rw [hv] at this; cases this
  | cons i more =>
    rw [hv] at hch
    obtain ⟨h1, h2, h3, h4⟩ := hvAt_head hv
    by_cases hD : D i
    · exact .inl (below h1 hD h4)
    · rcases hch with hch | ⟨c1, ⟨q, c2, c3⟩, c4, c5, c6⟩
      · exact absurd (ahead_done Γ hN.t hj (by rw [ahead, ← hbits hit]; exact hch)) hD
      · refine .inr ⟨i, hD, h2, ⟨q.1, q.2, c2, c3⟩, ⟨it.1, it.2, hit, c1⟩, fun m hm hmh => ?_, h4, c5, fun m x hx hxc => ?_⟩
        · cases hmo : hvAt items i with
          | nil => have := hvAt_has items hm hmh; rw [hmo] at this; cases this
          | cons m1 rest =>
            obtain ⟨g1, g2, g3, g4⟩ := hvAt_head hmo
            have hDm := ahead_done Γ hN.t hj (i := m1) (by rw [ahead, ← hbits hit]; exact c4 m1 rest (h3.trans hmo))
            have h5 := (hN.hv m1 g1).1 hDm
            rcases Nat.lt_or_ge m1 m with h6 | h6
            · exact absurd hmh (g4 m h6 hm)
            · exact (hN.hv m hmh).2 (by omega)
        · obtain ⟨d1, y, d2, d3⟩ := c6 m x hx hxc
          exact ⟨by rw [Go.Sh.ahead, ← hbits hit]; exact d1, by rw [Go.Sh.ahead, ← hbits d2]; exact d3⟩
end
end
end Go.Sh

/- The shadow machine: regions that draw their order, fifteenth part: where the last store stands ahead of the one before it. -/
namespace Go.Sh
set_option linter.unusedSimpArgs false
set_option linter.unusedVariables false
set_option linter.unusedSectionVars false
noncomputable section
variable {P : Program} {E : Env} {R : Rec}
section
variable {b : Frame} {nt : Nat} {l : Option Nat} {ops : Array Oper} {items : List (COp × Nat)} {base : Nat} {s : Nat → DSt} (Γ : Reg P E R b.fn nt l ops items base s)
    {cs0 : List Frame} {β0 : Bij} {h0 : Tr SO} {w0 : World} {D : Nat → Prop} {a : Act} {cl : List Frame} {w : World} {β : Bij}
/-- j is done, i is not: what is left of memory's work is i's store. -/
structure Twin (P : Program) (E : Env) (R : Rec) (b : Frame) (nt : Nat) (l : Option Nat) (ops : Array Oper) (items : List (COp × Nat)) (base : Nat) (s : Nat → DSt) (cs0 : List Frame) (β0 : Bij) (h0 : Tr SO) (w0 : World) (i j : Nat) (H : Tr SO) (D : Nat → Prop) (a : Act) (cl : List Frame) (w : World) (β : Bij) : Prop where
  ni : ¬ D i
  dj : D j
  hi : HeavyAt items i
  others : ∀ q, HeavyAt items q → q ≠ i → D q
  looks : ∀ m q, items[m]? = some q → (clsOf q.1.k = .read ∨ clsOf q.1.k = .alloc) → D m
  t : TInv ops s nt D a.tmps β
  m : MInv (sitesOf P E) items base s b.kind cs0 β0 h0 w0 H (s items.length).ds (s items.length).n (s items.length).rc (Open s items.length) D a.defers cl w β
  fin : (∃ c bb, items[i]? = some (c, bb) ∧ want (s i).tm c.g = false ∧ ∀ q, (s items.length).h.get q = H.get q) ∨
    (∃ dst g hk bb st, items[i]? = some ((⟨dst, g, .heavy hk⟩ : COp), bb) ∧ want (s i).tm g = true ∧ heavyS E R ⟨b.fn, l⟩ dst hk (s i).tm (s items.length).ds H (s items.length).n (s items.length).rc nx = some (.norm, st) ∧
      (∀ q, st.tm.get q = (s (i + 1)).tm.get q) ∧ st.ds = (s items.length).ds ∧ st.nx = (s items.length).n ∧ st.rc = (s items.length).rc ∧ ∀ q, (s items.length).h.get q = st.heap.get q)
include Γ
theorem twin_light {k : List Item} {rest : List Nat} {i j : Nat} {H : Tr SO} (hN : Twin P E R b nt l ops items base s cs0 β0 h0 w0 i j H D a cl w β) {m : Nat} (hm : Next? ops D m) (hne : m ≠ i) :
    ∃ a' w' β', Twin P E R b nt l ops items base s cs0 β0 h0 w0 i j H (fun x => D x ∨ x = m) a' cl w' β' ∧ Steps P (lone (b.atR a (.inRegion ops (m :: rest) :: k)) cl w) (lone (b.atR a' (.inRegion ops rest :: k)) cl w') := by
  obtain ⟨a', w', β', r1, r2, r3⟩ := light_ok (b := b) (k := k) (rest := rest) Γ hN.t hN.m hm (fun c bb hc hh => absurd (hN.others m ⟨_, hc, hh⟩ hne) hm.1) (fun dst g f bb hc hw => absurd (hN.looks m _ hc (.inl rfl)) hm.1)
  exact ⟨a', w', β', ⟨fun h => h.elim hN.ni fun e => hne e.symm, .inl hN.dj, hN.hi, fun q h1 h2 => .inl (hN.others q h1 h2), fun x q h1 h2 => .inl (hN.looks x q h1 h2), r1, r2, hN.fin⟩, r3⟩
theorem twin_last (hEnv : EnvOk P E) (hR : RecOk P E R) (hl : RoundR β b l) {k : List Item} {rest : List Nat} {i j : Nat} {H : Tr SO} (hN : Twin P E R b nt l ops items base s cs0 β0 h0 w0 i j H D a cl w β) (hm : Next? ops D i) :
    ∃ a' cl' w' β', Norm P E b nt ops items base s cs0 β0 h0 w0 items.length (fun x => D x ∨ x = i) a' cl' w' β' ∧ Steps P (lone (b.atR a (.inRegion ops (i :: rest) :: k)) cl w) (lone (b.atR a' (.inRegion ops rest :: k)) cl' w') := by
  have hv : ∀ q, HeavyAt items q → ((D q ∨ q = i) ↔ q < items.length) := fun q hq => by
    constructor
    · intro _
      obtain ⟨it, h1, _⟩ := hq
      exact (List.getElem?_eq_some_iff.1 h1).1
    · intro _
      by_cases c : q = i
      · exact .inr c
      · exact .inl (hN.others q hq c)
  rcases hN.fin with ⟨c, bb, h1, h2, h3⟩ | ⟨dst, g, hk, bb, st, h1, h2, h3, h4, h5, h6, h7, h8⟩
  · obtain ⟨a', w', β', r1, r2, r3⟩ := light_ok (b := b) (k := k) (rest := rest) Γ hN.t hN.m hm (fun c' bb' hc _ => by rw [h1] at hc; cases hc; exact h2) (fun dst g f bb' hc hw => absurd (hN.looks i _ hc (.inl rfl)) hm.1)
    exact ⟨a', cl, w', β', ⟨Nat.le_refl _, hv, r1, m_same r2 h3 fun _ h => h⟩, r3⟩
  · obtain ⟨a', cl', w', β', r1, r2, _, r4⟩ := heavy_ok (k := k) (rest := rest) Γ hEnv hR hl hN.t hN.m hm h1 h2 h3 h4
    rw [h5, h6, h7] at r2
    exact ⟨a', cl', w', β', ⟨Nat.le_refl _, hv, r1, m_same r2 h8 fun _ h => h⟩, r4⟩
end
end
end Go.Sh

/- The shadow machine: regions that draw their order, sixteenth part: the last store goes ahead. -/
namespace Go.Sh
set_option linter.unusedSimpArgs false
set_option linter.unusedVariables false
set_option linter.unusedSectionVars false
noncomputable section
variable {P : Program} {E : Env} {R : Rec}
section
variable {fid nt : Nat} {l : Option Nat} {ops : Array Oper} {items : List (COp × Nat)} {base : Nat} {s : Nat → DSt} (Γ : Reg P E R fid nt l ops items base s)
include Γ
theorem ahead_lt : ∀ {j m : Nat}, j < items.length → ahead ops j m → m < j
  | j, m, hj, h => by
    obtain ⟨o, c, ho, _, _⟩ := Γ.oper hj
    obtain ⟨e, h1, h2, h3, h4⟩ := ahead_spec Γ.edges (by rw [Array.getElem?_toList]; exact ho) h
    rcases h4 with h4 | h4
    · omega
    · have := ahead_lt (show e.on < items.length by omega) h4
      omega
termination_by j => j
/-- What is known of a store's step in the text's order. -/
theorem store_at {j : Nat} {c : COp} {bb : Nat} (hit : items[j]? = some (c, bb)) (hst : isStore c.k = true) (hw : want (s j).tm c.g = true) :
    ∃ size xa xx b off h' pend', c.k = .heavy (.store size xa xx) ∧ ev (s j).tm xa = .ptr b off ∧ CommitR (s j).h (s j).pend ((alAt items j).filter (Nat.testBit bb)) h' pend' ∧
      (s (j + 1)).pend = pend' ∧ (s (j + 1)).last = some b ∧ twinOk (s j).tm (.store size xa xx) (match hvAt items j with | [] => false | i :: _ => !Nat.testBit bb i) (s j).last = true ∧
      storeS (s j).tm (s j).ds h' (s j).n (s j).rc c.dst nx size (.ptr b off) (cells (ev (s j).tm xx)) = some (.norm, .mk (s (j + 1)).tm (s (j + 1)).ds (s (j + 1)).h (s (j + 1)).n (s (j + 1)).rc) := by
  have hs := stepI Γ.run hit
  obtain ⟨dst, g, k⟩ := c
  cases k with
  | pure f => cases hst
  | read f => cases hst
  | alloc f => cases hst
  | heavy hk =>
    cases hk <;> try (cases hst; done)
    rename_i size xa xx
    have hpl : (planAt items j (⟨dst, g, .heavy (.store size xa xx)⟩, bb)).commit = (alAt items j).filter (Nat.testBit bb) ∧ (planAt items j (⟨dst, g, .heavy (.store size xa xx)⟩, bb)).twin = (match hvAt items j with | [] => false | i :: _ => !Nat.testBit bb i) := ⟨rfl, rfl⟩
    rw [← hpl.1, ← hpl.2]
    simp only at hs hw
    generalize planAt items j (⟨dst, g, .heavy (.store size xa xx)⟩, bb) = pl at hs ⊢
    generalize s j = A at hs hw ⊢
    generalize s (j + 1) = B at hs ⊢
    cases hs with
    | skip hw' ht => rw [hw'] at hw; cases hw
    | @heavy _ _ _ _ _ h' pend' st chks' hw' ht hc hk hs' =>
      have hk' : storeS A.tm A.ds h' A.n A.rc dst nx size (ev A.tm xa) (cells (ev A.tm xx)) = some (.norm, st) := by
        simpa only [heavyS, evK_eq] using hk
      have hptr : ∃ b off, ev A.tm xa = .ptr b off := by
        unfold storeS at hk'
        obtain ⟨b, off, h1, _⟩ := onPtr_inv hk'
        exact ⟨b, off, h1⟩
      obtain ⟨b, off, hp⟩ := hptr
      refine ⟨size, xa, xx, b, off, h', pend', rfl, hp, hc, rfl, by simp only [aimOf, hp], ht, ?_⟩
      rw [hp] at hk'
      obtain ⟨tm1, ds1, h1, n1, rc1⟩ := st
      exact hk'
end
end
end Go.Sh

/- The shadow machine: regions that draw their order, seventeenth part: the last store goes ahead of the one before it. -/
namespace Go.Sh
set_option linter.unusedSimpArgs false
set_option linter.unusedVariables false
set_option linter.unusedSectionVars false
noncomputable section
variable {P : Program} {E : Env} {R : Rec}
section
variable {b : Frame} {nt : Nat} {l : Option Nat} {ops : Array Oper} {items : List (COp × Nat)} {base : Nat} {s : Nat → DSt} (Γ : Reg P E R b.fn nt l ops items base s)
    {cs0 : List Frame} {β0 : Bij} {h0 : Tr SO} {w0 : World} {D : Nat → Prop} {a : Act} {cl : List Frame} {w : World} {β : Bij}
include Γ
theorem alAt_gone {i : Nat} (hil : i < items.length) (hih : HeavyAt items i) (hall : ∀ m q, items[m]? = some q → (clsOf q.1.k = .read ∨ clsOf q.1.k = .alloc) → ahead ops i m) : ∀ k, i + 1 + k ≤ items.length → alAt items (i + 1 + k) = [] := by
  have hmem : ∀ {j m : Nat}, m ∈ alAt items j → ∃ q, items[m]? = some q ∧ clsOf q.1.k = .alloc := by
    intro j
    induction j with
    | zero => intro m h; simp [alAt] at h
    | succ j ih =>
      intro m h
      simp only [alAt] at h
      cases hi : items[j]? with
      | none => rw [hi] at h; exact ih h
      | some q =>
        rw [hi] at h
        simp only at h
        cases hc : clsOf q.1.k <;> rw [hc] at h <;> simp only [] at h
        · exact ih h
        · exact ih h
        · cases h with
          | head => exact ⟨q, hi, hc⟩
          | tail _ h => exact ih h
        · exact ih (List.mem_filter.1 h).1
  intro k
  induction k with
  | zero =>
    intro _
    obtain ⟨it, h1, h2⟩ := hih
    obtain ⟨o, c, _, h3, _⟩ := Γ.oper hil
    rw [h1] at h3
    have hb : it.2 = (befs [] ops.toList).getD i 0 := by cases h3; rfl
    simp only [Nat.add_zero, alAt, h1, h2]
    rw [List.filter_eq_nil_iff]
    intro m hm
    obtain ⟨q, h4, h5⟩ := hmem hm
    have := hall m q h4 (.inr h5)
    rw [ahead, ← hb] at this
    simp [this]
  | succ k ih =>
    intro hk
    have hlt : i + 1 + k < items.length := by omega
    rw [show i + 1 + (k + 1) = (i + 1 + k) + 1 by omega]
    simp only [alAt, List.getElem?_eq_getElem hlt, ih (by omega)]
    cases hc : clsOf items[i + 1 + k].1.k <;> simp only [List.filter_nil]
    have := ahead_lt Γ hil (hall (i + 1 + k) _ (List.getElem?_eq_getElem hlt) (.inr hc))
    omega
end
end
end Go.Sh

/- The shadow machine: regions that draw their order, eighteenth part: the last store goes ahead of the one before it: how that begins. -/
namespace Go.Sh
set_option linter.unusedSimpArgs false
set_option linter.unusedVariables false
set_option linter.unusedSectionVars false
noncomputable section
variable {P : Program} {E : Env} {R : Rec}
section
variable {fid nt : Nat} {l : Option Nat} {ops : Array Oper} {items : List (COp × Nat)} {base : Nat} {s : Nat → DSt} (Γ : Reg P E R fid nt l ops items base s)
include Γ
theorem seg {p q : Nat} (hpq : p ≤ q) (hq : q ≤ items.length) (hn : ∀ r, p ≤ r → r < q → ¬ HeavyAt items r) :
    (s q).h = (s p).h ∧ (s q).ds = (s p).ds ∧ (s q).n = (s p).n ∧ (s q).rc = (s p).rc ∧ (s q).last = (s p).last := by
  obtain ⟨m, rfl⟩ : ∃ m, q = p + m := ⟨q - p, by omega⟩
  obtain ⟨h1, h2, h3, h4, h5, _⟩ := Γ.between hq hn
  exact ⟨h1, h2, h3, h4, h5⟩
theorem pend_sub {p : Nat} : ∀ {k : Nat}, p + k ≤ items.length → ∀ x ∈ (s (p + k)).pend, x ∈ (s p).pend ∨ p ≤ x.i
  | 0, _, x, h => .inl h
  | k + 1, hk, x, h => by
    have ih := pend_sub (p := p) (k := k) (by omega)
    have hlt : p + k < items.length := by omega
    have hs := stepI Γ.run (List.getElem?_eq_getElem hlt)
    rw [show p + (k + 1) = (p + k) + 1 by omega] at h
    generalize items[p + k] = it at hs
    obtain ⟨c, bb⟩ := it
    simp only at hs
    generalize hA : s (p + k) = A at hs ih
    generalize hB : s (p + k + 1) = B at hs h
    cases hs with
    | heavy hw ht hc hk hs' =>
      have hsub : ∀ {l h h' p p'}, CommitR h p l h' p' → (∀ x ∈ p', x ∈ p) := by
        intro l h h' p p' hc
        induction hc with
        | nil => exact fun x h => h
        | skip hn t ih => exact ih
        | take hn hh t ih => obtain ⟨_, t2, _, _⟩ := takeP_inv hn; exact fun x hx => t2 x (ih x hx)
      exact ih x (hsub hc x h)
    | alloc hw hf ht =>
      cases h with
      | head => exact .inr (Nat.le_add_right _ _)
      | tail _ h => exact ih x h
    | skip => exact ih x h
    | pure => exact ih x h
    | read => exact ih x h
theorem open_sub {p q : Nat} (hpq : p ≤ q) (hq : q ≤ items.length) {i : Nat} (h : Open s q i) : Open s p i := by
  rcases h with h | ⟨x, hx, hxi⟩
  · exact .inl (by omega)
  · obtain ⟨m, rfl⟩ : ∃ m, q = p + m := ⟨q - p, by omega⟩
    rcases pend_sub Γ hq x hx with h1 | h1
    · exact .inr ⟨x, h1, hxi⟩
    · exact .inl (by omega)
/-- A step that is not wanted. -/
theorem skip_at {j : Nat} {c : COp} {bb : Nat} (hit : items[j]? = some (c, bb)) (hw : want (s j).tm c.g = false) :
    (s (j + 1)).h = (s j).h ∧ (s (j + 1)).ds = (s j).ds ∧ (s (j + 1)).n = (s j).n ∧ (s (j + 1)).rc = (s j).rc ∧ (s (j + 1)).last = (s j).last ∧ (s (j + 1)).pend = (s j).pend := by
  refine step_unwanted (s := s) Γ.run (j := j) (c := c) (p := planAt items j (c, bb)) ?_ hw
  have := plans_spec items j 0
  simp only [List.drop_zero, hvAt, alAt, Nat.zero_add] at this
  rw [this, hit]; rfl
theorem heavy_store {dst : Option Nat} {size : Nat} {xa xx : X} {cx : Cx} {tm : Tr SV} {ds : List SDef} {h : Tr SO} {n : Nat} {rc : RC} : heavyS E R cx dst (.store size xa xx) tm ds h n rc nx = storeS tm ds h n rc dst nx size (ev tm xa) (cells (ev tm xx)) := by
  simp only [heavyS, evK_eq]
end
section
variable {b : Frame} {nt : Nat} {l : Option Nat} {ops : Array Oper} {items : List (COp × Nat)} {base : Nat} {s : Nat → DSt} (Γ : Reg P E R b.fn nt l ops items base s)
    {cs0 : List Frame} {β0 : Bij} {h0 : Tr SO} {w0 : World} {D : Nat → Prop} {a : Act} {cl : List Frame} {w : World} {β : Bij}
    (hEnv : EnvOk P E) (hR : RecOk P E R)
include Γ hEnv hR
theorem twin_enter {k : List Item} {rest : List Nat} (hl : RoundR β b l) {p : Nat} (hN : Norm P E b nt ops items base s cs0 β0 h0 w0 p D a cl w β) {i j : Nat} (hni : ¬ D i) (hT : TwinAt ops items i j D) (hj : Next? ops D j) :
    ∃ H a' cl' w' β', Twin P E R b nt l ops items base s cs0 β0 h0 w0 i j H (fun x => D x ∨ x = j) a' cl' w' β' ∧ Steps P (lone (b.atR a (.inRegion ops (j :: rest) :: k)) cl w) (lone (b.atR a' (.inRegion ops rest :: k)) cl' w') := by
  obtain ⟨ci, bi, hii, hsi⟩ := hT.hi
  obtain ⟨cj, bj, hij, hsj⟩ := hT.hj
  have hstoreH : ∀ {c : COp}, isStore c.k = true → clsOf c.k = .heavy := by
    rintro ⟨d, g, kk⟩ h
    cases kk <;> first | rfl | cases h
  have hih : HeavyAt items i := ⟨_, hii, hstoreH hsi⟩
  have hjh : HeavyAt items j := ⟨_, hij, hstoreH hsj⟩
  have hil : i < items.length := (List.getElem?_eq_some_iff.1 hii).1
  have hjl : j < items.length := (List.getElem?_eq_some_iff.1 hij).1
  have hlt := hT.lt
  have hpi : p ≤ i := by
    rcases Nat.lt_or_ge i p with h1 | h1
    · exact absurd ((hN.hv i hih).2 h1) hni
    · exact h1
  have htail : ∀ q, j + 1 ≤ q → q < items.length → ¬ HeavyAt items q := fun q h1 _ ⟨it, h2, h3⟩ => by
    have := hT.tail q it (by omega) h2
    rw [this] at h3; cases h3
  obtain ⟨a1, a2, a3, a4, a5⟩ := seg Γ hpi (by omega) (fun r h1 h2 h3 => by have := (hN.hv r h3).1 (hT.below r h2 h3); omega)
  obtain ⟨b1, b2, b3, b4, b5⟩ := seg Γ (show i + 1 ≤ j by omega) (by omega) (fun r h1 h2 => hT.none r (by omega) h2)
  obtain ⟨c1, c2, c3, c4, c5⟩ := seg Γ (show j + 1 ≤ items.length by omega) (Nat.le_refl _) htail
  have hM : MInv (sitesOf P E) items base s b.kind cs0 β0 h0 w0 (s i).h (s i).ds (s i).n (s i).rc (Open s p) D a.defers cl w β := by rw [a1, a2, a3, a4]; exact hN.m
  have hopi : ∀ x ∈ (s i).pend, Open s p x.i := fun x hx => open_sub Γ hpi (by omega) (.inr ⟨x, hx, rfl⟩)
  have hothers : ∀ q, HeavyAt items q → q ≠ i → D q ∨ q = j := fun q hq hne => by
    rcases Nat.lt_trichotomy q i with h1 | h1 | h1
    · exact .inl (hT.below q h1 hq)
    · exact absurd h1 hne
    · rcases Nat.lt_trichotomy q j with h2 | h2 | h2
      · exact absurd hq (hT.none q h1 h2)
      · exact .inr h2
      · exact absurd hq (htail q (by omega) (by obtain ⟨it, h3, _⟩ := hq; exact (List.getElem?_eq_some_iff.1 h3).1))
  have hlooks : ∀ m q, items[m]? = some q → (clsOf q.1.k = .read ∨ clsOf q.1.k = .alloc) → D m := fun m q h1 h2 => ahead_done Γ hN.t hj (hT.ahead m q h1 h2).1
  have hnij : ¬ (D i ∨ i = j) := fun h => h.elim hni (by omega)
  -- no block is made behind i
  have hlow : ∀ x ∈ (s items.length).pend, x.i < i := fun x hx => by
    obtain ⟨_, _, dst, g, f, bb, sh, h1, _⟩ := (Γ.pend (Nat.le_refl items.length)).1 x hx
    exact ahead_lt Γ hil (hT.ahead x.i _ h1 (.inr rfl)).2
  have hpendN : ∀ m, m ≤ items.length → i + 1 ≤ m → ∀ x ∈ (s items.length).pend, x ∈ (s m).pend := fun m h1 h2 x hx => by
    obtain ⟨r, hr⟩ : ∃ r, items.length = m + r := ⟨items.length - m, by omega⟩
    have := pend_sub Γ (p := m) (k := r) (by omega) x (by rw [← hr]; exact hx)
    have h3 := hlow x hx
    rcases this with h | h
    · exact h
    · omega
  -- j's list of blocks that are told of
  have hnil : ∀ {bb : Nat}, (alAt items j).filter (Nat.testBit bb) = [] := fun {bb} => by
    have := alAt_gone Γ hil hih (fun m q h1 h2 => (hT.ahead m q h1 h2).2) (j - (i + 1)) (by omega)
    rw [show i + 1 + (j - (i + 1)) = j by omega] at this
    rw [this]; rfl
  have hahead : ∀ m ∈ (alAt items i).filter (Nat.testBit bi), D m := by
    have hmem : ∀ {j m : Nat}, m ∈ alAt items j → ∃ q, items[m]? = some q ∧ clsOf q.1.k = .alloc := by
      intro j
      induction j with
      | zero => intro m h; simp [alAt] at h
      | succ j ih =>
        intro m h
        simp only [alAt] at h
        cases hi : items[j]? with
        | none => rw [hi] at h; exact ih h
        | some q =>
          rw [hi] at h
          simp only at h
          cases hc : clsOf q.1.k <;> rw [hc] at h <;> simp only [] at h
          · exact ih h
          · exact ih h
          · cases h with
            | head => exact ⟨q, hi, hc⟩
            | tail _ h => exact ih h
          · exact ih (List.mem_filter.1 h).1
    intro m hm
    obtain ⟨q, h1, h2⟩ := hmem (List.mem_filter.1 hm).1
    exact hlooks m q h1 (.inr h2)
  -- what is known of j's store
  have hjw : want (s j).tm cj.g = true → ∃ dst g size xa xx bb off, cj = (⟨dst, g, .heavy (.store size xa xx)⟩ : COp) ∧ ev (s j).tm xa = .ptr bb off ∧
      (∀ bi, (s j).last = some bi → ¬ Nat.testBit bj i = true → bi ≠ bb) ∧
      storeS (s j).tm (s j).ds (s j).h (s j).n (s j).rc dst nx size (.ptr bb off) (cells (ev (s j).tm xx)) = some (.norm, .mk (s (j + 1)).tm (s (j + 1)).ds (s (j + 1)).h (s (j + 1)).n (s (j + 1)).rc) := by
    intro hw
    obtain ⟨size, xa, xx, bb, off, h', pend', e1, e2, e3, e4, e5, e6, e7⟩ := store_at Γ hij hsj hw
    obtain ⟨dst, g, kk⟩ := cj
    simp only at e1 e7
    subst e1
    rw [hnil] at e3
    cases e3
    refine ⟨dst, g, size, xa, xx, bb, off, rfl, e2, fun bl hbl hb => ?_, e7⟩
    have hv : ∃ more, hvAt items j = i :: more := by
      have h1 := hvAt_has items hlt hih
      cases hv : hvAt items j with
      | nil => rw [hv] at h1; cases h1
      | cons m more =>
        obtain ⟨g1, g2, g3, g4⟩ := hvAt_head hv
        rcases Nat.lt_trichotomy m i with h2 | h2 | h2
        · exact absurd hih (g4 i h2 hlt)
        · subst h2; exact ⟨more, rfl⟩
        · exact absurd g1 (hT.none m h2 g2)
    obtain ⟨more, hv⟩ := hv
    rw [hv, hbl] at e6
    have hb' : Nat.testBit bj i = false := by cases h : Nat.testBit bj i <;> simp_all
    simp only [hb', Bool.not_false, twinOk, aimOf, e2, Bool.not_eq_true'] at e6
    intro h; subst h; simp at e6
  have hnb : ¬ Nat.testBit bj i = true := fun h => by
    refine hni (ahead_done Γ hN.t hj (i := i) ?_)
    obtain ⟨o, ho, _⟩ := hj.2
    obtain ⟨c', hc', _⟩ := Γ.item ho
    rw [hij] at hc'; cases hc'
    exact h
  cases hwi : want (s i).tm ci.g with
  | false =>
    obtain ⟨u1, u2, u3, u4, u5, u6⟩ := skip_at Γ hii hwi
    have hM0 : MInv (sitesOf P E) items base s b.kind cs0 β0 h0 w0 (s j).h (s j).ds (s j).n (s j).rc (Open s items.length) D a.defers cl w β := by
      rw [b1, b2, b3, b4, u1, u2, u3, u4]
      exact m_same hM (fun q => rfl) (fun x hx => open_sub Γ (by omega) (Nat.le_refl _) hx)
    cases hwj : want (s j).tm cj.g with
    | false =>
      obtain ⟨v1, v2, v3, v4, v5, v6⟩ := skip_at Γ hij hwj
      obtain ⟨a', w', β', r1, r2, r3⟩ := light_ok (b := b) (k := k) (rest := rest) Γ hN.t hM0 hj (fun c' bb' hc _ => by rw [hij] at hc; cases hc; exact hwj) (fun dst g f bb' hc _ => by rw [hij] at hc; cases hc; cases hsj)
      refine ⟨(s items.length).h, a', cl, w', β', ⟨hnij, .inr rfl, hih, hothers, fun m q h1 h2 => .inl (hlooks m q h1 h2), r1, ?_, .inl ⟨ci, bi, hii, hwi, fun q => rfl⟩⟩, r3⟩
      rw [c1, c2, c3, c4, v1, v2, v3, v4]; exact r2
    | true =>
      obtain ⟨dst, g, size, xa, xx, bb, off, rfl, e2, _, e4⟩ := hjw hwj
      obtain ⟨a', cl', w', β', r1, r2, _, r4⟩ := heavy_ok (k := k) (rest := rest) Γ hEnv hR hl hN.t hM0 hj hij hwj (by rw [heavy_store Γ, e2]; exact e4) (fun q => rfl)
      refine ⟨(s items.length).h, a', cl', w', β', ⟨hnij, .inr rfl, hih, hothers, fun m q h1 h2 => .inl (hlooks m q h1 h2), r1, ?_, .inl ⟨ci, bi, hii, hwi, fun q => rfl⟩⟩, r4⟩
      rw [c1, c2, c3, c4]; exact r2
  | true =>
    obtain ⟨size, xa, xx, bb, off, h', pend', e1, e2, e3, e4, e5, e6, e7⟩ := store_at Γ hii hsi hwi
    obtain ⟨dst, g, kk⟩ := ci
    simp only at e1 e7
    subst e1
    obtain ⟨⟨s1, s2, s3, s4, s5⟩, _⟩ := store_move e7 (h2 := h') rfl
    simp only [St.ds, St.nx, St.rc, St.tm, St.heap] at s1 s2 s3 s4 s5
    have hsub := commit_ok (S := sitesOf P E) e3 hahead hM.hr hM.fr (m_pend Γ hM (Nat.le_of_lt hil) hopi)
    have hM1 := m_commit Γ hM (Nat.le_of_lt hil) hopi e3 hahead (Op' := Open s items.length) (fun x hx => by
      refine ⟨open_sub Γ (by omega) (Nat.le_refl _) hx, fun y hy hyc hyx => ?_⟩
      have hyi := ((Γ.pend (Nat.le_of_lt hil)).1 y hy).1
      rcases hx with hx | ⟨z, hz, hzx⟩
      · omega
      · have h1 := hpendN (i + 1) (by omega) (Nat.le_refl _) z hz
        rw [e4] at h1
        obtain ⟨_, b2⟩ := hsub.2.2.2.1 z h1
        rw [hzx, ← hyx] at b2; exact b2 hyc)
    have hM2 : MInv (sitesOf P E) items base s b.kind cs0 β0 h0 w0 h' (s j).ds (s j).n (s j).rc (Open s items.length) D a.defers cl w β := by
      rw [b2, b3, b4, s1, s2, s3]; exact hM1
    cases hwj : want (s j).tm cj.g with
    | false =>
      obtain ⟨v1, v2, v3, v4, v5, v6⟩ := skip_at Γ hij hwj
      obtain ⟨a', w', β', r1, r2, r3⟩ := light_ok (b := b) (k := k) (rest := rest) Γ hN.t hM2 hj (fun c' bb' hc _ => by rw [hij] at hc; cases hc; exact hwj) (fun dst g f bb' hc _ => by rw [hij] at hc; cases hc; cases hsj)
      refine ⟨h', a', cl, w', β', ⟨hnij, .inr rfl, hih, hothers, fun m q h1 h2 => .inl (hlooks m q h1 h2), r1, ?_, .inr ⟨dst, g, _, bi, .mk (s (i + 1)).tm (s (i + 1)).ds (s (i + 1)).h (s (i + 1)).n (s (i + 1)).rc, hii, hwi, ?_, fun q => rfl, ?_, ?_, ?_, fun q => ?_⟩⟩, r3⟩
      · rw [c2, c3, c4, v2, v3, v4]; exact r2
      · rw [heavy_store Γ, e2, c2, c3, c4, v2, v3, v4, b2, b3, b4, s1, s2, s3]
        rw [s1, s2, s3] at e7
        exact e7
      · show (s (i + 1)).ds = _; rw [c2, v2, b2]
      · show (s (i + 1)).n = _; rw [c3, v3, b3]
      · show (s (i + 1)).rc = _; rw [c4, v4, b4]
      · show _ = (s (i + 1)).h.get q; rw [c1, v1, b1]
    | true =>
      obtain ⟨dst2, g2, size2, xa2, xx2, bb2, off2, rfl, f2, f3, f4⟩ := hjw hwj
      have hne : bb ≠ bb2 := f3 bb (by rw [b5]; exact e5) hnb
      have heq : h'.get bb2 = (s j).h.get bb2 := by rw [b1, s5 bb2 (Ne.symm hne)]
      obtain ⟨⟨t1, t2, t3, t4, t5⟩, st2, g1, g2', g3, g4, g5, g6⟩ := store_move f4 heq
      simp only [St.ds, St.nx, St.rc, St.tm, St.heap] at t1 t2 t3 t4 t5 g2' g6
      obtain ⟨a', cl', w', β', r1, r2, _, r4⟩ := heavy_ok (k := k) (rest := rest) Γ hEnv hR hl hN.t hM2 hj hij hwj (by rw [heavy_store Γ, f2]; exact g1) (fun q => g2' q)
      have hg2 : st2.heap.get bb = h'.get bb := by
        have := g6 bb; rw [if_neg hne] at this; exact this
      obtain ⟨_, st3, k1, k2, k3, k4, k5, k6⟩ := store_move e7 hg2
      simp only [St.ds, St.nx, St.rc, St.tm, St.heap] at k2 k6
      have hd : (s items.length).ds = (s i).ds := by rw [c2, t1, b2, s1]
      have hn : (s items.length).n = (s i).n := by rw [c3, t2, b3, s2]
      have hrc : (s items.length).rc = (s i).rc := by rw [c4, t3, b4, s3]
      refine ⟨st2.heap, a', cl', w', β', ⟨hnij, .inr rfl, hih, hothers, fun m q h1 h2 => .inl (hlooks m q h1 h2), r1, ?_, .inr ⟨dst, g, _, bi, st3, hii, hwi, ?_, fun q => k2 q, ?_, ?_, ?_, fun q => ?_⟩⟩, r4⟩
      · rw [c2, c3, c4, t1, t2, t3]
        rw [g3, g4, g5] at r2
        exact r2
      · rw [heavy_store Γ, e2, hd, hn, hrc]; exact k1
      · rw [k3, hd]
      · rw [k4, hn]
      · rw [k5, hrc]
      · rw [c1]
        have k6q := k6 q
        have g6q := g6 q
        by_cases x : q = bb
        · subst x
          rw [if_pos rfl] at k6q
          rw [t5 q hne, b1]; exact k6q.symm
        · rw [if_neg x] at k6q
          by_cases y : q = bb2
          · subst y
            rw [if_pos rfl] at g6q
            exact (k6q.trans g6q).symm
          · rw [if_neg y] at g6q
            rw [t5 q y, b1, s5 q x]
            exact (k6q.trans g6q).symm
end
end
end Go.Sh

/- The shadow machine: regions that draw their order, last part: every order. -/
namespace Go.Sh
set_option linter.unusedSimpArgs false
set_option linter.unusedVariables false
set_option linter.unusedSectionVars false
noncomputable section
variable {P : Program} {E : Env} {R : Rec}
section
variable {b : Frame} {nt : Nat} {l : Option Nat} {ops : Array Oper} {items : List (COp × Nat)} {base : Nat} {s : Nat → DSt} (Γ : Reg P E R b.fn nt l ops items base s)
    {cs0 : List Frame} {β0 : Bij} {h0 : Tr SO} {w0 : World} {D : Nat → Prop} {a : Act} {cl : List Frame} {w : World} {β : Bij}
    (hEnv : EnvOk P E) (hR : RecOk P E R)
/-- In either mode. -/
def Any (P : Program) (E : Env) (R : Rec) (b : Frame) (nt : Nat) (l : Option Nat) (ops : Array Oper) (items : List (COp × Nat)) (base : Nat) (s : Nat → DSt) (cs0 : List Frame) (β0 : Bij) (h0 : Tr SO) (w0 : World) (D : Nat → Prop) (a : Act) (cl : List Frame) (w : World) (β : Bij) : Prop :=
  (∃ p, Norm P E b nt ops items base s cs0 β0 h0 w0 p D a cl w β) ∨ ∃ i j H, Twin P E R b nt l ops items base s cs0 β0 h0 w0 i j H D a cl w β
include Γ hEnv hR
theorem any_step {k : List Item} {rest : List Nat} (hl : RoundR β b l) (hA : Any P E R b nt l ops items base s cs0 β0 h0 w0 D a cl w β) {j : Nat} (hj : Next? ops D j) :
    ∃ a' cl' w' β', Any P E R b nt l ops items base s cs0 β0 h0 w0 (fun i => D i ∨ i = j) a' cl' w' β' ∧ Steps P (lone (b.atR a (.inRegion ops (j :: rest) :: k)) cl w) (lone (b.atR a' (.inRegion ops rest :: k)) cl' w') := by
  rcases hA with ⟨p, hN⟩ | ⟨i, i', H, hN⟩
  · by_cases hh : HeavyAt items j
    · rcases chain_case Γ hN hj hh with h1 | ⟨i, h1, h2⟩
      · obtain ⟨a', cl', w', β', r1, r2⟩ := norm_heavy (k := k) (rest := rest) Γ hEnv hR hl hN hj hh h1
        exact ⟨a', cl', w', β', .inl ⟨_, r1⟩, r2⟩
      · obtain ⟨H, a', cl', w', β', r1, r2⟩ := twin_enter (k := k) (rest := rest) Γ hEnv hR hl hN h1 h2 hj
        exact ⟨a', cl', w', β', .inr ⟨_, _, _, r1⟩, r2⟩
    · obtain ⟨a', w', β', r1, r2⟩ := norm_light (k := k) (rest := rest) Γ hEnv hR hN hj hh
      exact ⟨a', cl, w', β', .inl ⟨_, r1⟩, r2⟩
  · by_cases c : j = i
    · subst c
      obtain ⟨a', cl', w', β', r1, r2⟩ := twin_last (k := k) (rest := rest) Γ hEnv hR hl hN hj
      exact ⟨a', cl', w', β', .inl ⟨_, r1⟩, r2⟩
    · obtain ⟨a', w', β', r1, r2⟩ := twin_light (k := k) (rest := rest) Γ hN hj c
      exact ⟨a', cl, w', β', .inr ⟨_, _, _, r1⟩, r2⟩
omit Γ hEnv hR in
theorem Any.congr (hA : Any P E R b nt l ops items base s cs0 β0 h0 w0 D a cl w β) {D' : Nat → Prop} (h : ∀ i, D i ↔ D' i) : Any P E R b nt l ops items base s cs0 β0 h0 w0 D' a cl w β := by
  have : D = D' := funext fun i => propext (h i)
  subst this; exact hA
omit Γ hEnv hR in
theorem Any.ext (hA : Any P E R b nt l ops items base s cs0 β0 h0 w0 D a cl w β) : Ext β0 β := by
  rcases hA with ⟨p, hN⟩ | ⟨i, i', H, hN⟩
  · exact hN.m.fr.ext
  · exact hN.m.fr.ext
/-- Those listed. -/
def Lst (listed : Array Bool) (i : Nat) : Prop := listed.getD i false = true
def left (listed : Array Bool) : Nat := ((List.range listed.size).filter fun i => !listed.getD i false).length
omit Γ hEnv hR in
theorem left_set {listed : Array Bool} {i : Nat} (hi : i < listed.size) (hn : listed.getD i false = false) : left (listed.setIfInBounds i true) < left listed := by
  unfold left
  have h1 : ((List.range (listed.setIfInBounds i true).size).filter fun j => !(listed.setIfInBounds i true).getD j false) = ((List.range listed.size).filter fun j => !listed.getD j false).filter (fun j => decide (j ≠ i)) := by
    rw [Array.size_setIfInBounds, List.filter_filter]
    refine List.filter_congr fun j hj => ?_
    by_cases c : j = i
    · subst c; simp [hi]
    · rw [getD_set_ne false (Ne.symm c)]; simp [c]
  rw [h1]
  have hm : i ∈ (List.range listed.size).filter fun j => !listed.getD j false := by
    rw [List.mem_filter]; exact ⟨List.mem_range.2 hi, by simp only [hn]; rfl⟩
  generalize (List.range listed.size).filter (fun j => !listed.getD j false) = L at hm
  exact List.length_filter_lt_length_iff_exists.2 ⟨i, hm, by simp⟩
omit hEnv hR in
theorem all_listed {listed : Array Bool} (hs : listed.size = ops.size) (hr : Region.ready .any ops listed = []) : ∀ i, i < ops.size → Lst listed i := by
  intro i
  induction i using Nat.strongRecOn with
  | ind i ih =>
    intro hi
    cases hc : listed.getD i false with
    | true => exact hc
    | false =>
      have hm : i ∈ Region.ready .any ops listed := by
        rw [mem_ready]
        refine ⟨?_, ops[i], Array.getElem?_eq_getElem hi, fun e he hb => ?_⟩
        · have : i < listed.size := by omega
          rw [Array.getD_eq_getD_getElem?, Array.getElem?_eq_getElem this] at hc ⊢
          exact hc
        · have := edge_lt Γ.edges (j := i) (o := ops[i]) (by rw [Array.getElem?_toList]; exact Array.getElem?_eq_getElem hi) (by simpa using he) hb
          exact ih e.on this (by omega)
      rw [hr] at hm; cases hm
theorem any_run {k : List Item} : ∀ (fuel t : Nat) (listed : Array Bool) (a : Act) (cl : List Frame) (w : World) (β : Bij), listed.size = ops.size → left listed ≤ fuel → RoundR β0 b l →
    Any P E R b nt l ops items base s cs0 β0 h0 w0 (Lst listed) a cl w β →
    ∃ a' cl' w' β', Any P E R b nt l ops items base s cs0 β0 h0 w0 (fun i => i < ops.size) a' cl' w' β' ∧
      Steps P (lone (b.atR a (.inRegion ops (Region.linearise.go .any ops fuel t listed []) :: k)) cl w) (lone (b.atR a' (.inRegion ops [] :: k)) cl' w') := by
  intro fuel
  have done : ∀ (listed : Array Bool) (a : Act) (cl : List Frame) (w : World) (β : Bij), (∀ i, i < ops.size → Lst listed i) → Any P E R b nt l ops items base s cs0 β0 h0 w0 (Lst listed) a cl w β →
      Any P E R b nt l ops items base s cs0 β0 h0 w0 (fun i => i < ops.size) a cl w β := fun listed a cl w β h hA => by
    refine hA.congr fun i => ⟨fun hi => ?_, h i⟩
    rcases hA with ⟨p, hN⟩ | ⟨i1, i2, H, hN⟩
    · exact hN.t.lt i hi
    · exact hN.t.lt i hi
  induction fuel with
  | zero =>
    intro t listed a cl w β hsz hf hl hA
    refine ⟨a, cl, w, β, done listed a cl w β (fun i hi => ?_) hA, ⟨0, by simp [Region.linearise.go, runN]⟩⟩
    cases hc : listed.getD i false with
    | true => exact hc
    | false => have := left_set (show i < listed.size by omega) hc; omega
  | succ fuel ih =>
    intro t listed a cl w β hsz hf hl hA
    simp only [Region.linearise.go]
    change ∃ a' cl' w' β', _ ∧ Steps P (lone (b.atR a (.inRegion ops (match (Region.ready .any ops listed)[t % (Region.ready .any ops listed).length]? with
      | some i => Region.linearise.go .any ops fuel (t / (Region.ready .any ops listed).length) (listed.setIfInBounds i true) [i]
      | none => [].reverse) :: k)) cl w) _
    cases hi : (Region.ready .any ops listed)[t % (Region.ready .any ops listed).length]? with
    | none =>
      have hnil : Region.ready .any ops listed = [] := by
        cases hr : Region.ready .any ops listed with
        | nil => rfl
        | cons x xs =>
          rw [hr] at hi
          have hlt : t % (x :: xs).length < (x :: xs).length := Nat.mod_lt _ (by simp)
          simp at hi
          simp at hlt
          omega
      exact ⟨a, cl, w, β, done listed a cl w β (all_listed Γ hsz hnil) hA, ⟨0, by simp [runN]⟩⟩
    | some i =>
      simp only []
      rw [linearise_go_acc, List.reverse_singleton, List.singleton_append]
      have hm := List.mem_of_getElem? hi
      obtain ⟨h1, o, h2, h3⟩ := mem_ready.1 hm
      have hio : i < ops.size := (Array.getElem?_eq_some_iff.1 h2).1
      have hil : i < listed.size := by omega
      have hf0 : listed.getD i false = false := by
        rw [Array.getD_eq_getD_getElem?, Array.getElem?_eq_getElem hil] at h1 ⊢
        exact h1
      have hnx : Next? ops (Lst listed) i := ⟨fun h => (by rw [Lst, hf0] at h; cases h), o, h2, fun e he hb => h3 e (by simpa using he) hb⟩
      obtain ⟨a1, cl1, w1, β1, r1, r2⟩ := any_step (k := k) (rest := Region.linearise.go .any ops fuel (t / (Region.ready .any ops listed).length) (listed.setIfInBounds i true) []) Γ hEnv hR (hl.mono hA.ext) hA hnx
      have hA' : Any P E R b nt l ops items base s cs0 β0 h0 w0 (Lst (listed.setIfInBounds i true)) a1 cl1 w1 β1 := r1.congr fun j => by
        by_cases c : j = i
        · subst c; simp [Lst, hil]
        · simp only [Lst, getD_set_ne false (Ne.symm c), c, or_false]
      obtain ⟨a2, cl2, w2, β2, q1, q2⟩ := ih (t / (Region.ready .any ops listed).length) (listed.setIfInBounds i true) a1 cl1 w1 β1 (by simpa using hsz) (by have := left_set hil hf0; omega) hl hA'
      exact ⟨a2, cl2, w2, β2, q1, r2.trans q2⟩
end
theorem draw_ok (hEnv : EnvOk P E) (hR : RecOk P E R) : DrawOk P E R := by
  intro b cf nt hin id ops n pl hd l st sig st' hs cs0 β a cs w hsr hl k
  obtain ⟨cops, d1, d2, d3, d4, d5, d6⟩ := hd.ex
  obtain ⟨tm, ds, h, nn, rc⟩ := st
  have hs : drawOps E R ⟨b.fn, l⟩ nn pl 0 (.mk tm ds h (Nat.succ (nn + n)) rc) [] [] [] none = some (sig, st') := by
    simpa only [runDraw, fN_eq] using hs
  obtain ⟨s, e0, e1, h', e2, e3⟩ := drawOps_inv (s0 := ⟨tm, ds, h, Nat.succ (nn + n), rc, [], [], [], none⟩) hs
  generalize hit : cops.zip (befs [] ops.toList) = items at d2 d5
  have hpl : pl.length = items.length := by
    have : ∀ (l : List (COp × Nat)) (i : Nat) (a b : List Nat), (plans l i a b).length = l.length := by
      intro l
      induction l with
      | nil => intro i a b; rfl
      | cons p l ih => intro i a b; obtain ⟨c, bb⟩ := p; simp only [plans]; cases clsOf c.k <;> simp [ih]
    rw [d2, this]
  have Γ : Reg P E R b.fn nt l ops items nn s := ⟨⟨cops, d1, hit.symm⟩, d4, d5, d6, fun j c p hj => by
    have := e1 j c p (by rw [d2]; exact hj)
    simpa using this, by rw [e0]⟩
  have hlen := Γ.len
  have hn : n = items.length := by rw [d3, hpl]
  subst hn
  -- the start
  let w1 : World := { w with drawn := w.drawn + 1 }
  have sm : SameMem w w1 := ⟨rfl, rfl, rfl, rfl⟩
  have hH1 := hsr.hr.same sm
  let g := nn + items.length
  have hfg : β g = none := hsr.hr.fresh (Nat.le_add_right _ _)
  have hext := Ext.upd (0, 0, 0) hfg
  have hH := hH1.ghost (n' := Nat.succ (nn + items.length)) (g := g) (Nat.le_add_right _ _) (Nat.lt_succ_self _) (0, 0, 0)
  have hF := (FR.same sm (β := β) (H := h)).trans (FR.ghost hH1 (g := g) (Nat.le_add_right _ _) (0, 0, 0))
  have hlist : ∀ i, ¬ Lst (Array.replicate ops.size false) i := fun i hi => by
    simp only [Lst] at hi
    rw [Array.getD_eq_getD_getElem?, Array.getElem?_replicate] at hi
    split at hi <;> simp at hi
  have hN : Norm P E b nt ops items nn s cs0 β h w 0 (Lst (Array.replicate ops.size false)) a cs w1 (upd β g (0, 0, 0)) := by
    refine ⟨Nat.zero_le _, fun q hq => ⟨fun h => absurd h (hlist q), fun h => by omega⟩, ⟨fun j h => absurd h (hlist j), fun j i h => absurd h (hlist j), hsr.tr.size, fun t q hq h1 h2 => ?_⟩,
      ⟨hsr.hr.dom, ⟨_, upd_self _ _ _⟩, fun i hi _ => ?_, ?_, ?_, ?_, ?_, fun i o hi => absurd hi (hlist i), fun i j o o' hi => absurd hi (hlist i)⟩⟩
    · have hstay : (s q).tm.get t = (s 0).tm.get t := by
        have := tm_stays (s := s) (pl := plans items 0 [] []) Γ.run (t := t) (i := 0) (k := q) (by rw [← d2, hpl, hlen]; omega) (fun i c p hi1 hi2 hpi hci => by
          have hil : i < items.length := by rw [← hpl, d2]; exact (List.getElem?_eq_some_iff.1 hpi).1
          obtain ⟨oi, ci, a1, a2, a3⟩ := Γ.oper hil
          have hps := plans_spec items i 0
          simp only [List.drop_zero, hvAt, alAt, Nat.zero_add] at hps
          rw [hpi, a2] at hps
          simp only [Option.map_some, Option.some.injEq, Prod.mk.injEq] at hps
          rw [hps.1, a3.dst] at hci
          exact absurd (h1 i oi (by omega) a1 hci) (hlist i))
        simpa using this
      have h3 := (hsr.tr.val t).mono hext
      rw [ev_t] at h3 ⊢
      rw [hstay, e0]; exact h3
    · rw [upd_ne _ _ (by show nn + i ≠ nn + items.length; omega)]; exact hsr.hr.fresh (Nat.le_add_right _ _)
    · rw [e0]; exact hH
    · rw [e0]; exact hF
    · rw [e0]; exact hsr.ds.mono hext
    · rw [e0]; exact hsr.cs.mono hext
  have hmode : Region.schedule (P.follows .mixedOrders) ops (w.tape w.drawn (.order b.fn id)) = Region.linearise.go .any ops ops.size (w.tape w.drawn (.order b.fn id)) (Array.replicate ops.size false) [] := by
    simp only [Region.schedule, hEnv.any, Bool.true_or, if_true]
    rfl
  obtain ⟨a', cl', w', β', r1, r2⟩ := any_run (k := k) Γ hEnv hR ops.size (w.tape w.drawn (.order b.fn id)) (Array.replicate ops.size false) a cs w1 _ (by simp) (by
    unfold left
    refine Nat.le_trans (List.length_filter_le _ _) ?_
    simp) hl (.inl ⟨0, hN⟩)
  cases e3
  rcases r1 with ⟨p, r1⟩ | ⟨i, j, H, r1⟩
  · obtain ⟨t1, t2, t3, t4, _⟩ := seg Γ r1.le (Nat.le_refl _) (fun r h1 h2 h3 => by have := (r1.hv r h3).1 (by rw [← hlen]; exact h2); omega)
    have hM : MInv (sitesOf P E) items nn s b.kind cs0 β h w (s items.length).h (s items.length).ds (s items.length).n (s items.length).rc (Open s p) (fun i => i < ops.size) a'.defers cl' w' β' := by rw [t1, t2, t3, t4]; exact r1.m
    have hpd := m_pend Γ hM (Nat.le_refl _) (fun x hx => open_sub Γ r1.le (Nat.le_refl _) (.inr ⟨x, hx, rfl⟩))
    have hall : PendOk (sitesOf P E) β' (s items.length).h w w' (s items.length).pend fun _ => True := by
      have hQ : ∀ x ∈ (s items.length).pend, x.i < ops.size := fun x hx => by rw [← hlen]; exact ((Γ.pend (Nat.le_refl _)).1 x hx).1
      exact ⟨fun x hx _ => hpd.ok x hx (hQ x hx), fun x hx y hy _ _ => hpd.apart x hx y hy (hQ x hx) (hQ y hy), hpd.ids⟩
    rw [hpl] at e2 ⊢
    obtain ⟨q1, q2⟩ := all_ok e2 hM.hr hM.fr hall
    refine ⟨β', a', cl', w', ⟨⟨r1.t.size, fun t => ?_⟩, hM.ds, q1, hM.cs⟩, q2, ?_⟩
    · have := r1.t.val t ops.size (Nat.le_refl _) (fun i o hi _ _ => hi) (fun i o hi _ _ => hi)
      rw [← hlen] at this
      exact this
    · refine Steps.head stepR_region_draw ?_
      rw [hmode]
      exact r2.trans (.one stepR_region_end)
  · obtain ⟨it, h1, _⟩ := r1.hi
    exact absurd (by rw [← hlen]; exact (List.getElem?_eq_some_iff.1 h1).1) r1.ni
end
end Go.Sh

/- The shadow machine: what it comes to, the model comes to. -/
namespace Go.Sh
set_option linter.unusedSimpArgs false
set_option linter.unusedVariables false
set_option linter.unusedSectionVars false
noncomputable section
variable {P : Program} {E : Env}
theorem rec_none : RecOk P E Rec.none := by
  refine ⟨?_, ?_, ?_⟩
  · intro b cf nt hin code cc hc l st sig st' hs; cases hs
  · intro b cf nt hin body code bb cc hb hc l st sig st' hs; cases hs
  · intro f args rc h n q rc' h' n' hs; cases hs
theorem rec_ok (hEnv : EnvOk P E) : ∀ n, RecOk P E (run E n)
  | 0 => rec_none
  | n + 1 => by
    have hR := rec_ok hEnv n
    exact ⟨code_ok hEnv hR (draw_ok hEnv hR), scope_ok hEnv hR, call_ok hEnv hR⟩
end
end Go.Sh

/- The shadow machine: closed calls: from a run that the kernel makes to a contract of the model. -/
namespace Go.Sh
open Go.RowKit
set_option linter.unusedSimpArgs false
set_option linter.unusedVariables false
set_option linter.unusedSectionVars false
noncomputable section
variable {P : Program} {E : Env}

theorem closed_call (hEnv : EnvOk P E) {n f m : Nat} {args : List SV} {h h' : Tr SO} {n' : Nat} {rc' : RC} {v : SV} (hrun : (run E n).call f args .no h m = some (.ret v, rc', h', n')) {β : Bij} {w : World}
    (hH : HR (sitesOf P E) β h m w) {args' : Array Value} (hA : VRs β args args'.toList) :
    Calls P f args' w fun e w' => ∃ β' v', e = .returned v' ∧ VR β' v v' ∧ FR β h w β' h' w' ∧ HR (sitesOf P E) β' h' n' w' := by
  intro cs
  obtain ⟨_, β', w', cs', fr, h1, h2, h3, h4, h5, h6, h7⟩ := (rec_ok hEnv n).call f args .no h m _ rc' h' n' hrun .normal cs β args' cs w hH hA ⟨rfl, rfl⟩
  have hcs : cs' = cs := by
    cases rc' with
    | no => exact h3.2
    | ret => cases h3.1
    | pan ch => cases h3.1
  subst hcs
  obtain ⟨v', h8, h9, h10, h11⟩ := h7
  exact ⟨.returned v', w', fr, ⟨β', v', rfl, h8, h2, h1⟩, h4, h6, h9, h10, h5, h11⟩
theorem FR.below {β β' : Bij} {H H' : Tr SO} {w w' : World} (h : FR β H w β' H' w') (hro : ∀ b o, H.get b = some o → isRw o = false) : Below w.heap.size w w' :=
  ⟨h.os, h.tape, h.output, h.size, fun k hk => h.keep k hk fun ⟨b, o, e, h1, h2, _⟩ => by rw [hro b o h1] at h2; cases h2⟩

/-! ## The tables of a program -/
def AllP {α : Type} (p : α → Prop) : List α → Prop
  | [] => True
  | x :: l => p x ∧ AllP p l
theorem AllP.mem {α : Type} {p : α → Prop} : ∀ {l : List α}, AllP p l → ∀ x ∈ l, p x
  | x :: l, ⟨h1, h2⟩, y, hy => by
    cases hy with
    | head => exact h1
    | tail _ hy => exact AllP.mem h2 y hy
def aggD : TypeDesc → Bool
  | .struct _ | .array .. => true
  | _ => false
def mkTI (i u : TypeInfo) (g h : Bool) : TI := { d := u.desc, size := i.size, bytes := i.bytes, zero := i.zero.bind (fun v => cvs v.cells.toList), agg := (match u.desc with | .struct _ | .array .. => true | _ => false), cmp := i.comparable, guardNo := g, held := h }
theorem TIOk.of {t : Nat} {i u : TypeInfo} {g h : Bool} (h1 : P.underlying t = some u.desc) (h2 : P.info? t = some i) (h3 : (i.zero.bind fun v => (cvs v.cells.toList).bind (shutV (aggD u.desc))) = i.zero.bind fun v => ((cvs v.cells.toList).bind (shutV (aggD u.desc))).bind fun _ => cv v)
    (h4 : (bif g then P.eqGuardType P.depth t else false) = false) (h5 : (bif h then false else P.stoodInHeld t) = false) : TIOk P t (mkTI i u g h) := by
  refine ⟨h1, ⟨i, h2, rfl, rfl, rfl, fun z hz => ?_⟩, rfl, fun hg => ?_, fun hh => ?_⟩
  · have hz : i.zero.bind (fun v => cvs v.cells.toList) = some z := hz
    cases hv : i.zero with
    | none => rw [hv] at hz; cases hz
    | some v =>
      rw [hv] at hz h3
      simp only [Option.bind_some] at hz h3
      refine ⟨v, rfl, hz, fun s hs => ?_⟩
      rw [hz] at h3
      have hs : (some z).bind (shutV (aggD u.desc)) = some s := hs
      rw [hs] at h3
      exact h3.symm
  · have hg : g = true := hg
    subst hg; exact h4
  · have hh : h = false := hh
    subst hh; exact h5
def buildK {α β : Type} : List (Nat × α) → Tr α → (Tr α → Option β) → Option β
  | [], t, c => c t
  | (i, x) :: l, t, c => t.setK deep i x fun t => buildK l t c
theorem buildK_inv {α γ : Type} {y : γ} : ∀ {l : List (Nat × α)} {t : Tr α} {c : Tr α → Option γ}, buildK l t c = some y → ∃ t', c t' = some y ∧ ∀ i x, t'.get i = some x → t.get i = some x ∨ (i, x) ∈ l
  | [], t, c, h => ⟨t, h, fun i x hx => .inl hx⟩
  | (j, z) :: l, t, c, h => by
    obtain ⟨t1, h1, h2⟩ := Tr.setK_inv _ _ _ _ _ _ (show t.setK deep j z (fun t => buildK l t c) = some y from h)
    obtain ⟨t', h3, h4⟩ := buildK_inv h1
    refine ⟨t', h3, fun i x hx => ?_⟩
    rcases h4 i x hx with h5 | h5
    · rw [h2 i] at h5
      by_cases e : i = j
      · subst e; rw [if_pos rfl] at h5; cases h5; exact .inr (.head _)
      · rw [if_neg e] at h5; exact .inl h5
    · exact .inr (.tail _ h5)
def compF {β : Type} (tt : Tr TI) : List (Nat × Func) → Tr CF → (Tr CF → Option β) → Option β
  | [], t, c => c t
  | (i, x) :: l, t, c => funcK tt x fun x => t.setK deep i x fun t => compF tt l t c
theorem compF_inv {tt : Tr TI} (hT : TTOk P tt) {γ : Type} {y : γ} : ∀ {l : List (Nat × Func)} {t : Tr CF} {c : Tr CF → Option γ}, compF tt l t c = some y →
    ∃ t', c t' = some y ∧ ∀ i x, t'.get i = some x → t.get i = some x ∨ ∃ fn, (i, fn) ∈ l ∧ FuncR P fn x
  | [], t, c, h => ⟨t, h, fun i x hx => .inl hx⟩
  | (j, z) :: l, t, c, h => by
    obtain ⟨cf, h0, h⟩ := funcK_inv hT (show funcK tt z (fun x => t.setK deep j x fun t => compF tt l t c) = some y from h)
    obtain ⟨t1, h1, h2⟩ := Tr.setK_inv _ _ _ _ _ _ h
    obtain ⟨t', h3, h4⟩ := compF_inv hT h1
    refine ⟨t', h3, fun i x hx => ?_⟩
    rcases h4 i x hx with h5 | ⟨fn, h5, h6⟩
    · rw [h2 i] at h5
      by_cases e : i = j
      · subst e; rw [if_pos rfl] at h5; cases h5; exact .inr ⟨_, .head _, h0⟩
      · rw [if_neg e] at h5; exact .inl h5
    · exact .inr ⟨fn, .tail _ h5, h6⟩
def globK {β : Type} : List (Nat × List SV) → Tr SO → (Tr SO → Option β) → Option β
  | [], t, c => c t
  | (i, x) :: l, t, c => t.setK deep i (.cells false x) fun t => globK l t c
theorem globK_inv {γ : Type} {y : γ} : ∀ {l : List (Nat × List SV)} {t : Tr SO} {c : Tr SO → Option γ}, globK l t c = some y → ∃ t', c t' = some y ∧ ∀ i x, t'.get i = some x → t.get i = some x ∨ ∃ vs, (i, vs) ∈ l ∧ x = .cells false vs
  | [], t, c, h => ⟨t, h, fun i x hx => .inl hx⟩
  | (j, z) :: l, t, c, h => by
    obtain ⟨t1, h1, h2⟩ := Tr.setK_inv _ _ _ _ _ _ (show t.setK deep j (.cells false z) (fun t => globK l t c) = some y from h)
    obtain ⟨t', h3, h4⟩ := globK_inv h1
    refine ⟨t', h3, fun i x hx => ?_⟩
    rcases h4 i x hx with h5 | ⟨vs, h5, h6⟩
    · rw [h2 i] at h5
      by_cases e : i = j
      · subst e; rw [if_pos rfl] at h5; cases h5; exact .inr ⟨_, .head _, rfl⟩
      · rw [if_neg e] at h5; exact .inl h5
    · exact .inr ⟨vs, .tail _ h5, h6⟩
/-- Package-level variables, each its own block. -/
def start (w : World) : Bij := fun g => if g < gmax then some (g, 0, match w.heap[g]? with | some (.cells a _ _) => a.size | _ => 0) else none
/-- What a package-level variable holds. -/
def Held (w : World) (x : Nat × List SV) : Prop := x.1 < gmax ∧ x.2 ≠ [] ∧ ∀ i v, x.2[i]? = some v → ∃ v', w.cell? ⟨x.1, i, none⟩ = some v' ∧ VR (fun _ => none) v v'
theorem start_hr {S : Sites} {H : Tr SO} {w : World} (h : ∀ b o, H.get b = some o → ∃ vs, o = .cells false vs ∧ Held w (b, vs)) : HR S (start w) H gmax w := by
  refine ⟨fun b o hb => ?_, fun b e hb => ?_, fun b b' o o' e e' hb hb' hne hrw => ?_, fun g hg => ⟨_, if_pos hg⟩⟩
  · obtain ⟨vs, rfl, h1, h2, h3⟩ := h b o hb
    simp only at h1 h2 h3
    cases hw : w.heap[b]? with
    | none =>
      cases vs with
      | nil => exact absurd rfl h2
      | cons v vs =>
        obtain ⟨v', h4, _⟩ := h3 0 v rfl
        simp only [World.cell?, hw] at h4; cases h4
    | some x =>
      cases x with
      | cells a e fr =>
        refine ⟨b, 0, a.size, by simp only [start, if_pos h1, hw], a, e, fr, hw, rfl, ?_, fun i v hv => ?_, fun hc => by cases hc⟩
        · rcases Nat.lt_or_ge a.size vs.length with hlt | hle
          · obtain ⟨v, hv⟩ : ∃ v, vs[a.size]? = some v := ⟨_, List.getElem?_eq_getElem hlt⟩
            obtain ⟨v', h4, _⟩ := h3 a.size v hv
            simp only [World.cell?, hw] at h4
            simp at h4
          · omega
        · obtain ⟨v', h4, h5⟩ := h3 i v hv
          simp only [World.cell?, hw] at h4
          exact ⟨v', by simpa using h4, h5.mono fun _ _ hc => by cases hc⟩
      | _ =>
        cases vs with
        | nil => exact absurd rfl h2
        | cons v vs =>
          obtain ⟨v', h4, _⟩ := h3 0 v rfl
          simp only [World.cell?, hw] at h4; cases h4
  · simp only [start] at hb
    split at hb
    · assumption
    · cases hb
  · obtain ⟨vs, rfl, _⟩ := h b o hb
    cases hrw
def isT : Option (CR × RC × Tr SO × Nat) → Option Unit
  | some (.ret (.bool true), _, _, _) => some ()
  | _ => none
/-- A call that comes to true. -/
def goT (tyl : List (Nat × TI)) (fnl : List (Nat × Func)) (L : List (Nat × List SV)) (n f : Nat) (args : List SV) : Option Unit :=
  buildK tyl .nil fun tt => compF tt fnl .nil fun ft => globK L .nil fun h => isT ((run { tt := tt, ft := ft } n).call f args .no h gmax)
def FnOk (P : Program) (x : Nat × Func) : Prop := P.funcs[x.1]? = some x.2 ∧ (x.2.name == "runtime.NumGoroutine") = false
theorem closed_true {tyl : List (Nat × TI)} {fnl : List (Nat × Func)} {L : List (Nat × List SV)} {n f : Nat} {args : List SV} (hgo : goT tyl fnl L n f args = some ())
    (hty : AllP (fun x => TIOk P x.1 x.2) tyl) (hfn : AllP (FnOk P) fnl) (hany : P.follows .mixedOrders = true) {w : World} (hL : AllP (Held w) L) {args' : Array Value} (hA : VRs (fun _ => none) args args'.toList) :
    Calls P f args' w fun e w' => e = .returned (.bool true) ∧ Below w.heap.size w w' := by
  obtain ⟨tt, h1, h2⟩ := buildK_inv (show buildK tyl .nil _ = some () from hgo)
  have hTT : TTOk P tt := fun t i hi => by
    rcases h2 t i hi with h3 | h3
    · simp only [Tr.get_nil] at h3; cases h3
    · exact hty.mem _ h3
  obtain ⟨ft, h3, h4⟩ := compF_inv hTT h1
  obtain ⟨h, h5, h6⟩ := globK_inv h3
  have hEnv : EnvOk P ⟨tt, ft⟩ := ⟨hTT, fun f cf hf => by
    rcases h4 f cf hf with h7 | ⟨fn, h7, h8⟩
    · simp only [Tr.get_nil] at h7; cases h7
    · exact ⟨fn, (hfn.mem _ h7).1, (hfn.mem _ h7).2, h8⟩, hany⟩
  have hheap : ∀ b o, h.get b = some o → ∃ vs, o = .cells false vs ∧ Held w (b, vs) := fun b o hb => by
    rcases h6 b o hb with h7 | ⟨vs, h7, h8⟩
    · simp only [Tr.get_nil] at h7; cases h7
    · exact ⟨vs, h8, hL.mem _ h7⟩
  cases hr : (run ⟨tt, ft⟩ n).call f args .no h gmax with
  | none => rw [hr] at h5; cases h5
  | some r =>
    obtain ⟨q, rc', h', n'⟩ := r
    rw [hr] at h5
    cases q with
    | pan ch => cases h5
    | ret v =>
      have hv : v = .bool true := by
        unfold isT at h5
        split at h5
        · rename_i heq; cases heq; rfl
        · cases h5
      subst hv
      refine (closed_call hEnv hr (start_hr hheap) (hA.mono fun _ _ hc => by cases hc)).mono fun e w' ⟨β', v', he, hv, hf, _⟩ => ?_
      simp only [VR] at hv
      subst hv
      exact ⟨he, hf.below fun b o hb => by obtain ⟨vs, rfl, _⟩ := hheap b o hb; rfl⟩
end
end Go.Sh
