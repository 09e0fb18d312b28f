/- The shadow machine (a compiler and an interpreter over abstract memory, made for the kernel), and that what it comes to the model comes to: part 2. -/
import Derived.Test.YtpnchcbbiboabaaGreatDoorSa
import Derived.AtR
import Derived.Laws.RangeString
import Derived.RangeFuncIn
import Derived.RangeFuncLeaves
import Derived.Recover
/- The shadow machine: what the compiler makes of an operation does what that does; of the heavy ones: which they are. -/
namespace Go.Sh
set_option linter.unusedSimpArgs false
set_option linter.unusedVariables false
noncomputable section

/-- A heavy operation. -/
inductive HKR (P : Program) : Op → HK → Prop
  | store {t : Nat} {i : TI} {oa ox : Operand} {a x : X} (hi : TIOk P t i) (ha : xOf oa = some a) (hx : xOf ox = some x) : HKR P (.store t oa ox) (.store i.size a x)
  | mapUpdate {t kt et : Nat} {i : TI} {om ok ov : Operand} {m k v : X} (hi : TIOk P t i) (hd : i.d = .map kt et) (hm : xOf om = some m) (hk : xOf ok = some k) (hv : xOf ov = some v) :
      HKR P (.mapUpdate t om ok ov) (.mapSet kt m k v)
  | insert {t kt et : Nat} {i : TI} {om ok ov : Operand} {m k v : X} (hi : TIOk P t i) (hd : i.d = .map kt et) (hm : xOf om = some m) (hk : xOf ok = some k) (hv : xOf ov = some v) :
      HKR P (.insert t om ok ov) (.mapSet kt m k v)
  | mapEntry {t kt et : Nat} {i j : TI} {om ok : Operand} {m k : X} {zs : List SV} {z : SV} (hi : TIOk P t i) (hd : i.d = .map kt et) (hj : TIOk P et j) (hz : j.zero = some zs) (hz' : shutV j.agg zs = some z)
      (hm : xOf om = some m) (hk : xOf ok = some k) : HKR P (.mapEntry t om ok) (.mapEntry kt z m k)
  | entryStore {t : Nat} {om os ov : Operand} {m s v : X} (hm : xOf om = some m) (hs : xOf os = some s) (hv : xOf ov = some v) : HKR P (.entryStore t om os ov) (.entryStore m s v)
  | next {o : Operand} {x : X} (hx : xOf o = some x) : HKR P (.next o true) (.next x)
  | call {q : Call} {of : Operand} {f : X} {as : List X} (hc : q.callee = .value of) (hf : xOf of = some f) (ha : xsOf q.args.toList = some as) : HKR P (.call q) (.call f as)
  | append {q : Call} {t u e : Nat} {s x : X} {i j w : TI} (hc : q.callee = .builtin .append) (ht : q.argTypes.toList = [t, u]) (ha : xsOf q.args.toList = some [s, x]) (hi : TIOk P t i) (hd : i.d = .slice e)
      (hj : TIOk P e j) (hb : 0 < j.bytes) (hz : zeroFits j = true) (hu : TIOk P u w) (hw : ∀ k, w.d ≠ .int k) : HKR P (.call q) (.append j.size j.bytes s x)
  | recov {q : Call} (hc : q.callee = .builtin .recover) (ha : q.args.toList = []) : HKR P (.call q) .recov
  | defer {q : Call} {of : Operand} {f : X} {as : List X} (hc : q.callee = .value of) (hf : xOf of = some f) (ha : xsOf q.args.toList = some as) : HKR P (.defer q) (.defer f as)
  | panic {o : Operand} {x : X} (hx : xOf o = some x) : HKR P (.panic o) (.panic x)
  | bad {op : Op} : HKR P op .bad
def KOk (P : Program) (op : Op) : K → Prop
  | .pure f => PureOk P op f
  | .read f => ReadOk P op f
  | .alloc f => AllocOk P op f
  | .heavy k => HKR P op k

section
variable {P : Program} {tt : Tr TI} {γ : Type} {y : γ}
theorem mkP {op : Op} {f : Tr SV → Option SV} {c : K → Option γ} (hk : PureOk P op f) (h : c (.pure f) = some y) : ∃ k, KOk P op k ∧ c k = some y := ⟨.pure f, hk, h⟩
theorem mkR {op : Op} {f : Tr SO → Tr SV → Option SV} {c : K → Option γ} (hk : ReadOk P op f) (h : c (.read f) = some y) : ∃ k, KOk P op k ∧ c k = some y := ⟨.read f, hk, h⟩
theorem mkA {op : Op} {f : Tr SV → Option (SO × Shape)} {c : K → Option γ} (hk : AllocOk P op f) (h : c (.alloc f) = some y) : ∃ k, KOk P op k ∧ c k = some y := ⟨.alloc f, hk, h⟩
theorem mkH {op : Op} {k : HK} {c : K → Option γ} (hk : HKR P op k) (h : c (.heavy k) = some y) : ∃ k, KOk P op k ∧ c k = some y := ⟨.heavy k, hk, h⟩
theorem tiK_inv {t : Nat} {c : TI → Option γ} (h : tiK tt t c = some y) : ∃ i, tt.get t = some i ∧ c i = some y := by
  unfold tiK at h
  split at h
  · rename_i i hi; exact ⟨i, hi, h⟩
  · cases h
theorem zeroK_inv {i : TI} {c : List SV → Option γ} (h : zeroK i c = some y) : ∃ z, i.zero = some z ∧ c z = some y := by
  unfold zeroK at h
  split at h
  · rename_i z hz; exact ⟨z, hz, by simpa using h⟩
  · cases h
theorem zeroVK_inv {i : TI} {c : SV → Option γ} (h : zeroVK i c = some y) : ∃ zs z, i.zero = some zs ∧ shutV i.agg zs = some z ∧ c z = some y := by
  obtain ⟨zs, h1, h⟩ := zeroK_inv h
  split at h
  · rename_i z hz; exact ⟨zs, z, h1, hz, h⟩
  · cases h
variable (hT : TTOk P tt)
include hT
theorem binK_inv {op : BinOp} {t t' : Nat} {x z : Operand} {c : K → Option γ} (h : binK tt op t x z c = some y) : ∃ k, KOk P (.binOp op t x z t') k ∧ c k = some y := by
  simp only [binK] at h
  obtain ⟨i, hi, h⟩ := tiK_inv h
  obtain ⟨a, ha, h⟩ := xK_inv h
  obtain ⟨b, hb, h⟩ := xK_inv h
  cases hd : i.d with
  | int k =>
    rw [hd] at h
    cases op <;> simp only [] at h <;> first
      | exact mkP (pShift_ok ha hb) h
      | exact mkP (pInt_ok (by intro e; cases e) (by intro e; cases e) ha hb) h
  | string => rw [hd] at h; exact mkP (pStr_ok ha hb) h
  | _ =>
    rw [hd] at h
    cases op <;> simp only [] at h <;> first
      | (cases h; done)
      | exact mkP (pEq_ok (neg := false) hT ha hb) h
      | exact mkP (pEq_ok (neg := true) hT ha hb) h
theorem convK_inv {s d : Nat} {x : Operand} {c : K → Option γ} (h : convK tt s d x c = some y) : ∃ k, KOk P (.convert s d x) k ∧ c k = some y := by
  simp only [convK] at h
  obtain ⟨j, hj, h⟩ := tiK_inv h
  obtain ⟨i, hi, h⟩ := tiK_inv h
  obtain ⟨a, ha, h⟩ := xK_inv h
  cases hd : i.d <;> rw [hd] at h <;> simp only [] at h <;> try (cases h; done)
  · exact mkP (pToInt_ok (hT _ _ hi) (hT _ _ hj) hd ha) h
  · cases hjd : j.d <;> rw [hjd] at h <;> simp only [] at h <;> try (exact mkP (pToStr_ok (hT _ _ hi) (hT _ _ hj) hd ha) h)
    obtain ⟨w, hw, h⟩ := tiK_inv h
    split at h
    · rename_i hwd; exact mkR (rBytes_ok (hT _ _ hi) hd (hT _ _ hj) hjd (hT _ _ hw) hwd ha) h
    · cases h
  · obtain ⟨w, hw, h⟩ := tiK_inv h
    split at h
    · rename_i hwd; exact mkA (aBytes_ok (hT _ _ hj) (hT _ _ hi) hd (hT _ _ hw) hwd ha) h
    · cases h
theorem sliceK_inv {t : Nat} {x : Operand} {lo hi mx : Option Operand} {c : K → Option γ} (h : sliceK tt t x lo hi mx c = some y) : ∃ k, KOk P (.slice t x lo hi mx) k ∧ c k = some y := by
  simp only [sliceK] at h
  obtain ⟨i, hi', h⟩ := tiK_inv h
  obtain ⟨a, ha, h⟩ := xK_inv h
  obtain ⟨l, hl, h⟩ := xoK_inv h
  obtain ⟨hh, hh', h⟩ := xoK_inv h
  obtain ⟨m, hm, h⟩ := xoK_inv h
  cases hd : i.d <;> rw [hd] at h <;> simp only [] at h <;> try (cases h; done)
  · cases m <;> simp only [] at h <;> try (cases h; done)
    have hfin := h
    cases mx with
    | some o => simp [xoOf] at hm
    | none => exact mkP (pSliceStr_ok (hT _ _ hi') hd ha hl hh') hfin
  · obtain ⟨j, hj, h⟩ := tiK_inv h
    simp only [fN_eq] at h
    cases m with
    | none => exact mkP (pSlice_ok (hT _ _ hi') (hT _ _ hj) hd ha hl hh' hm) h
    | some m => exact mkP (pSlice_ok (hT _ _ hi') (hT _ _ hj) hd ha hl hh' hm) h
  · obtain ⟨j, hj, h⟩ := tiK_inv h
    simp only [fN_eq] at h
    cases m <;> simp only [] at h <;> try (cases h; done)
    have hfin := h
    cases mx with
    | some o => simp [xoOf] at hm
    | none => exact mkR (rSliceArr_ok (hT _ _ hi') hd (hT _ _ hj) ha hl hh') hfin
theorem fieldAddrK_inv {t f : Nat} {x : Operand} {c : K → Option γ} (h : fieldAddrK tt t x f c = some y) : ∃ k, KOk P (.fieldAddr t x f) k ∧ c k = some y := by
  simp only [fieldAddrK] at h
  obtain ⟨i, hi, h⟩ := tiK_inv h
  obtain ⟨a, ha, h⟩ := xK_inv h
  cases hd : i.d <;> rw [hd] at h <;> simp only [] at h <;> try (cases h; done)
  rename_i fs
  cases hf : fs.toList[f]? with
  | none => rw [hf] at h; cases h
  | some fd =>
    rw [hf] at h
    obtain ⟨j, hj, h⟩ := tiK_inv h
    cases hc : Nat.blt 0 j.size with
    | false => rw [hc] at h; cases h
    | true =>
      rw [hc] at h
      simp only [cond_true, fN_eq] at h
      exact mkP (pFieldAddr_ok (hT _ _ hi) hd hf (hT _ _ hj) (blt_lt hc) ha) h
theorem fieldK_inv {t f : Nat} {x : Operand} {c : K → Option γ} (h : fieldK tt t x f c = some y) : ∃ k, KOk P (.field t x f) k ∧ c k = some y := by
  simp only [fieldK] at h
  obtain ⟨i, hi, h⟩ := tiK_inv h
  obtain ⟨a, ha, h⟩ := xK_inv h
  cases hd : i.d <;> rw [hd] at h <;> simp only [] at h <;> try (cases h; done)
  rename_i fs
  cases hf : fs.toList[f]? with
  | none => rw [hf] at h; cases h
  | some fd =>
    rw [hf] at h
    obtain ⟨j, hj, h⟩ := tiK_inv h
    simp only [fB_eq, fN_eq] at h
    exact mkP (pField_ok (hT _ _ hi) hd hf (hT _ _ hj) ha) h
theorem indexAddrK_inv {t : Nat} {x z : Operand} {c : K → Option γ} (h : indexAddrK tt t x z c = some y) : ∃ k, KOk P (.indexAddr t x z) k ∧ c k = some y := by
  simp only [indexAddrK] at h
  obtain ⟨i, hi, h⟩ := tiK_inv h
  obtain ⟨a, ha, h⟩ := xK_inv h
  obtain ⟨b, hb, h⟩ := xK_inv h
  cases hd : i.d <;> rw [hd] at h <;> simp only [] at h <;> try (cases h; done)
  · obtain ⟨j, hj, h⟩ := tiK_inv h
    simp only [fN_eq] at h
    exact mkP (pIdxSl_ok (hT _ _ hi) (hT _ _ hj) hd ha hb) h
  · obtain ⟨j, hj, h⟩ := tiK_inv h
    simp only [fN_eq] at h
    exact mkP (pIdxArr_ok (hT _ _ hi) (hT _ _ hj) hd ha hb) h
theorem indexK_inv {t : Nat} {x z : Operand} {c : K → Option γ} (h : indexK tt t x z c = some y) : ∃ k, KOk P (.index t x z) k ∧ c k = some y := by
  simp only [indexK] at h
  obtain ⟨i, hi, h⟩ := tiK_inv h
  obtain ⟨a, ha, h⟩ := xK_inv h
  obtain ⟨b, hb, h⟩ := xK_inv h
  cases hd : i.d <;> rw [hd] at h <;> simp only [] at h <;> try (cases h; done)
  · exact mkP (pIdxStr_ok (hT _ _ hi) hd ha hb) h
  · obtain ⟨j, hj, h⟩ := tiK_inv h
    simp only [fN_eq, fB_eq] at h
    exact mkP (pIdxAgg_ok (hT _ _ hi) (hT _ _ hj) hd ha hb) h
theorem builtinK_inv {q : Call} {b : Builtin} {as : List X} (hc : q.callee = .builtin b) (ha : xsOf q.args.toList = some as) {c : K → Option γ} (h : builtinK tt b q.argTypes.toList as c = some y) :
    ∃ k, KOk P (.call q) k ∧ c k = some y := by
  cases b <;> simp only [builtinK] at h <;> try (exact mkH (HKR.bad) h)
  · split at h
    · split at h
      · rename_i s x t u hts
        obtain ⟨i, hi, h⟩ := tiK_inv h
        obtain ⟨w, hw, h⟩ := tiK_inv h
        split at h
        · cases h
        · rename_i hwd
          cases hd : i.d <;> rw [hd] at h <;> simp only [] at h <;> try (cases h; done)
          obtain ⟨j, hj, h⟩ := tiK_inv h
          cases hcb : (Nat.blt 0 j.bytes && zeroFits j) with
          | false => rw [hcb] at h; cases h
          | true =>
            rw [hcb] at h
            rw [Bool.and_eq_true] at hcb
            simp only [cond_true, fN_eq] at h
            exact mkH (HKR.append hc hts ha (hT _ _ hi) hd (hT _ _ hj) (blt_lt hcb.1) hcb.2 (hT _ _ hw) hwd) h
      · cases h
    · cases h
  · split at h
    · split at h
      · rename_i x t hts
        obtain ⟨i, hi, h⟩ := tiK_inv h
        cases hd : i.d <;> rw [hd] at h <;> simp only [] at h <;> try (cases h; done)
        exact mkP (pCapSl_ok hc hts ha (hT _ _ hi) hd) h
      · cases h
    · cases h
  · split at h
    · split at h
      · rename_i x t hts
        obtain ⟨i, hi, h⟩ := tiK_inv h
        cases hd : i.d <;> rw [hd] at h <;> simp only [] at h <;> try (cases h; done)
        · exact mkP (pLenStr_ok hc hts ha (hT _ _ hi) hd) h
        · exact mkP (pLenSl_ok hc hts ha (hT _ _ hi) hd) h
        · simp only [fN_eq] at h
          exact mkP (pLenArr_ok hc hts ha (hT _ _ hi) hd) h
        · exact mkR (rLenMap_ok hc hts ha (hT _ _ hi) hd) h
      · cases h
    · cases h
  · exact mkP (pMax_ok hc ha) h
  · exact mkP (pMin_ok hc ha) h
  · split at h
    · exact mkH (HKR.recov hc (xsOf_nil ha)) h
    · cases h
theorem callK_inv {q : Call} {c : K → Option γ} (h : callK tt q c = some y) : ∃ k, KOk P (.call q) k ∧ c k = some y := by
  unfold callK at h
  split at h
  · rename_i f hc
    obtain ⟨a, ha, h⟩ := xK_inv h
    obtain ⟨as, has, h⟩ := xsK_inv h
    exact mkH (HKR.call hc ha has) h
  · rename_i b hc
    obtain ⟨as, has, h⟩ := xsK_inv h
    exact builtinK_inv hT hc has h
  · exact mkH (HKR.bad) h
theorem opK_inv {op : Op} {c : K → Option γ} (h : opK tt op c = some y) : ∃ k, KOk P op k ∧ c k = some y := by
  cases op <;> simp only [opK] at h <;> try (exact mkH (HKR.bad) h)
  case move x => obtain ⟨a, ha, h⟩ := xK_inv h; exact mkP (pMove_ok ha) h
  case assign x => obtain ⟨a, ha, h⟩ := xK_inv h; exact mkP (pAssign_ok ha) h
  case pick a x z =>
    obtain ⟨a, ha, h⟩ := xK_inv h; obtain ⟨b, hb, h⟩ := xK_inv h; obtain ⟨d, hd, h⟩ := xK_inv h
    exact mkP (pPick_ok ha hb hd) h
  case alloc t =>
    obtain ⟨i, hi, h⟩ := tiK_inv h; obtain ⟨z, hz, h⟩ := zeroK_inv h
    exact mkA (aAlloc_ok (hT _ _ hi) hz) h
  case box t x => obtain ⟨a, ha, h⟩ := xK_inv h; exact mkA (aBox_ok ha) h
  case build t ps =>
    obtain ⟨i, hi, h⟩ := tiK_inv h; obtain ⟨z, hz, h⟩ := zeroK_inv h
    cases hd : i.d <;> rw [hd] at h <;> simp only [] at h <;> try (cases h; done)
    · obtain ⟨j, hj, h⟩ := tiK_inv h; obtain ⟨r, hr, h⟩ := partsK_inv h
      exact mkP (pBuildArr_ok (hT _ _ hi) hd (hT _ _ hj) hz hr) h
    · obtain ⟨pl, hpl, h⟩ := placesK_inv hT h; obtain ⟨r, hr, h⟩ := partsK_inv h
      exact mkP (pBuildStruct_ok (hT _ _ hi) hd hz hpl hr) h
  case buildSlice t len ps =>
    obtain ⟨i, hi, h⟩ := tiK_inv h
    cases hd : i.d <;> rw [hd] at h <;> simp only [] at h <;> try (cases h; done)
    obtain ⟨j, hj, h⟩ := tiK_inv h; obtain ⟨z, hz, h⟩ := zeroK_inv h
    cases hc : (Nat.ble (len * j.size) 16777216 && Nat.beq z.length j.size && Nat.blt 0 j.size) with
    | false => rw [hc] at h; cases h
    | true =>
      rw [hc] at h
      simp only [Bool.and_eq_true] at hc
      obtain ⟨r, hr, h⟩ := partsK_inv h
      simp only [fL_eq, fN_eq] at h
      exact mkA (aSlice_ok (hT _ _ hi) hd (hT _ _ hj) hz (ble_le hc.1.1) (beq_eq' hc.1.2) (blt_lt hc.2) hr) h
  case load t x =>
    obtain ⟨i, hi, h⟩ := tiK_inv h
    simp only [fB_eq, fN_eq] at h
    obtain ⟨a, ha, h⟩ := xK_inv h
    exact mkR (rLoad_ok (hT _ _ hi) ha) h
  case store t a x =>
    obtain ⟨i, hi, h⟩ := tiK_inv h
    simp only [fB_eq, fN_eq] at h
    obtain ⟨a, ha, h⟩ := xK_inv h; obtain ⟨x, hx, h⟩ := xK_inv h
    exact mkH (HKR.store (hT _ _ hi) ha hx) h
  case nilCheck x => obtain ⟨a, ha, h⟩ := xK_inv h; exact mkP (pNil_ok ha) h
  case binOp op t x z t' => exact binK_inv hT h
  case unOp op t x => obtain ⟨a, ha, h⟩ := xK_inv h; exact mkP (pUn_ok ha) h
  case convert s d x => exact convK_inv hT h
  case makeInterface t x =>
    obtain ⟨i, hi, h⟩ := tiK_inv h
    cases hc : isIface i.d with
    | true => rw [hc] at h; cases h
    | false =>
      rw [hc] at h
      simp only [cond_false] at h
      obtain ⟨a, ha, h⟩ := xK_inv h
      simp only [fN_eq] at h
      exact mkP (pIface_ok (hT _ _ hi) hc ha) h
  case makeFunc fn first caps =>
    split at h
    · obtain ⟨a, ha, h⟩ := xsK_inv h; obtain ⟨b, hb, h⟩ := xsK_inv h
      simp only [fN_eq] at h
      exact mkP (pFunc_ok ha hb) h
    · cases h
  case makeMap t r =>
    split at h
    · exact mkA (aMap_ok) h
    · cases h
  case makeSlice t l n =>
    obtain ⟨i, hi, h⟩ := tiK_inv h
    obtain ⟨a, ha, h⟩ := xK_inv h; obtain ⟨b, hb, h⟩ := xK_inv h
    cases hd : i.d <;> rw [hd] at h <;> simp only [] at h <;> try (cases h; done)
    obtain ⟨j, hj, h⟩ := tiK_inv h; obtain ⟨z, hz, h⟩ := zeroK_inv h
    cases hc : (Nat.beq z.length j.size && Nat.blt 0 j.size) with
    | false => rw [hc] at h; cases h
    | true =>
      rw [hc] at h
      simp only [Bool.and_eq_true] at hc
      simp only [cond_true, fN_eq] at h
      exact mkA (aMake_ok (hT _ _ hi) hd (hT _ _ hj) hz (beq_eq' hc.1) (blt_lt hc.2) ha hb) h
  case slice t x lo hi mx => exact sliceK_inv hT h
  case fieldAddr t x f => exact fieldAddrK_inv hT h
  case field t x f => exact fieldK_inv hT h
  case indexAddr t x i => exact indexAddrK_inv hT h
  case index t x i => exact indexK_inv hT h
  case lookup t m k ok =>
    obtain ⟨i, hi, h⟩ := tiK_inv h
    obtain ⟨a, ha, h⟩ := xK_inv h; obtain ⟨b, hb, h⟩ := xK_inv h
    simp only [fB_eq] at h
    cases hd : i.d <;> rw [hd] at h <;> simp only [] at h <;> try (cases h; done)
    obtain ⟨j, hj, h⟩ := tiK_inv h; obtain ⟨zs, z, hz, hz', h⟩ := zeroVK_inv h
    simp only [fN_eq] at h
    exact mkR (rLookup_ok hT (hT _ _ hi) hd (hT _ _ hj) hz hz' ha hb) h
  case mapUpdate t m k v =>
    obtain ⟨i, hi, h⟩ := tiK_inv h
    obtain ⟨a, ha, h⟩ := xK_inv h; obtain ⟨b, hb, h⟩ := xK_inv h; obtain ⟨d, hd', h⟩ := xK_inv h
    cases hd : i.d <;> rw [hd] at h <;> simp only [] at h <;> try (cases h; done)
    simp only [fN_eq] at h
    exact mkH (HKR.mapUpdate (hT _ _ hi) hd ha hb hd') h
  case insert t m k v =>
    obtain ⟨i, hi, h⟩ := tiK_inv h
    obtain ⟨a, ha, h⟩ := xK_inv h; obtain ⟨b, hb, h⟩ := xK_inv h; obtain ⟨d, hd', h⟩ := xK_inv h
    cases hd : i.d <;> rw [hd] at h <;> simp only [] at h <;> try (cases h; done)
    simp only [fN_eq] at h
    exact mkH (HKR.insert (hT _ _ hi) hd ha hb hd') h
  case mapEntry t m k =>
    obtain ⟨i, hi, h⟩ := tiK_inv h
    obtain ⟨a, ha, h⟩ := xK_inv h; obtain ⟨b, hb, h⟩ := xK_inv h
    cases hd : i.d <;> rw [hd] at h <;> simp only [] at h <;> try (cases h; done)
    obtain ⟨j, hj, h⟩ := tiK_inv h; obtain ⟨zs, z, hz, hz', h⟩ := zeroVK_inv h
    simp only [fN_eq] at h
    exact mkH (HKR.mapEntry (hT _ _ hi) hd (hT _ _ hj) hz hz' ha hb) h
  case entryStore t m s v =>
    obtain ⟨a, ha, h⟩ := xK_inv h; obtain ⟨b, hb, h⟩ := xK_inv h; obtain ⟨d, hd, h⟩ := xK_inv h
    exact mkH (HKR.entryStore ha hb hd) h
  case range t x =>
    obtain ⟨i, hi, h⟩ := tiK_inv h; obtain ⟨a, ha, h⟩ := xK_inv h
    cases hd : i.d <;> rw [hd] at h <;> simp only [] at h <;> try (cases h; done)
    exact mkA (aRange_ok (hT _ _ hi) hd ha) h
  case next it isS =>
    cases isS with
    | false => cases h
    | true => simp only [cond_true] at h; obtain ⟨a, ha, h⟩ := xK_inv h; exact mkH (HKR.next ha) h
  case typeAssert x t' t ok =>
    obtain ⟨i, hi, h⟩ := tiK_inv h
    cases hc : isIface i.d with
    | true => rw [hc] at h; cases h
    | false =>
      rw [hc] at h
      simp only [cond_false] at h
      obtain ⟨zs, z, hz, hz', h⟩ := zeroVK_inv h
      obtain ⟨a, ha, h⟩ := xK_inv h
      simp only [fN_eq, fB_eq] at h
      exact mkP (pAssert_ok (hT _ _ hi) hc hz hz' ha) h
  case extract x i =>
    obtain ⟨a, ha, h⟩ := xK_inv h
    simp only [fN_eq] at h
    exact mkP (pExtract_ok ha) h
  case call q => exact callK_inv hT h
  case defer q =>
    split at h
    · rename_i f hc
      obtain ⟨a, ha, h⟩ := xK_inv h; obtain ⟨as, has, h⟩ := xsK_inv h
      exact mkH (HKR.defer hc ha has) h
    · cases h
  case panic x => obtain ⟨a, ha, h⟩ := xK_inv h; exact mkH (HKR.panic ha) h
end
end
end Go.Sh

/- The shadow machine: stores, maps, texts' loops, appends: what they do to memory. -/
namespace Go.Sh
set_option linter.unusedSimpArgs false
set_option linter.unusedVariables false
noncomputable section
variable {P : Program} {tt : Tr TI}

/-- A value is the same to the sign. -/
theorem sameO_eq {a b : Option Nat} (h : sameO a b = true) : a = b := by
  cases a <;> cases b <;> simp_all [sameO]
mutual
theorem sameV_eq : ∀ (a b : SV), sameV a b = true → a = b
  | .bool a, b, h => by cases b <;> simp only [sameV] at h <;> first | (cases h; done) | (cases a <;> simp_all)
  | .int k a, b, h => by
    cases b <;> simp only [sameV] at h <;> first | (cases h; done) | skip
    rw [Bool.and_eq_true] at h
    have e1 := eqK_eq h.1
    have e2 := h.2
    rw [eqI_eq] at e2
    simp at e2
    rw [e1, e2]
  | .str a, b, h => by
    cases b <;> simp only [sameV] at h <;> first | (cases h; done) | skip
    rw [eqL_eq] at h
    simp at h
    rw [h]
  | .ptr a c, b, h => by
    cases b <;> simp only [sameV] at h <;> first | (cases h; done) | skip
    simp at h
    rw [h.1, h.2]
  | .nilp, b, h => by cases b <;> simp only [sameV] at h <;> first | (cases h; done) | rfl
  | .slice a c d e f, b, h => by
    cases b <;> simp only [sameV] at h <;> first | (cases h; done) | skip
    simp only [Bool.and_eq_true] at h
    have := sameO_eq h.2
    simp at h
    rw [h.1.1.1.1, h.1.1.1.2, h.1.1.2, h.1.2, this]
  | .nils, b, h => by cases b <;> simp only [sameV] at h <;> first | (cases h; done) | rfl
  | .map a, b, h => by
    cases b <;> simp only [sameV] at h <;> first | (cases h; done) | skip
    simp at h; rw [h]
  | .nilm, b, h => by cases b <;> simp only [sameV] at h <;> first | (cases h; done) | rfl
  | .func f a c, b, h => by
    cases b <;> simp only [sameV] at h <;> first | (cases h; done) | skip
    simp only [Bool.and_eq_true] at h
    rw [sameVs_eq _ _ h.1.2, sameVs_eq _ _ h.2]
    have := beq_eq' h.1.1
    rw [this]
  | .yld a, b, h => by
    cases b <;> simp only [sameV] at h <;> first | (cases h; done) | skip
    simp at h; rw [h]
  | .nilf, b, h => by cases b <;> simp only [sameV] at h <;> first | (cases h; done) | rfl
  | .iface t a, b, h => by
    cases b <;> simp only [sameV] at h <;> first | (cases h; done) | skip
    simp only [Bool.and_eq_true] at h
    rw [sameV_eq _ _ h.2, beq_eq' h.1]
  | .nili, b, h => by cases b <;> simp only [sameV] at h <;> first | (cases h; done) | rfl
  | .agg a, b, h => by
    cases b <;> simp only [sameV] at h <;> first | (cases h; done) | skip
    rw [sameVs_eq _ _ h]
  | .tup a, b, h => by
    cases b <;> simp only [sameV] at h <;> first | (cases h; done) | skip
    rw [sameVs_eq _ _ h]
theorem sameVs_eq : ∀ (a b : List SV), sameVs a b = true → a = b
  | [], b, h => by cases b <;> simp only [sameVs] at h <;> first | (cases h; done) | rfl
  | x :: a, b, h => by
    cases b <;> simp only [sameVs] at h <;> first | (cases h; done) | skip
    simp only [Bool.and_eq_true] at h
    rw [sameV_eq _ _ h.1, sameVs_eq _ _ h.2]
end

/-! ## Stores -/
theorem oneL_cons (v : SV) (l : List SV) : oneL (v :: l) = ifB (oneV v) (oneL l) false := rfl
theorem oneL_VRs {β : Bij} : ∀ {l : List SV} {l' : List Value}, oneL l = true → VRs β l l' → ∀ v ∈ l', v.oneCell' = true
  | [], l', _, hv => by simp only [VRs] at hv; subst hv; intro v h; cases h
  | x :: l, l', h, hv => by
    rw [oneL_cons] at h
    have hx : oneV x = true ∧ oneL l = true := by
      cases hc : oneV x with
      | true => rw [hc] at h; exact ⟨rfl, h⟩
      | false => rw [hc] at h; cases h
    simp only [VRs] at hv
    obtain ⟨y, ys, rfl, hy, hv⟩ := hv
    intro v hm
    cases hm with
    | tail _ hm => exact oneL_VRs hx.2 hv v hm
    | head =>
      cases x <;> simp only [VR] at hy <;> first
        | (cases hx.1; done)
        | (subst hy; rfl)
        | (obtain ⟨_, rfl, _⟩ := hy; rfl)
        | (obtain ⟨_, _, _, _, rfl⟩ := hy; rfl)
        | (obtain ⟨_, _, rfl, _⟩ := hy; rfl)
        | (obtain ⟨_, _, _, _, _, _, rfl, _⟩ := hy; rfl)
theorem storeCells_ok {k : Nat} {e : TypeId} {fr : Nat × Nat} {o : Nat} : ∀ (vs : List Value) (i : Nat) (arr : Array Value) (w : World), w.heap[k]? = some (.cells arr e fr) → o + i + vs.length ≤ arr.size →
    (∀ j, j < arr.size → ¬ (fr.1 ≤ j ∧ j < fr.2)) → (∀ v ∈ vs, v.oneCell' = true) →
    ∃ w' arr', (storeCells ⟨k, o, none⟩ vs i).run P w = .ok () w' ∧ w'.heap[k]? = some (.cells arr' e fr) ∧ arr'.size = arr.size ∧
      (∀ q, arr'[q]? = if o + i ≤ q ∧ q < o + i + vs.length then vs[q - (o + i)]? else arr[q]?) ∧ (∀ k', k' ≠ k → w'.heap[k']? = w.heap[k']?) ∧ w'.heap.size = w.heap.size ∧
      w'.os = w.os ∧ w'.tape = w.tape ∧ w'.output = w.output
  | [], i, arr, w, h, hs, hf, hv => ⟨w, arr, rfl, h, rfl, fun q => by simp; omega, fun _ _ => rfl, rfl, rfl, rfl, rfl⟩
  | v :: vs, i, arr, w, h, hs, hf, hv => by
    simp only [List.length_cons] at hs
    have hadd : (⟨k, o, none⟩ : Addr).add i = ⟨k, o + i, none⟩ := Addr.add_lit ..
    have hcell : w.cell? ⟨k, o + i, none⟩ = some arr[o + i] := by rw [cell_at h]; exact Array.getElem?_eq_getElem (by omega)
    have hfroz : w.frozen? ⟨k, o + i, none⟩ = false := by
      simp only [World.frozen?, h]
      have := hf (o + i) (by omega)
      obtain ⟨lo, hi⟩ := fr
      simp only at this ⊢
      rw [Bool.and_eq_false_iff]
      by_cases c : lo ≤ o + i
      · right; simp; omega
      · left; simp; omega
    have hst : (store ⟨k, o + i, none⟩ v).run P w = .ok () (w.setCell ⟨k, o + i, none⟩ v) := by
      rw [run_store P w _ v _ (hv v (.head _)), hcell]; simp [hfroz]
    have hheap : (w.setCell ⟨k, o + i, none⟩ v).heap[k]? = some (.cells (arr.setIfInBounds (o + i) v) e fr) := by
      simp only [World.setCell, Array.getElem?_modify, if_true, h]; simp
    obtain ⟨w', arr', h1, h2, h3, h4, h5, h6, h7, h8, h9⟩ := storeCells_ok (o := o) vs (i + 1) (arr.setIfInBounds (o + i) v) (w.setCell ⟨k, o + i, none⟩ v) hheap (by simp; omega) (by simpa using hf) (fun u hu => hv u (.tail _ hu))
    refine ⟨w', arr', ?_, h2, by simpa using h3, fun q => ?_, fun k' hk => ?_, by rw [h6]; simp [World.setCell], by rw [h7]; rfl, by rw [h8]; rfl, by rw [h9]; rfl⟩
    · rw [storeCells, hadd]
      simp only [Sem.run_bind, hst, Result.andThen_ok, h1]
    · rw [h4 q]
      by_cases c1 : q = o + i
      · subst c1
        rw [if_neg (by omega), if_pos (by simp only [List.length_cons]; omega)]
        have : o + i < arr.size := by omega
        simp [this]
      · by_cases c2 : o + i ≤ q ∧ q < o + i + (vs.length + 1)
        · rw [if_pos (by omega), if_pos (by simpa using c2)]
          have : q - (o + i) = (q - (o + (i + 1))) + 1 := by omega
          rw [this, List.getElem?_cons_succ]
        · rw [if_neg (by omega), if_neg (by simpa using c2), Array.getElem?_setIfInBounds_ne (fun e => c1 e.symm)]
    · rw [h5 k' hk]
      simp only [World.setCell, Array.getElem?_modify]
      rw [if_neg (fun e => hk e.symm)]

/-- What an operation does that calls nobody: a value is laid down, and what follows goes on. -/
def Eff (P : Program) (S : Sites) (β : Bij) (h : Tr SO) (w : World) (a : Act) (o : Oper) (tm : Tr SV) (dst : Option Nat) (ds : List SDef) (rc : RC) (c : Next) (y : Sig × St) : Prop :=
  ∃ v β' h' n' v' w', put tm dst v (fun tm => c (.mk tm ds h' n' rc)) = some y ∧
    ((execOp a.eval o).run P w = .ok (.value v') w' ∨ ((execOp a.eval o).run P w = .ok .skip w' ∧ v' = undef)) ∧ VR β' v v' ∧ HR S β' h' n' w' ∧ FR β h w β' h' w'
theorem VR_undef (β : Bij) : VR β (.tup []) undef := by simp only [VR]; exact ⟨#[], rfl, VRs.nil⟩
section
variable {S : Sites} {β : Bij} {h : Tr SO} {n : Nat} {w : World} {a : Act} {o : Oper} {tm : Tr SV} {dst : Option Nat} {ds : List SDef} {rc : RC} {c : Next} {y : Sig × St}
theorem store_eff {t : Nat} {i : TI} {oa ox : Operand} {xa xx : X} (hi : TIOk P t i) (ha : xOf oa = some xa) (hx : xOf ox = some xx) (ho : o.op = .store t oa ox) (hH : HR S β h n w) (hE : OpE β tm a o.op)
    (hs : storeS tm ds h n rc dst c i.size (ev tm xa) (cells (ev tm xx)) = some y) : Eff P S β h w a o tm dst ds rc c y := by
  rw [ho] at hE
  unfold storeS at hs
  obtain ⟨b, off, h1, hs⟩ := onPtr_inv hs
  obtain ⟨ob, h2, hs⟩ := onSome_inv hs
  obtain ⟨rw', cs, rfl, hs⟩ := onCells_inv hs
  obtain ⟨h3, hs⟩ := ifB_some hs
  subst h3
  obtain ⟨h3, hs⟩ := ifB_some hs
  obtain ⟨h4, hs⟩ := ifB_some hs
  obtain ⟨h5, hs⟩ := ifB_some hs
  rw [fL_eq] at hs
  obtain ⟨h', hs, hh⟩ := Tr.setK_inv _ _ _ _ _ _ hs
  have h4 := beq_eq' h4
  have h5 := ble_le h5
  rw [lenL_eq] at h4 h5
  have h5 : off + i.size ≤ cs.length := h5
  have hav := hE.x ha (by (first | (simp [Op.operands]; done) | (intro p hp; subst hp; simp [Op.operands]; done) | (intro o ho; exact mem_args ho) | (intro o ho; simp only [Op.operands, Array.mem_append]; first | exact .inl (Array.mem_toList_iff.1 ho) | exact .inr (Array.mem_toList_iff.1 ho)) | (apply mem_args; simp [*]; done)))
  have hxv := (hE.x hx (by (first | (simp [Op.operands]; done) | (intro p hp; subst hp; simp [Op.operands]; done) | (intro o ho; exact mem_args ho) | (intro o ho; simp only [Op.operands, Array.mem_append]; first | exact .inl (Array.mem_toList_iff.1 ho) | exact .inr (Array.mem_toList_iff.1 ho)) | (apply mem_args; simp [*]; done)))).cells
  rw [h1] at hav
  simp only [VR] at hav
  obtain ⟨k, sh, m, hb, hav⟩ := hav
  obtain ⟨_, hor⟩ := hH.block h2 hb
  obtain ⟨arr, e, fr, g1, g2, g3, g4, hall, _⟩ := hor.row
  simp only at g1 g2 g3
  have hl1 : (a.eval ox).cells.size = i.size := by rw [← h4, ← hxv.length]; simp
  obtain ⟨w', arr', s1, s2, s3, s4, s5, s6, s7, s8, s9⟩ := storeCells_ok (P := P) (o := off + sh) (a.eval ox).cells.toList 0 arr w g1 (by simp; omega) (fun j hj => g4 rfl j (by simp only; omega)) (oneL_VRs h3 hxv)
  have hkeep : ∀ k', k' ≠ k → w'.heap[k']? = w.heap[k']? := s5
  refine ⟨.tup [], β, h', n, undef, w', hs, .inr ⟨?_, rfl⟩, VR_undef _, ?_, ?_⟩
  · have hne : ¬ ((a.eval ox).cells.size ≠ i.size) := by simp [hl1]
    simp only [execOp, ho, hav, Instr.storeAt, Instr.sureAddr, Sem.run_bind, Sem.run_pure, Result.andThen_ok, storeVar, hi.run_size w]
    rw [if_neg hne]
    simp only [Sem.run_bind, s1, Result.andThen_ok, Sem.run_pure]
  · refine hH.write (o' := .cells true (setL cs off (cells (ev tm xx)))) h2 rfl hb hkeep hh ?_
    refine ⟨arr', e, fr, s2, by rw [s3]; exact g2, by rw [setL_length]; exact g3, fun q v hq => ?_, fun _ => g4 rfl⟩
    simp only
    rw [setL_get _ _ _ _ (by omega)] at hq
    rw [s4 (q + sh)]
    simp only [Array.length_toList, Nat.add_zero]
    split at hq
    · rename_i hc
      obtain ⟨v', e1, e2⟩ := hxv.get _ _ hq
      refine ⟨v', ?_, e2⟩
      rw [if_pos (by omega)]
      rw [← e1]; congr 1; omega
    · rename_i hc
      rw [if_neg (by omega)]
      obtain ⟨v', e1, e2⟩ := hall.get _ _ hq
      refine ⟨v', ?_, e2⟩
      have hq' := (List.getElem?_eq_some_iff.1 hq).1
      rw [List.getElem?_take, if_pos hq', List.getElem?_drop, Array.getElem?_toList] at e1
      rw [Nat.add_comm]; exact e1
  · exact FR.write (o' := .cells true (setL cs off (cells (ev tm xx)))) h2 rfl hb s7 s8 s9 s6 hkeep hh
end
end
end Go.Sh

/- The shadow machine: maps' entries, loops over texts. -/
namespace Go.Sh
set_option linter.unusedSimpArgs false
set_option linter.unusedVariables false
noncomputable section
variable {P : Program} {tt : Tr TI}

/-! ## Entries -/
theorem ERs.get {β : Bij} : ∀ {es : List (SV × SV × Nat)} {l : List MapEntry}, ERs β es l → ∀ (i : Nat) (x : SV × SV × Nat), es[i]? = some x → ∃ y, l[i]? = some y ∧ VR β x.1 y.key ∧ VR β x.2.1 y.val ∧ y.born = x.2.2
  | [], l, h, i, x, hx => by simp at hx
  | e :: es, l, h, i, x, hx => by
    simp only [ERs] at h
    obtain ⟨y, ys, rfl, h1, h2, h3, h4⟩ := h
    cases i with
    | zero => simp at hx; subst hx; exact ⟨y, rfl, h1, h2, h3⟩
    | succ i => simp at hx; simpa using h4.get i x hx
theorem ERs.of_get {β : Bij} : ∀ {es : List (SV × SV × Nat)} {l : List MapEntry}, l.length = es.length → (∀ (i : Nat) (x : SV × SV × Nat), es[i]? = some x → ∃ y, l[i]? = some y ∧ VR β x.1 y.key ∧ VR β x.2.1 y.val ∧ y.born = x.2.2) → ERs β es l
  | [], l, hl, h => by cases l <;> simp_all [ERs]
  | e :: es, l, hl, h => by
    cases l with
    | nil => simp at hl
    | cons y ys =>
      obtain ⟨y', h1, h2, h3, h4⟩ := h 0 e rfl
      simp at h1; subst h1
      simp only [ERs]
      exact ⟨y, ys, rfl, h2, h3, h4, ERs.of_get (by simpa using hl) fun i x hx => by simpa using h (i + 1) x (by simpa using hx)⟩
theorem ERs.append {β : Bij} : ∀ {es fs : List (SV × SV × Nat)} {l m : List MapEntry}, ERs β es l → ERs β fs m → ERs β (es ++ fs) (l ++ m)
  | [], fs, l, m, h, k => by simp only [ERs] at h; subst h; simpa using k
  | e :: es, fs, l, m, h, k => by
    simp only [ERs] at h
    obtain ⟨y, ys, rfl, h1, h2, h3, h4⟩ := h
    simp only [List.cons_append, ERs]
    exact ⟨y, _, rfl, h1, h2, h3, h4.append k⟩
theorem updM_length (k v : SV) : ∀ (l : List (SV × SV × Nat)) (n : Nat), (updM k v l n).length = l.length
  | [], n => rfl
  | e :: l, 0 => rfl
  | e :: l, n + 1 => by show (e :: updM k v l n).length = _; simp [updM_length k v l n]
theorem updM_get (k v : SV) : ∀ (l : List (SV × SV × Nat)) (n i : Nat), (updM k v l n)[i]? = if i = n then (l[n]?).map (fun e => (k, v, e.2.2)) else l[i]?
  | [], n, i => by show ([] : List (SV × SV × Nat))[i]? = _; simp
  | e :: l, 0, i => by
    show ((k, v, e.2.2) :: l)[i]? = _
    cases i <;> simp
  | e :: l, n + 1, i => by
    show (e :: updM k v l n)[i]? = _
    cases i with
    | zero => simp
    | succ i => simp [updM_get k v l n i]
theorem setObj_ok {S : Sites} {β : Bij} {h h' : Tr SO} {n : Nat} {w : World} (hH : HR S β h n w) {b : Nat} {o o' : SO} {e : Nat × Nat × Nat} {x : Obj} (hb : h.get b = some o) (hrw : isRw o = true) (he : β b = some e)
    (hh : ∀ k, h'.get k = if k = b then some o' else h.get k) (hor : OR S β o' e.2.1 e.2.2 (some x)) :
    HR S β h' n { w with heap := w.heap.setIfInBounds e.1 x } ∧ FR β h w β h' { w with heap := w.heap.setIfInBounds e.1 x } := by
  obtain ⟨hlt, _⟩ := hH.block hb he
  have hk : ∀ k, k ≠ e.1 → (w.heap.setIfInBounds e.1 x)[k]? = w.heap[k]? := fun k hk => by simp [Ne.symm hk]
  exact ⟨hH.write hb hrw he hk hh (by simpa [hlt] using hor), FR.write hb hrw he rfl rfl rfl (by simp) hk hh⟩
theorem keyThatStays_ok {β : Bij} {k : SV} {old new : Value} (h1 : VR β k old) (h2 : VR β k new) (w : World) : ∃ r w', (Instr.keyThatStays old new).run P w = .ok r w' ∧ VR β k r ∧ SameMem w w' := by
  unfold Instr.keyThatStays
  by_cases c : Instr.sameBits 10000 old new = true
  · simp only [c, if_true, Sem.run_pure]; exact ⟨_, _, rfl, h2, SameMem.refl w⟩
  · simp only [c, if_false, Sem.run_bind, run_choose, Question.forced]
    have : (decide (2 = 1) : Bool) = false := rfl
    simp only [this, Bool.false_eq_true, if_false, Result.andThen_ok, Sem.run_pure]
    refine ⟨_, _, rfl, ?_, ⟨rfl, rfl, rfl, rfl⟩⟩
    split <;> assumption
section
variable {E : Env} {S : Sites} {β : Bij} {h : Tr SO} {n : Nat} {w : World}
/-- What finding or making an entry comes to. -/
theorem entryS_inv {kt b : Nat} {k : SV} {new : Option SV → SV} {c : SV → Nat → Tr SO → Option (Sig × St)} {zero : SV} {y : Sig × St} (hs : entryS E h kt b k new (h.get b) c zero = some y) :
    ∃ es clock r, h.get b = some (.map es clock) ∧ findM E.tt kt k es 0 = some r ∧
      ((∃ i v born old h', r = some (i, v, born) ∧ es[i]? = some old ∧ old.1 = k ∧ (∀ q, h'.get q = if q = b then some (.map (updM k (new (some v)) es i) clock) else h.get q) ∧ c v born h' = some y) ∨
       (∃ h', r = none ∧ (∀ q, h'.get q = if q = b then some (.map (es ++ [(k, new none, clock)]) (Nat.succ clock)) else h.get q) ∧ c zero clock h' = some y)) := by
  unfold entryS at hs
  cases hg : h.get b with
  | none => rw [hg] at hs; cases hs
  | some ob =>
    rw [hg] at hs
    simp only at hs
    cases ob <;> simp only [] at hs <;> try (cases hs; done)
    rename_i es clock
    cases hf : findM E.tt kt k es 0 with
    | none => rw [hf] at hs; cases hs
    | some r =>
      rw [hf] at hs
      refine ⟨es, clock, r, rfl, hf, ?_⟩
      simp only at hs
      cases r with
      | none =>
        simp only [fL_eq, fN_eq, catL_eq] at hs
        obtain ⟨h', h1, h2⟩ := Tr.setK_inv _ _ _ _ _ _ hs
        exact .inr ⟨h', rfl, h2, h1⟩
      | some e =>
        obtain ⟨i, v, born⟩ := e
        simp only at hs
        obtain ⟨old, h1, hs⟩ := onSome_inv hs
        obtain ⟨h2, hs⟩ := ifB_some hs
        rw [fL_eq] at hs
        obtain ⟨h', h3, h4⟩ := Tr.setK_inv _ _ _ _ _ _ hs
        rw [nthL_eq] at h1
        exact .inl ⟨i, v, born, old, h', rfl, h1, sameV_eq _ _ h2, h4, h3⟩
variable {a : Act} {o : Oper} {tm : Tr SV} {dst : Option Nat} {ds : List SDef} {rc : RC} {c : Next} {y : Sig × St}
/-- The model's entries, by then. -/
theorem upd_entries {es : List (SV × SV × Nat)} {es' : Array MapEntry} (he : ERs β es es'.toList) {i : Nat} {old : SV × SV × Nat} (ho : es[i]? = some old) {k v : SV} {f : MapEntry → MapEntry}
    (hf : ∀ x, es'[i]? = some x → VR β k (f x).key ∧ VR β v (f x).val ∧ (f x).born = x.born) : ERs β (updM k v es i) (es'.modify i f).toList := by
  have hl := he.length
  simp only [Array.length_toList] at hl
  refine ERs.of_get (by simp [updM_length, hl]) fun q x hx => ?_
  rw [updM_get] at hx
  rw [Array.getElem?_toList, Array.getElem?_modify]
  by_cases e : q = i
  · subst e
    rw [if_pos rfl, ho] at hx
    simp only [Option.map_some, Option.some.injEq] at hx
    subst hx
    obtain ⟨z, z1, z2, z3, z4⟩ := he.get q old ho
    rw [Array.getElem?_toList] at z1
    obtain ⟨f1, f2, f3⟩ := hf z z1
    exact ⟨f z, by simp [z1], f1, f2, f3.trans z4⟩
  · rw [if_neg e] at hx
    rw [if_neg (fun e' => e e'.symm)]
    obtain ⟨z, z1, z2⟩ := he.get q x hx
    rw [Array.getElem?_toList] at z1
    exact ⟨z, z1, z2⟩
theorem keyT_und (hT : TTOk P tt) {kt : Nat} {k : SV} (hk : keyT tt kt k = true) : ∃ d, P.underlying kt = some d := by
  unfold keyT keyN at hk
  split at hk
  · rename_i q hq; exact ⟨_, (hT kt q hq).und⟩
  · cases hk
theorem mapUpdate_run (hT : TTOk P E.tt) {t kt et : Nat} {i : TI} (hi : TIOk P t i) (hd : i.d = .map kt et) {b : Nat} {k v : SV} {mv kv vv : Value} (hm : VR β (.map b) mv) (hk : VR β k kv) (hv : VR β v vv)
    (hkey : keyT E.tt kt k = true) (hH : HR S β h n w) {z : SV} {c : SV → Nat → Tr SO → Option (Sig × St)} (hs : entryS E h kt b k (fun _ => v) (h.get b) c z = some y) :
    ∃ h' w' u p, (Instr.mapUpdate t mv kv vv).run P w = .ok () w' ∧ HR S β h' n w' ∧ FR β h w β h' w' ∧ c u p h' = some y := by
  have h1 := hi.run_und w
  rw [hd] at h1
  obtain ⟨d, hkd⟩ := keyT_und hT hkey
  have hck := keyT_run hT hk hkey false 9996 w
  obtain ⟨es, clock, r, hg, hf, hcase⟩ := entryS_inv hs
  simp only [VR] at hm
  obtain ⟨kk, sh, mm, hb, rfl⟩ := hm
  obtain ⟨_, hor⟩ := hH.block hg hb
  obtain ⟨es', g1, g2⟩ := hor
  simp only at g1
  obtain ⟨r', hfk, hr⟩ := findKey_run hT hkd hk w g2 hf
  rcases hcase with ⟨j, v0, born, old, h', rfl, ho, hok, hh, hc⟩ | ⟨h', rfl, hh, hc⟩
  · simp only [FoundR] at hr
    obtain ⟨v', rfl, hv'⟩ := hr
    obtain ⟨x, x1, x2, x3, x4⟩ := g2.get j old ho
    rw [Array.getElem?_toList] at x1
    rw [hok] at x2
    obtain ⟨key, w1, hks, hkr, hsm⟩ := keyThatStays_ok (P := P) x2 hk w
    have g1' : w1.heap[kk]? = some (.map es' clock) := by rw [hsm.heap]; exact g1
    obtain ⟨q1, q2⟩ := setObj_ok (hH.same hsm) hg rfl hb hh (x := .map (es'.modify j fun e => { e with key, val := vv }) clock) ⟨_, rfl, upd_entries g2 ho fun x _ => ⟨hkr, hv, rfl⟩⟩
    refine ⟨h', _, v0, born, ?_, q1, (FR.same hsm).trans q2, hc⟩
    simp only [Instr.mapUpdate, Sem.run_bind, h1, Result.andThen_ok, MapKept.run_getObj_map g1, hck, hfk, x1, Option.map_some, Option.getD_some, hks, MapKept.run_setObj_map _ g1']
  · simp only [FoundR] at hr
    subst hr
    obtain ⟨q1, q2⟩ := setObj_ok hH hg rfl hb hh (x := .map (es'.push { key := kv, val := vv, born := clock }) (clock + 1)) ⟨_, rfl, by
      rw [Array.toList_push]; exact g2.append (by simp only [ERs]; exact ⟨_, _, rfl, hk, hv, rfl, rfl⟩)⟩
    refine ⟨h', _, _, _, ?_, q1, q2, hc⟩
    simp only [Instr.mapUpdate, Sem.run_bind, h1, Result.andThen_ok, MapKept.run_getObj_map g1, hck, hfk, MapKept.run_setObj_map _ g1]
theorem mapSet_eff (hT : TTOk P E.tt) {t kt et : Nat} {i : TI} (hi : TIOk P t i) (hd : i.d = .map kt et) {om ok ov : Operand} {m k v : X} (hm : xOf om = some m) (hk : xOf ok = some k) (hv : xOf ov = some v)
    (ho : o.op = .mapUpdate t om ok ov ∨ o.op = .insert t om ok ov) (hH : HR S β h n w) (hE : OpE β tm a o.op) (hs : mapSetS E tm ds h n rc dst c kt (ev tm k) (ev tm v) (ev tm m) = some y) : Eff P S β h w a o tm dst ds rc c y := by
  have hmv : VR β (ev tm m) (a.eval om) := by rcases ho with ho | ho <;> rw [ho] at hE <;> exact hE.x hm (by (first | (simp [Op.operands]; done) | (intro p hp; subst hp; simp [Op.operands]; done) | (intro o ho; exact mem_args ho) | (intro o ho; simp only [Op.operands, Array.mem_append]; first | exact .inl (Array.mem_toList_iff.1 ho) | exact .inr (Array.mem_toList_iff.1 ho)) | (apply mem_args; simp [*]; done)))
  have hkv : VR β (ev tm k) (a.eval ok) := by rcases ho with ho | ho <;> rw [ho] at hE <;> exact hE.x hk (by (first | (simp [Op.operands]; done) | (intro p hp; subst hp; simp [Op.operands]; done) | (intro o ho; exact mem_args ho) | (intro o ho; simp only [Op.operands, Array.mem_append]; first | exact .inl (Array.mem_toList_iff.1 ho) | exact .inr (Array.mem_toList_iff.1 ho)) | (apply mem_args; simp [*]; done)))
  have hvv : VR β (ev tm v) (a.eval ov) := by rcases ho with ho | ho <;> rw [ho] at hE <;> exact hE.x hv (by (first | (simp [Op.operands]; done) | (intro p hp; subst hp; simp [Op.operands]; done) | (intro o ho; exact mem_args ho) | (intro o ho; simp only [Op.operands, Array.mem_append]; first | exact .inl (Array.mem_toList_iff.1 ho) | exact .inr (Array.mem_toList_iff.1 ho)) | (apply mem_args; simp [*]; done)))
  generalize ev tm m = sm at hs hmv
  generalize ev tm k = sk at hs hkv
  generalize ev tm v = sv at hs hvv
  cases sm <;> simp only [mapSetS] at hs <;> try (cases hs; done)
  rename_i b
  cases hkey : keyT E.tt kt sk with
  | false => rw [hkey] at hs; cases hs
  | true =>
    rw [hkey] at hs
    simp only [cond_true] at hs
    obtain ⟨h', w', u, p, r1, r2, r3, r4⟩ := mapUpdate_run hT hi hd hmv hkv hvv hkey hH hs
    refine ⟨.tup [], β, h', n, undef, w', r4, .inr ⟨?_, rfl⟩, VR_undef _, r2, r3⟩
    rcases ho with ho | ho <;> simp only [execOp, ho, Sem.run_bind, r1, Result.andThen_ok, Sem.run_pure]
theorem mapEntry_eff (hT : TTOk P E.tt) {t kt et : Nat} {i j : TI} (hi : TIOk P t i) (hd : i.d = .map kt et) (hj : TIOk P et j) {zs : List SV} (hz : j.zero = some zs) {z : SV} (hz' : shutV j.agg zs = some z)
    {om ok : Operand} {m k : X} (hm : xOf om = some m) (hk : xOf ok = some k)
    (ho : o.op = .mapEntry t om ok) (hH : HR S β h n w) (hE : OpE β tm a o.op) (hs : mapEntryS E tm ds h n rc dst c kt (ev tm k) z (ev tm m) = some y) : Eff P S β h w a o tm dst ds rc c y := by
  rw [ho] at hE
  have hmv := hE.x hm (by (first | (simp [Op.operands]; done) | (intro p hp; subst hp; simp [Op.operands]; done) | (intro o ho; exact mem_args ho) | (intro o ho; simp only [Op.operands, Array.mem_append]; first | exact .inl (Array.mem_toList_iff.1 ho) | exact .inr (Array.mem_toList_iff.1 ho)) | (apply mem_args; simp [*]; done)))
  have hkv := hE.x hk (by (first | (simp [Op.operands]; done) | (intro p hp; subst hp; simp [Op.operands]; done) | (intro o ho; exact mem_args ho) | (intro o ho; simp only [Op.operands, Array.mem_append]; first | exact .inl (Array.mem_toList_iff.1 ho) | exact .inr (Array.mem_toList_iff.1 ho)) | (apply mem_args; simp [*]; done)))
  generalize ev tm m = sm at hs hmv
  generalize ev tm k = sk at hs hkv
  cases sm <;> simp only [mapEntryS] at hs <;> try (cases hs; done)
  rename_i b
  cases hkey : keyT E.tt kt sk with
  | false => rw [hkey] at hs; cases hs
  | true =>
    rw [hkey] at hs
    simp only [cond_true] at hs
    have h1 := hi.run_und w
    rw [hd] at h1
    obtain ⟨zv, hz1, hz2, hz3⟩ := hj.run_zero w hz
    have hzv : VR β z zv := cv_VR (hz3 z hz')
    obtain ⟨d, hkd⟩ := keyT_und hT hkey
    have hck := keyT_run hT hkv hkey false 9996 w
    obtain ⟨es, clock, r, hg, hf, hcase⟩ := entryS_inv hs
    simp only [VR] at hmv
    obtain ⟨kk, sh, mm, hb, hmv⟩ := hmv
    obtain ⟨_, hor⟩ := hH.block hg hb
    obtain ⟨es', g1, g2⟩ := hor
    simp only at g1
    obtain ⟨r', hfk, hr⟩ := findKey_run hT hkd hkv w g2 hf
    rcases hcase with ⟨q, v0, born, old, h', rfl, hold, hok, hh, hc⟩ | ⟨h', rfl, hh, hc⟩
    · simp only [FoundR] at hr
      obtain ⟨v', rfl, hv'⟩ := hr
      obtain ⟨x, x1, x2, x3, x4⟩ := g2.get q old hold
      rw [Array.getElem?_toList] at x1
      rw [hok] at x2
      obtain ⟨_, k2, hfs⟩ := findM_spec hf
      simp only [Nat.sub_zero] at hfs
      rw [hold] at hfs
      cases hfs
      obtain ⟨key, w1, hks, hkr, hsm⟩ := keyThatStays_ok (P := P) x2 hkv w
      have g1' : w1.heap[kk]? = some (.map es' clock) := by rw [hsm.heap]; exact g1
      obtain ⟨q1, q2⟩ := setObj_ok (hH.same hsm) hg rfl hb hh (x := .map (es'.modify q fun e => { e with key }) clock) ⟨_, rfl, upd_entries g2 hold fun x' hx' => ⟨hkr, by
        rw [x1] at hx'; cases hx'; exact x3, rfl⟩⟩
      simp only [fN_eq] at hc
      refine ⟨_, β, h', n, .tuple #[v', goInt x.born], _, hc, .inl ?_, ?_, q1, (FR.same hsm).trans q2⟩
      · simp only [execOp, ho, hmv, Instr.mapEntry, Sem.run_bind, h1, Result.andThen_ok, MapKept.run_getObj_map g1, hck, hfk, x1, Option.map_some, Option.getD_some, hks, MapKept.run_setObj_map _ g1', Sem.run_pure]
      · simp only [VR]
        exact ⟨_, rfl, VRs.cons hv' (VRs.cons (by simp only [VR, goInt]; rw [x4]; rfl) VRs.nil)⟩
    · simp only [FoundR] at hr
      subst hr
      obtain ⟨q1, q2⟩ := setObj_ok hH hg rfl hb hh (x := .map (es'.push { key := a.eval ok, val := zv, born := clock }) (clock + 1)) ⟨_, rfl, by
        rw [Array.toList_push]; exact g2.append (by simp only [ERs]; exact ⟨_, _, rfl, hkv, hzv, rfl, rfl⟩)⟩
      simp only [fN_eq] at hc
      refine ⟨_, β, h', n, .tuple #[zv, goInt clock], _, hc, .inl ?_, ?_, q1, q2⟩
      · simp only [execOp, ho, hmv, Instr.mapEntry, Sem.run_bind, h1, Result.andThen_ok, MapKept.run_getObj_map g1, hck, hfk, hz1, MapKept.run_setObj_map _ g1, Sem.run_pure]
      · simp only [VR]
        exact ⟨_, rfl, VRs.cons hzv (VRs.cons (by simp only [VR, goInt]; rfl) VRs.nil)⟩
theorem setM_cons (born : Nat) (v : SV) (e : SV × SV × Nat) (es : List (SV × SV × Nat)) : setM born v (e :: es) = ifB (Nat.beq e.2.2 born) (some ((e.1, v, e.2.2) :: es)) (onSome (setM born v es) none fun es => some (e :: es)) := rfl
theorem setM_run {born : Nat} {v : SV} : ∀ {es es2 : List (SV × SV × Nat)} {l : List MapEntry}, ERs β es l → setM born v es = some es2 →
    ∃ i old, l.findIdx? (fun e => (e.born : Int) == (born : Int)) = some i ∧ es[i]? = some old ∧ es2 = updM old.1 v es i
  | [], es2, l, he, h => by have h2 : none = some es2 := h; cases h2
  | e :: es, es2, l, he, h => by
    rw [setM_cons] at h
    simp only [ERs] at he
    obtain ⟨x, xs, rfl, h1, h2, h3, h4⟩ := he
    cases hc : Nat.beq e.2.2 born with
    | true =>
      rw [hc] at h
      have h5 : some ((e.1, v, e.2.2) :: es) = some es2 := h
      cases h5
      have := beq_eq' hc
      refine ⟨0, e, ?_, rfl, rfl⟩
      rw [List.findIdx?_cons, h3, this]; simp
    | false =>
      rw [hc] at h
      obtain ⟨es3, h5, h6⟩ := onSome_inv h
      cases h6
      obtain ⟨i, old, h7, h8, h9⟩ := setM_run h4 h5
      refine ⟨i + 1, old, ?_, by simpa using h8, by rw [h9]; rfl⟩
      have hne : ¬ (x.born = born) := by rw [h3]; intro e'; rw [e'] at hc; simp at hc
      have hne' : ((x.born : Int) == (born : Int)) = false := by
        rw [beq_eq_false_iff_ne]; omega
      rw [List.findIdx?_cons, hne', h7]; simp
theorem entryStore_eff {t : Nat} {om os ov : Operand} {m s v : X} (hm : xOf om = some m) (hs' : xOf os = some s) (hv : xOf ov = some v)
    (ho : o.op = .entryStore t om os ov) (hH : HR S β h n w) (hE : OpE β tm a o.op) (hs : entryStoreS tm ds h n rc dst c (ev tm s) (ev tm v) (ev tm m) = some y) : Eff P S β h w a o tm dst ds rc c y := by
  rw [ho] at hE
  have hmv := hE.x hm (by (first | (simp [Op.operands]; done) | (intro p hp; subst hp; simp [Op.operands]; done) | (intro o ho; exact mem_args ho) | (intro o ho; simp only [Op.operands, Array.mem_append]; first | exact .inl (Array.mem_toList_iff.1 ho) | exact .inr (Array.mem_toList_iff.1 ho)) | (apply mem_args; simp [*]; done)))
  have hsv := hE.x hs' (by (first | (simp [Op.operands]; done) | (intro p hp; subst hp; simp [Op.operands]; done) | (intro o ho; exact mem_args ho) | (intro o ho; simp only [Op.operands, Array.mem_append]; first | exact .inl (Array.mem_toList_iff.1 ho) | exact .inr (Array.mem_toList_iff.1 ho)) | (apply mem_args; simp [*]; done)))
  have hvv := hE.x hv (by (first | (simp [Op.operands]; done) | (intro p hp; subst hp; simp [Op.operands]; done) | (intro o ho; exact mem_args ho) | (intro o ho; simp only [Op.operands, Array.mem_append]; first | exact .inl (Array.mem_toList_iff.1 ho) | exact .inr (Array.mem_toList_iff.1 ho)) | (apply mem_args; simp [*]; done)))
  generalize ev tm m = sm at hs hmv
  generalize ev tm s = ss at hs hsv
  generalize ev tm v = sv at hs hvv
  cases sm <;> simp only [entryStoreS] at hs <;> try (cases hs; done)
  rename_i b
  cases hn : natOf ss with
  | none => rw [hn] at hs; cases hs
  | some born =>
    rw [hn] at hs
    simp only at hs
    obtain ⟨kd, rfl⟩ := natOf_inv hn
    cases hg : h.get b with
    | none => rw [hg] at hs; cases hs
    | some ob =>
      rw [hg] at hs
      simp only at hs
      cases ob <;> simp only [] at hs <;> try (cases hs; done)
      rename_i es clock
      cases hse : setM born sv es with
      | none => rw [hse] at hs; cases hs
      | some es2 =>
        rw [hse] at hs
        simp only [fL_eq] at hs
        obtain ⟨h', hc, hh⟩ := Tr.setK_inv _ _ _ _ _ _ hs
        simp only [VR] at hmv hsv
        obtain ⟨kk, sh, mm, hb, hmv⟩ := hmv
        obtain ⟨_, hor⟩ := hH.block hg hb
        obtain ⟨es', g1, g2⟩ := hor
        simp only at g1
        obtain ⟨j, old, f1, f2, rfl⟩ := setM_run g2 hse
        obtain ⟨x, x1, x2, x3, x4⟩ := g2.get j old f2
        rw [Array.getElem?_toList] at x1
        obtain ⟨q1, q2⟩ := setObj_ok hH hg rfl hb hh (x := .map (es'.modify j fun e => { e with val := a.eval ov }) clock) ⟨_, rfl, upd_entries g2 f2 fun x' hx' => ⟨by
          rw [x1] at hx'; cases hx'; exact x2, hvv, rfl⟩⟩
        refine ⟨.tup [], β, h', n, undef, _, hc, .inr ⟨?_, rfl⟩, VR_undef _, q1, q2⟩
        have hfi : es'.findIdx? (fun e => (e.born : Int) == (born : Int)) = some j := by rw [← f1, ← List.findIdx?_toArray]
        simp only [execOp, ho, hmv, hsv, Instr.entryStore, Sem.run_bind, Result.andThen_ok, MapKept.run_getObj_map g1, asInt, asIntOf, Sem.run_pure, Int.ofNat_eq_natCast, hfi, MapKept.run_setObj_map _ g1]
theorem next_eff {oi : Operand} {x : X} (hx : xOf oi = some x) (ho : o.op = .next oi true) (hH : HR S β h n w) (hE : OpE β tm a o.op) (hs : nextS tm ds h n rc dst c (ev tm x) = some y) : Eff P S β h w a o tm dst ds rc c y := by
  rw [ho] at hE
  have hxv := hE.x hx (by (first | (simp [Op.operands]; done) | (intro p hp; subst hp; simp [Op.operands]; done) | (intro o ho; exact mem_args ho) | (intro o ho; simp only [Op.operands, Array.mem_append]; first | exact .inl (Array.mem_toList_iff.1 ho) | exact .inr (Array.mem_toList_iff.1 ho)) | (apply mem_args; simp [*]; done)))
  generalize ev tm x = sx at hs hxv
  cases sx <;> simp only [nextS] at hs <;> try (cases hs; done)
  rename_i b off
  cases off with
  | succ off => cases hs
  | zero =>
    simp only at hs
    cases hg : h.get b with
    | none => rw [hg] at hs; cases hs
    | some ob =>
      rw [hg] at hs
      simp only at hs
      cases ob <;> simp only [] at hs <;> try (cases hs; done)
      rename_i s pos
      simp only [VR] at hxv
      obtain ⟨kk, sh, mm, hb, hxv⟩ := hxv
      obtain ⟨_, hor⟩ := hH.block hg hb
      obtain ⟨h0, u, g1, rfl⟩ := hor
      simp only at h0 g1
      subst h0
      have hget : (getObj kk).run P w = .ok (.stringIter u pos) w := by simp [getObj, Sem.run, g1]
      rw [nthL_eq] at hs
      cases hq : (u.data.toList.map UInt8.toNat)[pos]? with
      | none =>
        rw [hq] at hs
        have hge : ¬ pos < u.size := by
          rw [List.getElem?_eq_none_iff] at hq
          have : u.data.size = u.size := rfl
          simp at hq; omega
        refine ⟨_, β, h, n, .tuple #[.bool false], w, hs, .inl ?_, by simp only [VR]; exact ⟨_, rfl, VRs.cons (by simp [VR]) VRs.nil⟩, hH, FR.refl _ _ _⟩
        simp only [execOp, ho, hxv, Nat.zero_add, Instr.next, Sem.run_bind, hget, Result.andThen_ok, Nat.add_zero, if_neg hge, Sem.run_pure]
      | some q =>
        rw [hq] at hs
        simp only at hs
        cases hc : Nat.blt q 128 with
        | false => rw [hc] at hs; cases hs
        | true =>
          rw [hc] at hs
          simp only [cond_true, fN_eq] at hs
          obtain ⟨h', hc', hh⟩ := Tr.setK_inv _ _ _ _ _ _ hs
          have hlt : pos < u.size := by
            have := (List.getElem?_eq_some_iff.1 hq).1
            simpa using this
          have hqe : (u[pos]'hlt).toNat = q := by
            rw [List.getElem?_map, Array.getElem?_toList] at hq
            have : u.data[pos]? = some (u[pos]'hlt) := Array.getElem?_eq_getElem hlt
            rw [this] at hq; simpa using hq
          have hdec := decode_ascii u pos hlt (by rw [hqe]; exact blt_lt hc)
          rw [hqe] at hdec
          obtain ⟨q1, q2⟩ := setObj_ok hH hg rfl hb hh (x := .stringIter u (pos + 1)) ⟨rfl, u, rfl, rfl⟩
          have hset : (setObj kk (.stringIter u (pos + 1))).run P w = .ok () { w with heap := w.heap.setIfInBounds kk (.stringIter u (pos + 1)) } := by simp [setObj, Sem.run, g1]
          refine ⟨_, β, h', n, .tuple #[.bool true, goInt pos, .int .i32 q], _, hc', .inl ?_, ?_, q1, q2⟩
          · simp only [execOp, ho, hxv, Nat.zero_add, Instr.next, Sem.run_bind, hget, Result.andThen_ok, if_pos hlt, hdec, hset, Sem.run_pure]
          · simp only [VR]
            exact ⟨_, rfl, VRs.cons (by simp [VR]) (VRs.cons (by simp only [VR, goInt]; rfl) (VRs.cons (by simp only [VR]; rfl) VRs.nil))⟩
end
end
end Go.Sh

/- The shadow machine: append. -/
namespace Go.Sh
set_option linter.unusedSimpArgs false
set_option linter.unusedVariables false
noncomputable section
variable {P : Program} {tt : Tr TI}

theorem growBy_le (need : Nat) : ∀ (r c : Nat), c ≤ 2 * need + 768 → Builtin.growBy need r c ≤ 2 * need + 768
  | 0, c, h => by simpa [Builtin.growBy] using h
  | r + 1, c, h => by
    unfold Builtin.growBy
    split
    · exact h
    · exact growBy_le need r _ (by omega)
theorem nextcap_le {need old : Nat} (h : old < need) : Builtin.nextslicecap need old ≤ 2 * need + 768 := by
  unfold Builtin.nextslicecap
  split
  · omega
  · split
    · omega
    · exact growBy_le need 4 old (by omega)
theorem roomy_room {need old bytes : Nat} (h : roomy need bytes = true) (ho : old < need) : ¬ (Builtin.nextslicecap need old * bytes > 2 ^ 48) := by
  have h1 := ble_le h
  have h2 := nextcap_le ho
  have h3 : Builtin.nextslicecap need old * bytes ≤ (4 * need + 4096) * bytes := Nat.mul_le_mul_right _ (by omega)
  have : (2 ^ 48 : Nat) = 281474976710656 := rfl
  omega

/-- The cells that are appended, in the model. -/
theorem newCells_run {S : Sites} {β : Bij} {h : Tr SO} {n : Nat} {w : World} (hH : HR S β h n w) {sx : SV} {xv : Value} (hx : VR β sx xv) {size m : Nat} {new : List SV} (hn : newCells h size sx = some (m, new)) :
    (Builtin.lenOf xv).run P w = .ok m w ∧ ∃ arr : Array Value, VRs β new arr.toList ∧ arr.size = m * size ∧ ∀ w', w'.heap = w.heap → (Builtin.firstCells size m xv).run P w' = .ok arr w' := by
  cases sx <;> simp only [newCells] at hn <;> try (cases hn; done)
  · rename_i s
    cases hc : Nat.beq size 1 with
    | false => rw [hc] at hn; cases hn
    | true =>
      rw [hc] at hn
      simp only [cond_true, Option.some.injEq, Prod.mk.injEq] at hn
      obtain ⟨rfl, rfl⟩ := hn
      have := beq_eq' hc; subst this
      simp only [VR] at hx
      obtain ⟨u, rfl, rfl⟩ := hx
      have hsz : (u.data.toList.map UInt8.toNat).length = u.size := by simp
      rw [hsz]
      refine ⟨by simp [Builtin.lenOf], (u.data.map fun b => .int .u8 b.toNat), ?_, by have : u.data.size = u.size := rfl; simp [this], fun w' _ => ?_⟩
      · rw [u8s_eq]
        refine VRs.of_get (by simp) fun i x hx => ?_
        rw [List.getElem?_map, List.getElem?_map] at hx
        cases hg : u.data.toList[i]? with
        | none => rw [hg] at hx; cases hx
        | some b =>
          rw [hg] at hx
          simp only [Option.map_some, Option.some.injEq] at hx
          subst hx
          refine ⟨.int .u8 b.toNat, ?_, by simp [VR]⟩
          rw [Array.getElem?_toList] at hg ⊢
          rw [Array.getElem?_map, hg]; rfl
      · have : (u.extract 0 u.size) = u := by simp
        simp only [Builtin.firstCells, this, Sem.run_pure]
  · rename_i b off len esz cap
    cases hg : h.get b with
    | none => rw [hg] at hn; cases hn
    | some ob =>
      rw [hg] at hn
      simp only at hn
      cases ob <;> simp only [] at hn <;> try (cases hn; done)
      rename_i rw' cs
      cases hc : (Nat.beq esz size && Nat.ble (off + len * size) cs.length) with
      | false => rw [hc] at hn; cases hn
      | true =>
        rw [hc] at hn
        simp only [cond_true, Option.some.injEq, Prod.mk.injEq] at hn
        obtain ⟨rfl, rfl⟩ := hn
        rw [Bool.and_eq_true] at hc
        have e1 := beq_eq' hc.1
        subst e1
        have hle := ble_le hc.2
        simp only [VR] at hx
        obtain ⟨kk, sh, mm, o1, c1, hb, rfl, s1, s2, s3⟩ := hx
        obtain ⟨_, hor⟩ := hH.block hg hb
        obtain ⟨arr, e, fr, g1, g2, g3, _, _, g4⟩ := hor.row
        simp only at g1 g2 g3
        refine ⟨by simp [Builtin.lenOf], ?_⟩
        simp only [takeL_eq, dropL_eq]
        have hz : len = 0 ∨ o1 = off + sh := by
          cases cap with
          | none => exact s3
          | some c => exact .inr s3.2
        have hmul : Nat.mul len esz = len * esz := rfl
        rw [hmul]
        rcases hz with hz | hz
        · subst hz
          refine ⟨#[], by simp [VRs], by simp, fun w' _ => by simp [Builtin.firstCells, loadCells, loadCellsFrom]⟩
        · subst hz
          refine ⟨((arr.toList.drop (off + sh)).take (len * esz)).toArray, by simpa using g4 off (len * esz) hle, by simp; omega, fun w' hw' => ?_⟩
          simp only [Builtin.firstCells]
          exact loadCells_ok (by rw [hw']; exact g1) (by omega)
  · cases hn
    simp only [VR] at hx
    subst hx
    exact ⟨by simp [Builtin.lenOf], #[], by simp [VRs], by simp, fun w' _ => by simp [Builtin.firstCells]⟩

section
variable {S : Sites} {β : Bij} {h : Tr SO} {n : Nat} {w : World} {a : Act} {o : Oper} {tm : Tr SV} {dst : Option Nat} {ds : List SDef} {rc : RC} {c : Next} {y : Sig × St}
/-- What the model's 'append' comes to where there is no room. -/
theorem append_new {t u e : Nat} {i j wt : TI} (hi : TIOk P t i) (hd : i.d = .slice e) (hj : TIOk P e j) (hz : zeroFits j = true) (hb : 0 < j.bytes) (hu : TIOk P u wt) (hw : ∀ k, wt.d ≠ .int k)
    {ty : Nat} {base : Option Addr} {sLen sCap : Nat} {xv : Value} {m : Nat} {old new : Array Value} (hlen : (Builtin.lenOf xv).run P w = .ok m w)
    (hnew : ∀ w', w'.heap = w.heap → (Builtin.firstCells j.size m xv).run P w' = .ok new w') (hold : ∀ w', w'.heap = w.heap → (Builtin.firstCells j.size sLen (.slice base sLen sCap)).run P w' = .ok old w')
    (hroom : roomy (sLen + m) j.bytes = true) (hno : sCap < sLen + m) :
    ∃ (cap : Nat) (rest : Array Value) (w' : World), sLen + m ≤ cap ∧ rest.size = (cap - (sLen + m)) * j.size ∧ w'.heap = w.heap.push (.cells (old ++ new ++ rest) e) ∧ w'.os = w.os ∧ w'.tape = w.tape ∧ w'.output = w.output ∧
      (Builtin.append_ #[t, u] ty #[.slice base sLen sCap, xv]).run P w = .ok (.slice (some ⟨w.heap.size, 0, none⟩) (sLen + m) cap) w' := by
  obtain ⟨ti, h1, h2, h3, _⟩ := hj.info
  have hzz : ∃ z, j.zero = some z ∧ z.length = j.size := by
    unfold zeroFits at hz
    split at hz
    · rename_i z hz'; exact ⟨z, hz', by simpa using beq_eq' hz⟩
    · cases hz
  obtain ⟨z, hz1, hz2⟩ := hzz
  let q : Question := .appendCap (sLen + m) sCap e
  let cap := q.cut (w.tape w.drawn q)
  let w1 : World := { w with drawn := w.drawn + 1 }
  obtain ⟨zv, hz3, hz4, _⟩ := hj.run_zero w1 hz1
  have hzs : zv.cells.size = j.size := by
    have := (cvs_VR (β := fun _ => none) hz4).length
    simp at this; omega
  have hcap : sLen + m ≤ cap := Nat.le_add_right _ _
  let rest := Builtin.zeroCells zv.cells (cap - (sLen + m))
  have hrest : rest.size = (cap - (sLen + m)) * j.size := by
    show ((Array.range ((cap - (sLen + m)) * zv.cells.size)).map _).size = _
    simp [hzs]
  refine ⟨cap, rest, { w1 with heap := w.heap.push (.cells (old ++ new ++ rest) e) }, hcap, hrest, rfl, rfl, rfl, rfl, ?_⟩
  have hu1 := hi.run_und w
  rw [hd] at hu1
  have hu2 := hu.run_und w
  have hmatch : (match wt.d with | .int _ => true | _ => false) = false := by
    cases hwd : wt.d <;> first | rfl | exact absurd hwd (hw _)
  have hti : (typeInfo e).run P w = .ok ti w := by simp [typeInfo, h1]
  have hti1 : (typeInfo e).run P w1 = .ok ti w1 := by simp [typeInfo, h1]
  have hch : (choose (.appendCap (sLen + m) sCap e)).run P w = .ok cap w1 := by
    simp only [choose, Sem.run, Question.forced]; rfl
  have hr1 : ¬ (Builtin.nextslicecap (sLen + m) sCap * ti.bytes > 2 ^ 48) := by rw [h3]; exact roomy_room hroom hno
  have hr2 : ¬ (((sLen + m : Nat) : Int) > IntKind.i64.max ∧ (False ∨ ti.bytes = 0)) := by
    rintro ⟨_, h | h⟩
    · exact h
    · omega
  have hr3 : ¬ (sLen + m ≤ sCap) := by omega
  unfold Builtin.append_
  have e0 : (#[t, u] : Array TypeId)[0]? = some t := rfl
  have e1 : (#[t, u] : Array TypeId)[1]? = some u := rfl
  have e2 : (#[Value.slice base sLen sCap, xv] : Array Value)[0]? = some (.slice base sLen sCap) := rfl
  have e3 : (#[Value.slice base sLen sCap, xv] : Array Value)[1]? = some xv := rfl
  simp only [e0, e1, e2, e3, Sem.run_bind, hu1, Result.andThen_ok, hj.run_size w, hu2, Sem.run_pure, hmatch, Bool.false_eq_true, if_false, hlen, Bool.not_false, if_true, if_neg hr3]
  simp only [hti, Result.andThen_ok]
  rw [if_neg hr2]
  simp only [Sem.run_bind, hti, Result.andThen_ok]
  rw [if_neg hr1]
  simp only [Sem.run_bind, hch, hti1, Result.andThen_ok, run_askRoom, hold w1 rfl, hnew w1 rfl, hz3, newRow_run, Sem.run_pure]
  rfl
/-- And where there is. -/
theorem append_in {t u e : Nat} {i j wt : TI} (hi : TIOk P t i) (hd : i.d = .slice e) (hj : TIOk P e j) (hu : TIOk P u wt) (hw : ∀ k, wt.d ≠ .int k)
    {ty : Nat} {base : Option Addr} {sLen sCap : Nat} {xv : Value} {m : Nat} {new : Array Value} (hlen : (Builtin.lenOf xv).run P w = .ok m w)
    (hnew : (Builtin.firstCells j.size m xv).run P w = .ok new w) (hyes : sLen + m ≤ sCap) {w' : World}
    (hst : ∀ a, base = some a → (storeCells (a.add (sLen * j.size)) new.toList).run P w = .ok () w') (hno : base = none → w' = w) :
    (Builtin.append_ #[t, u] ty #[.slice base sLen sCap, xv]).run P w = .ok (.slice base (sLen + m) sCap) w' := by
  have hu1 := hi.run_und w
  rw [hd] at hu1
  have hu2 := hu.run_und w
  have hmatch : (match wt.d with | .int _ => true | _ => false) = false := by
    cases hwd : wt.d <;> first | rfl | exact absurd hwd (hw _)
  unfold Builtin.append_
  have e0 : (#[t, u] : Array TypeId)[0]? = some t := rfl
  have e1 : (#[t, u] : Array TypeId)[1]? = some u := rfl
  have e2 : (#[Value.slice base sLen sCap, xv] : Array Value)[0]? = some (.slice base sLen sCap) := rfl
  have e3 : (#[Value.slice base sLen sCap, xv] : Array Value)[1]? = some xv := rfl
  simp only [e0, e1, e2, e3, Sem.run_bind, hu1, Result.andThen_ok, hj.run_size w, hu2, Sem.run_pure, hmatch, Bool.false_eq_true, if_false, hlen, Bool.not_false, if_true, if_pos hyes, hnew]
  cases base with
  | none => simp [hno rfl]
  | some ad => simp [hst ad rfl]
/-- A new block that bears what was there, and what is new. -/
theorem appNew_eff {h0 : Tr SO} (hsub : HR S β h0 n w) (hF : FR β h w β h0 w) {need size cap : Nat} {cs : List SV} (hc : appNew tm ds h0 n rc dst c need size cs = some y) {all : Array Value} {e : TypeId} {w' : World}
    (hheap : w'.heap = w.heap.push (.cells all e)) (ho : w'.os = w.os) (ht : w'.tape = w.tape) (hu : w'.output = w.output) (hcap : need ≤ cap) (hsz : all.size = cap * size) (hl : cs.length = need * size)
    (hall : ∀ (i : Nat) (x : SV), cs[i]? = some x → ∃ v, all[i]? = some v ∧ VR β x v)
    (hrun : (execOp a.eval o).run P w = .ok (.value (.slice (some ⟨w.heap.size, 0, none⟩) need cap)) w') : Eff P S β h w a o tm dst ds rc c y := by
  simp only [appNew, fL_eq, fN_eq] at hc
  obtain ⟨h', hc, hh⟩ := Tr.setK_inv _ _ _ _ _ _ hc
  have hfree : β n = none := hsub.fresh (Nat.le_refl _)
  have hext := Ext.upd (w.heap.size, 0, all.size) hfree
  have hmul : need * size ≤ cap * size := Nat.mul_le_mul_right _ hcap
  refine ⟨_, upd β n (w.heap.size, 0, all.size), h', Nat.succ n, _, w', hc, .inl hrun, ?_, ?_, hF.trans (FR.alloc hfree hsub.dom ho ht hu hheap hh)⟩
  · simp only [VR]
    exact ⟨_, _, _, _, _, upd_self _ _ _, rfl, hcap, by rw [hsz]; omega, .inr rfl⟩
  · refine hsub.alloc hfree (Nat.le_succ _) (Nat.lt_succ_self _) hheap hh ?_
    refine ⟨all, e, (0, 0), rfl, rfl, by rw [hsz]; omega, fun i x hx => ?_, fun _ j _ => by simp⟩
    obtain ⟨v, e1, e2⟩ := hall i x hx
    exact ⟨v, e1, e2.mono hext⟩
theorem get_two {β : Bij} {a b : List SV} {u v : Array Value} (rest : Array Value) (h : VRs β a u.toList) (k : VRs β b v.toList) (i : Nat) (x : SV) (hx : (a ++ b)[i]? = some x) : ∃ z, (u ++ v ++ rest)[i]? = some z ∧ VR β x z := by
  obtain ⟨z, h1, h2⟩ := (h.append k).get i x hx
  refine ⟨z, ?_, h2⟩
  rw [← Array.toList_append, Array.getElem?_toList] at h1
  rw [Array.getElem?_append_left (Array.getElem?_eq_some_iff.1 h1).1]
  exact h1
theorem append_eff {q : Call} {t u e : Nat} {xs xx : X} {i j wt : TI} (hc : q.callee = .builtin .append) (ht : q.argTypes.toList = [t, u]) (ha : xsOf q.args.toList = some [xs, xx]) (hi : TIOk P t i) (hd : i.d = .slice e)
    (hj : TIOk P e j) (hb : 0 < j.bytes) (hz : zeroFits j = true) (hu : TIOk P u wt) (hw : ∀ k, wt.d ≠ .int k) (ho : o.op = .call q) (hH : HR S β h n w) (hE : OpE β tm a o.op)
    (hs : appTo tm ds h n rc dst c j.size j.bytes (ev tm xs) (newCells h j.size (ev tm xx)) = some y) : Eff P S β h w a o tm dst ds rc c y := by
  rw [ho] at hE
  obtain ⟨os, ox, hl, h1, h2⟩ := xsOf_two ha
  have hsv := hE.x h1 (mem_args (by rw [hl]; simp))
  have hxv := hE.x h2 (mem_args (by rw [hl]; simp))
  generalize ev tm xs = ss at hs hsv
  generalize ev tm xx = sx at hs hxv
  have hexec : ∀ r w', (Builtin.append_ #[t, u] o.type #[a.eval os, a.eval ox]).run P w = .ok r w' → (execOp a.eval o).run P w = .ok (.value r) w' := fun r w' h => by
    rw [run_builtin hc ho]
    simp only [builtin, arr_of_toList ht, arr_of_toList hl]
    simp only [List.map_toArray, List.map_cons, List.map_nil, Sem.run_bind, h, Result.andThen_ok, Sem.run_pure]
  cases hn : newCells h j.size sx with
  | none => rw [hn] at hs; cases hs
  | some mn =>
    obtain ⟨m, new⟩ := mn
    rw [hn] at hs
    obtain ⟨hlen, newA, hnv, hns, hnr⟩ := newCells_run (P := P) hH hxv hn
    have hnl : new.length = m * j.size := by rw [← hnv.length]; simpa using hns
    simp only [appTo] at hs
    cases m with
    | zero =>
      simp only at hs
      have hnil : newA = #[] := by apply Array.eq_empty_of_size_eq_zero; omega
      have hin : ∀ base sLen sCap, a.eval os = .slice base sLen sCap → sLen ≤ sCap → (execOp a.eval o).run P w = .ok (.value (.slice base sLen sCap)) w := fun base sLen sCap he hle => by
        refine hexec _ _ ?_
        rw [he]
        have := append_in (ty := o.type) (base := base) (sLen := sLen) (sCap := sCap) hi hd hj hu hw hlen (hnr w rfl) (by omega) (w' := w) (fun ad _ => by rw [hnil]; rfl) (fun _ => rfl)
        simpa using this
      cases ss <;> simp only [] at hs <;> try (cases hs; done)
      · simp only [VR] at hsv
        obtain ⟨kk, sh, mm, o1, c1, hbb, he, hsl⟩ := hsv
        exact ⟨_, β, h, n, _, w, hs, .inl (hin _ _ _ he hsl.1), by simp only [VR]; exact ⟨kk, sh, mm, o1, c1, hbb, rfl, hsl⟩, hH, FR.refl _ _ _⟩
      · simp only [VR] at hsv
        exact ⟨_, β, h, n, _, w, hs, .inl (hin _ _ _ hsv (Nat.le_refl _)), by simp only [VR], hH, FR.refl _ _ _⟩
    | succ m =>
      simp only [Nat.succ_eq_add_one] at hs
      cases ss <;> simp only [] at hs <;> try (cases hs; done)
      case nils =>
        cases hro : roomy ((m + 1)) j.bytes with
        | false => rw [hro] at hs; cases hs
        | true =>
          rw [hro] at hs
          simp only [cond_true] at hs
          simp only [VR] at hsv
          obtain ⟨cap, rest, w', f1, f2, f3, f4, f5, f6, f7⟩ := append_new (ty := o.type) (base := none) (sLen := 0) (sCap := 0) (old := #[]) hi hd hj hz hb hu hw hlen hnr
            (fun w' _ => by simp [Builtin.firstCells]) (by simpa using hro) (by omega)
          simp only [Nat.zero_add] at f1 f2 f7
          refine appNew_eff hH (FR.refl _ _ _) hs (all := #[] ++ newA ++ rest) f3 f4 f5 f6 (cap := cap) (by omega) ?_ hnl ?_ (hexec _ _ (by rw [hsv]; exact f7))
          · simp only [Array.size_append, hns, f2, Array.size_empty, Nat.zero_add]
            rw [← Nat.add_mul]; congr 1; omega
          · exact fun i x hx => get_two (a := []) (u := #[]) rest (by simp [VRs]) hnv i x hx
      case slice b off len esz cap =>
        cases hg : h.get b with
        | none => rw [hg] at hs; cases hs
        | some ob =>
          rw [hg] at hs
          simp only [appSl] at hs
          cases ob <;> simp only [] at hs <;> try (cases hs; done)
          rename_i rw' cs
          cases hcc : (Nat.beq esz j.size && roomy (len + (m + 1)) j.bytes && Nat.ble (off + len * esz) cs.length) with
          | false => rw [hcc] at hs; cases hs
          | true =>
            rw [hcc] at hs
            simp only [cond_true] at hs
            simp only [Bool.and_eq_true] at hcc
            obtain ⟨⟨c1, hroom⟩, c3⟩ := hcc
            have c1 := beq_eq' c1
            have c3 := ble_le c3
            subst c1
            simp only [VR] at hsv
            obtain ⟨kk, sh, mm, o1, cap', hbb, hsv, s1, s2, s3⟩ := hsv
            obtain ⟨hlt, hor⟩ := hH.block hg hbb
            obtain ⟨arr, el, fr, g1, g2, g3, g4, hall, g5⟩ := hor.row
            simp only at g1 g2 g3 hlt
            have hz0 : len = 0 ∨ o1 = off + sh := by
              cases cap with
              | none => exact s3
              | some c => exact .inr s3.2
            have hold : ∃ oldA : Array Value, VRs β (takeL (dropL cs off) (Nat.mul len j.size)) oldA.toList ∧ oldA.size = len * j.size ∧ (∀ i, i < len * j.size → oldA[i]? = arr[i + o1]?) ∧
                ∀ w', w'.heap = w.heap → (Builtin.firstCells j.size len (.slice (some ⟨kk, o1, none⟩) len cap')).run P w' = .ok oldA w' := by
              have hmul : Nat.mul len j.size = len * j.size := rfl
              rw [takeL_eq, dropL_eq, hmul]
              rcases hz0 with hz0 | hz0
              · subst hz0
                exact ⟨#[], by simp [VRs], by simp, fun i hi => by simp at hi, fun w' _ => by simp [Builtin.firstCells, loadCells, loadCellsFrom]⟩
              · subst hz0
                refine ⟨((arr.toList.drop (off + sh)).take (len * j.size)).toArray, by simpa using g5 off (len * j.size) c3, by simp; omega, fun i hi => ?_, fun w' hw' => ?_⟩
                · simp only [List.getElem?_toArray, List.getElem?_take, if_pos hi, List.getElem?_drop, Array.getElem?_toList]; rw [Nat.add_comm]
                · simp only [Builtin.firstCells]
                  exact loadCells_ok (by rw [hw']; exact g1) (by omega)
            obtain ⟨oldA, ov, osz, oget, orun⟩ := hold
            have hcl : (catL (takeL (dropL cs off) (Nat.mul len j.size)) new).length = (len + (m + 1)) * j.size := by
              rw [catL_eq, List.length_append, ← ov.length, hnl]; simp only [Array.length_toList, osz]; exact (Nat.add_mul _ _ _).symm
            have hnewcase : ∀ {h0 : Tr SO}, HR S β h0 n w → FR β h w β h0 w → cap' < len + (m + 1) → appNew tm ds h0 n rc dst c (len + (m + 1)) j.size (catL (takeL (dropL cs off) (Nat.mul len j.size)) new) = some y → Eff P S β h w a o tm dst ds rc c y := by
              intro h0 hH0 hF0 hlt hs
              obtain ⟨ncap, rest, w', f1, f2, f3, f4, f5, f6, f7⟩ := append_new (ty := o.type) hi hd hj hz hb hu hw hlen hnr orun hroom hlt
              refine appNew_eff hH0 hF0 hs (all := oldA ++ newA ++ rest) f3 f4 f5 f6 (cap := ncap) f1 ?_ hcl ?_ (hexec _ _ (by rw [hsv]; exact f7))
              · simp only [Array.size_append, hns, f2, osz]
                rw [← Nat.add_mul, ← Nat.add_mul]; congr 1; omega
              · intro i x hx
                rw [catL_eq] at hx
                exact get_two rest ov hnv i x hx
            have hincase : len + (m + 1) ≤ cap' → rw' = true → oneL new = true →
                ∃ w' arr', (execOp a.eval o).run P w = .ok (.value (.slice (some ⟨kk, o1, none⟩) (len + (m + 1)) cap')) w' ∧ w'.heap[kk]? = some (.cells arr' el fr) ∧ arr'.size = arr.size ∧
                  (∀ q, arr'[q]? = if o1 + len * j.size ≤ q ∧ q < o1 + len * j.size + newA.size then newA[q - (o1 + len * j.size)]? else arr[q]?) ∧ (∀ k', k' ≠ kk → w'.heap[k']? = w.heap[k']?) ∧ w'.heap.size = w.heap.size ∧
                  w'.os = w.os ∧ w'.tape = w.tape ∧ w'.output = w.output ∧ o1 + len * j.size + newA.size ≤ arr.size := by
              intro hle hrw hone
              have hfit : o1 + len * j.size + newA.size ≤ arr.size := by
                rw [hns, g2]
                have : (len + (m + 1)) * j.size ≤ cap' * j.size := Nat.mul_le_mul_right _ hle
                rw [Nat.add_mul] at this
                omega
              obtain ⟨w', arr', q1, q2, q3, q4, q5, q6, q7, q8, q9⟩ := storeCells_ok (P := P) (o := o1 + len * j.size) newA.toList 0 arr w g1 (by simpa using hfit) (fun q hq => g4 hrw q (by simp only; omega)) (oneL_VRs hone hnv)
              refine ⟨w', arr', hexec _ _ ?_, q2, q3, fun q => by rw [q4 q]; simp, q5, q6, q7, q8, q9, hfit⟩
              rw [hsv]
              refine append_in (ty := o.type) hi hd hj hu hw hlen (hnr w rfl) hle (fun ad had => ?_) (fun hno => by cases hno)
              cases had
              rw [Addr.add_lit]; exact q1
            cases cap with
            | some q =>
              simp only at hs
              obtain ⟨rfl, rfl⟩ := s3
              cases hq : Nat.ble (len + (m + 1)) cap' with
              | false => rw [hq] at hs; exact hnewcase hH (FR.refl _ _ _) (ble_not hq) hs
              | true =>
                rw [hq] at hs
                simp only [cond_true] at hs
                cases hr : (rw' && oneL new && Nat.ble (off + (len + (m + 1)) * j.size) cs.length) with
                | false => rw [hr] at hs; cases hs
                | true =>
                  rw [hr] at hs
                  simp only [cond_true, Bool.and_eq_true] at hs hr
                  obtain ⟨⟨r1, r2⟩, r3⟩ := hr
                  have r3 := ble_le r3
                  subst r1
                  obtain ⟨w', arr', e1, e2, e3, e4, e5, e6, e7, e8, e9, e10⟩ := hincase (ble_le hq) rfl r2
                  simp only [appIn, fL_eq, fN_eq] at hs
                  obtain ⟨h', hs, hh⟩ := Tr.setK_inv _ _ _ _ _ _ hs
                  have hsl : off + len * j.size + new.length ≤ cs.length := by rw [hnl]; rw [Nat.add_mul] at r3; omega
                  refine ⟨_, β, h', n, _, w', hs, .inl e1, ?_, ?_, FR.write (o' := .cells true (setL cs (off + len * j.size) new)) hg rfl hbb e7 e8 e9 e6 e5 hh⟩
                  · simp only [VR]
                    exact ⟨kk, sh, mm, _, _, hbb, rfl, ble_le hq, s2, rfl, rfl⟩
                  · refine hH.write (o' := .cells true (setL cs (off + len * j.size) new)) hg rfl hbb e5 hh ?_
                    refine ⟨arr', el, fr, e2, by rw [e3]; exact g2, by rw [setL_length]; exact g3, fun p x hx => ?_, fun _ => g4 rfl⟩
                    simp only
                    rw [setL_get _ _ _ _ hsl] at hx
                    rw [e4 (p + sh)]
                    have hnA : newA.size = new.length := by rw [hnl, hns]
                    split at hx
                    · rename_i hcnd
                      obtain ⟨v', v1, v2⟩ := hnv.get _ _ hx
                      refine ⟨v', ?_, v2⟩
                      rw [if_pos (by omega)]
                      rw [Array.getElem?_toList] at v1
                      rw [← v1]; congr 1; omega
                    · rename_i hcnd
                      rw [if_neg (by omega)]
                      obtain ⟨v', v1, v2⟩ := hall.get _ _ hx
                      refine ⟨v', ?_, v2⟩
                      have hp' := (List.getElem?_eq_some_iff.1 hx).1
                      rw [List.getElem?_take, if_pos hp', List.getElem?_drop, Array.getElem?_toList] at v1
                      rw [Nat.add_comm]; exact v1
            | none =>
              simp only at hs
              cases hr : (rw' && oneL new) with
              | false => rw [hr] at hs; cases hs
              | true =>
                rw [hr] at hs
                simp only [cond_true, Bool.and_eq_true] at hs hr
                obtain ⟨r1, r2⟩ := hr
                subst r1
                obtain ⟨h1', hs, hh1⟩ := Tr.delK_inv _ _ _ _ _ hs
                by_cases hq : len + (m + 1) ≤ cap'
                · obtain ⟨w', arr', e1, e2, e3, e4, e5, e6, e7, e8, e9, e10⟩ := hincase hq rfl r2
                  simp only [appNew, fL_eq, fN_eq] at hs
                  obtain ⟨h', hs, hh⟩ := Tr.setK_inv _ _ _ _ _ _ hs
                  have hfree : β n = none := hH.fresh (Nat.le_refl _)
                  have hhh : ∀ k, h'.get k = if k = n then some (.cells true (catL (takeL (dropL cs off) (Nat.mul len j.size)) new)) else if k = b then none else h.get k := fun k => by rw [hh k, hh1 k]
                  have hext := Ext.upd (kk, o1, mm) hfree
                  have hnA : newA.size = new.length := by rw [hnl, hns]
                  refine ⟨_, upd β n (kk, o1, mm), h', Nat.succ n, _, w', hs, .inl e1, ?_, ?_, FR.move (sh := o1) hg rfl hbb hfree hH.dom e7 e8 e9 e6 e5 hhh⟩
                  · simp only [VR]
                    exact ⟨kk, o1, mm, o1, cap', upd_self _ _ _, rfl, hq, s2, .inr (by omega)⟩
                  · refine hH.move (sh := o1) hg rfl hbb hfree (Nat.le_succ _) (Nat.lt_succ_self _) e5 hhh ?_
                    refine ⟨arr', el, fr, e2, by rw [e3]; exact g2, ?_, fun p x hx => ?_, fun _ => g4 rfl⟩
                    · rw [hcl]
                      simp only
                      rw [hns] at e10
                      rw [Nat.add_mul]; omega
                    · simp only
                      rw [e4 (p + o1)]
                      have hpl := (List.getElem?_eq_some_iff.1 hx).1
                      rw [hcl] at hpl
                      rw [catL_eq, List.getElem?_append] at hx
                      have hol : (takeL (dropL cs off) (Nat.mul len j.size)).length = len * j.size := by rw [← ov.length]; simpa using osz
                      rw [hol] at hx
                      by_cases hp : p < len * j.size
                      · rw [if_pos hp] at hx
                        rw [if_neg (by omega)]
                        obtain ⟨v', v1, v2⟩ := ov.get _ _ hx
                        rw [Array.getElem?_toList, oget p hp] at v1
                        exact ⟨v', v1, v2.mono hext⟩
                      · rw [if_neg hp] at hx
                        rw [if_pos (by rw [hns]; rw [Nat.add_mul] at hpl; omega)]
                        obtain ⟨v', v1, v2⟩ := hnv.get _ _ hx
                        rw [Array.getElem?_toList] at v1
                        refine ⟨v', ?_, v2.mono hext⟩
                        rw [← v1]; congr 1; omega
                · exact hnewcase (hH.kill hh1) (FR.kill hh1) (by omega) hs
end
end
end Go.Sh

/- The shadow machine: code, frames, calls: how they stand to the model's. -/
namespace Go.Sh
set_option linter.unusedSimpArgs false
set_option linter.unusedVariables false
noncomputable section

/-- A call that is deferred. -/
def DR (β : Bij) : SDef → Deferred → Prop
  | .coll b, d => ∃ e, β b = some e ∧ d = { target := .collected e.1, args := #[] }
  | .call f args, d => ∃ cap as : Array Value, d = { target := .fn (.func f) cap, args := as } ∧ VRs β args (as ++ cap).toList
def DRs (β : Bij) : List SDef → List Deferred → Prop
  | [], l => l = []
  | d :: ds, l => ∃ e es, l = e :: es ∧ DR β d e ∧ DRs β ds es
def ChR (β : Bij) : List (SV × Bool) → List PanicEntry → Prop
  | [], l => l = []
  | (v, r) :: ch, l => ∃ u es, l = { v := u, recovered := r } :: es ∧ VR β v u ∧ ChR β ch es
/-- The frames that called: by those that they were at first. -/
def CsR (β : Bij) (kind : CallKind) (cs0 : List Frame) : RC → List Frame → Prop
  | .no, cs => kind = .normal ∧ cs = cs0
  | .ret, cs => kind = .deferred ∧ ∃ c rest, cs0 = c :: rest ∧ cs = { c with mode := .returning } :: rest
  | .pan ch, cs => kind = .deferred ∧ ∃ c rest ch', cs0 = c :: rest ∧ cs = { c with mode := .panicking ch' } :: rest ∧ ChR β ch ch'
section
variable {β β' : Bij} (h : Ext β β')
include h
theorem DR.mono {d : SDef} {e : Deferred} (r : DR β d e) : DR β' d e := by
  cases d with
  | coll b => obtain ⟨k, h1, h2⟩ := r; exact ⟨k, h _ _ h1, h2⟩
  | call f args => obtain ⟨cap, as, h1, h2⟩ := r; exact ⟨cap, as, h1, h2.mono h⟩
theorem DRs.mono : ∀ {ds : List SDef} {es : List Deferred}, DRs β ds es → DRs β' ds es
  | [], es, r => r
  | d :: ds, es, r => let ⟨e, es', h1, h2, h3⟩ := r; ⟨e, es', h1, h2.mono h, DRs.mono h3⟩
theorem ChR.mono : ∀ {ch : List (SV × Bool)} {es : List PanicEntry}, ChR β ch es → ChR β' ch es
  | [], es, r => r
  | (v, q) :: ch, es, r => let ⟨u, es', h1, h2, h3⟩ := r; ⟨u, es', h1, h2.mono h, ChR.mono h3⟩
theorem CsR.mono {kind : CallKind} {cs0 : List Frame} {rc : RC} {cs : List Frame} (r : CsR β kind cs0 rc cs) : CsR β' kind cs0 rc cs := by
  cases rc with
  | no => exact r
  | ret => exact r
  | pan ch => obtain ⟨h1, c, rest, ch', h2, h3, h4⟩ := r; exact ⟨h1, c, rest, ch', h2, h3, h4.mono h⟩
end
theorem ChR.append {β : Bij} : ∀ {a b : List (SV × Bool)} {u v : List PanicEntry}, ChR β a u → ChR β b v → ChR β (a ++ b) (u ++ v)
  | [], b, u, v, h, k => by have h2 : u = [] := h; subst h2; exact k
  | (x, r) :: a, b, u, v, h, k => let ⟨z, es, h1, h2, h3⟩ := h; ⟨z, es ++ v, by rw [h1]; rfl, h2, ChR.append h3 k⟩

def St.tm : St → Tr SV
  | .mk tm _ _ _ _ => tm
def St.ds : St → List SDef
  | .mk _ ds _ _ _ => ds
def St.heap : St → Tr SO
  | .mk _ _ h _ _ => h
def St.nx : St → Nat
  | .mk _ _ _ n _ => n
def St.rc : St → RC
  | .mk _ _ _ _ rc => rc
/-- A frame's state. -/
structure SR (S : Sites) (nt : Nat) (kind : CallKind) (cs0 : List Frame) (β : Bij) (st : St) (a : Act) (cs : List Frame) (w : World) : Prop where
  tr : TR β nt st.tm a.tmps
  ds : DRs β st.ds a.defers
  hr : HR S β st.heap st.nx w
  cs : CsR β kind cs0 st.rc cs
/-- Where a frame is, behind code: at what follows; at a jump, where that goes where it would have gone from what follows; in a panic. -/
def Lands (P : Program) (m : Machine) (b : Frame) (k : List Item) (β : Bij) (cs : List Frame) (a : Act) (w : World) : Sig → Prop
  | .norm => Steps P m (lone (b.atR a k) cs w)
  | .ret => ∃ k', Steps P m (lone (b.atR a (.code .ret :: k')) cs w)
  | .exit id => ∃ k', exitTo id k' = exitTo id k ∧ Steps P m (lone (b.atR a (.code (.exit id) :: k')) cs w)
  | .goto l => ∃ k', gotoIn l k' = gotoIn l k ∧ Steps P m (lone (b.atR a (.code (.goto l) :: k')) cs w)
  | .pan ch => ∃ k' ch', ChR β ch ch' ∧ Steps P m (lone { b.atR a k' with mode := .panicking ch' } cs w)
theorem Lands.head {P : Program} {m m' : Machine} {b : Frame} {k : List Item} {β : Bij} {cs : List Frame} {a : Act} {w : World} {sig : Sig} (hs : Steps P m m') (h : Lands P m' b k β cs a w sig) : Lands P m b k β cs a w sig := by
  cases sig with
  | norm => exact hs.trans h
  | ret => obtain ⟨k', h⟩ := h; exact ⟨k', hs.trans h⟩
  | exit id => obtain ⟨k', e, h⟩ := h; exact ⟨k', e, hs.trans h⟩
  | goto l => obtain ⟨k', e, h⟩ := h; exact ⟨k', e, hs.trans h⟩
  | pan ch => obtain ⟨k', ch', e, h⟩ := h; exact ⟨k', ch', e, hs.trans h⟩

/-! ## What is compiled -/
/-- Whether an operation is done. -/
def GuardR (all : Array Oper) : Option (Nat × Bool) → G → Prop
  | none, g => g = .yes
  | some (j, want), g => match (all[j]?).bind (·.dst) with
    | some d => g = .when d want
    | none => g = .never
structure OperR (P : Program) (nt : Nat) (all : Array Oper) (o : Oper) (c : COp) : Prop where
  dst : c.dst = o.dst
  lt : ∀ d, o.dst = some d → d < nt
  guard : GuardR all o.guard c.g
  op : KOk P o.op c.k
inductive OpersR (P : Program) (nt : Nat) (all : Array Oper) : List Oper → List COp → Prop
  | nil : OpersR P nt all [] []
  | cons {o : Oper} {c : COp} {l : List Oper} {cs : List COp} (h : OperR P nt all o c) (t : OpersR P nt all l cs) : OpersR P nt all (o :: l) (c :: cs)
/-- Regions that draw their order: what was asked of them. -/
structure DrawR (P : Program) (nt : Nat) (ops : Array Oper) (n : Nat) (l : List (COp × Plan)) : Prop where
  ex : ∃ cs, OpersR P nt ops ops.toList cs ∧ l = plans (cs.zip (befs [] ops.toList)) 0 [] [] ∧ n = l.length ∧
    edgesOk ops.toList = true ∧ chain (cs.zip (befs [] ops.toList)) (cs.zip (befs [] ops.toList)) 0 [] = true ∧ apartOk ops.toList (befs [] ops.toList) ops.toList 0 = true
inductive CodeR (P : Program) (nt : Nat) (ss : List Site) : Code → CC → Prop
  | skip : CodeR P nt ss .skip .skip
  | label {l : Nat} : CodeR P nt ss (.label l) (.label l)
  | ops {id : Nat} {ops : Array Oper} {cs : List COp} (h : OpersR P nt ops ops.toList cs) : CodeR P nt ss (.region id ops false) (.ops cs)
  | draw {id : Nat} {ops : Array Oper} {n : Nat} {l : List (COp × Plan)} (h : DrawR P nt ops n l) : CodeR P nt ss (.region id ops true) (.draw n l)
  | seq {a b : Code} {a' b' : CC} (ha : CodeR P nt ss a a') (hb : CodeR P nt ss b b') : CodeR P nt ss (.seq a b) (.seq a' b')
  | cond {o : Operand} {x : X} {a b : Code} {a' b' : CC} (hx : xOf o = some x) (ha : CodeR P nt ss a a') (hb : CodeR P nt ss b b') : CodeR P nt ss (.cond o a b) (.cond x a' b')
  | block {id : Nat} {b : Code} {b' : CC} (hb : CodeR P nt ss b b') : CodeR P nt ss (.block id b) (.block id b')
  | loop {b : Code} {b' : CC} (hb : CodeR P nt ss b b') : CodeR P nt ss (.loop b) (.loop b')
  | range {f : Operand} {x : X} {ps : Array Tmp} {as body : Code} {as' body' : CC} {n : Nat} (hx : xOf f = some x) (hs : ss[n]? = some ⟨ps.toList, as', body'⟩) (ha : CodeR P nt ss as as') (hb : CodeR P nt ss body body')
      (hp : ∀ p ∈ ps.toList, p < nt) : CodeR P nt ss (.rangeFunc f ps as body) (.range x n)
  | exit {id : Nat} : CodeR P nt ss (.exit id) (.exit id)
  | goto {l : Nat} : CodeR P nt ss (.goto l) (.goto l)
  | scope {b : Code} {b' : CC} (hb : CodeR P nt ss b b') : CodeR P nt ss (.scope b) (.scope b')
  | ret : CodeR P nt ss .ret .ret
/-- A function's result. -/
def ResR (P : Program) : ResultVar → RV → Prop
  | .tmp t, r => r = .tmp t
  | .cell a t, r => ∃ i, TIOk P t i ∧ r = .cell a i.agg i.size
inductive RessR (P : Program) : List ResultVar → List RV → Prop
  | nil : RessR P [] []
  | cons {o : ResultVar} {c : RV} {l : List ResultVar} {cs : List RV} (h : ResR P o c) (t : RessR P l cs) : RessR P (o :: l) (c :: cs)
structure FuncR (P : Program) (fn : Func) (cf : CF) : Prop where
  ex : ∃ body, fn.body = some body ∧ CodeR P fn.ntmps cf.sites body cf.body
  res : RessR P fn.results.toList cf.res
structure EnvOk (P : Program) (E : Env) : Prop where
  tt : TTOk P E.tt
  ft : ∀ f cf, E.ft.get f = some cf → ∃ fn, P.funcs[f]? = some fn ∧ (fn.name == "runtime.NumGoroutine") = false ∧ FuncR P fn cf
  any : P.follows .mixedOrders = true
/-- The loops over functions of a program. -/
def sitesOf (P : Program) (E : Env) : Sites := fun fid site ps as body nt =>
  ∃ fn cf as' body', P.funcs[fid]? = some fn ∧ E.ft.get fid = some cf ∧ nt = fn.ntmps ∧ cf.sites[site]? = some ⟨ps.toList, as', body'⟩ ∧ CodeR P nt cf.sites as as' ∧ CodeR P nt cf.sites body body' ∧ (∀ p ∈ ps.toList, p < nt)

/-! ## What the shadow machine's parts are to do -/
/-- A frame of a function that is compiled. -/
structure InFn (P : Program) (E : Env) (b : Frame) (cf : CF) (nt : Nat) : Prop where
  ft : E.ft.get b.fn = some cf
  fn : ∃ fn, P.funcs[b.fn]? = some fn ∧ nt = fn.ntmps
  kind : b.kind = .normal ∨ (b.kind = .deferred ∧ b.roundOf = none)
  round : ∀ l, b.roundOf = some l → b.kind = .normal
/-- Of which round a frame is. -/
def RoundR (β : Bij) (b : Frame) : Option Nat → Prop
  | none => b.roundOf = none
  | some i => ∃ e, β i = some e ∧ b.roundOf = some e.1
theorem RoundR.mono {β β' : Bij} (h : Ext β β') {b : Frame} {l : Option Nat} (r : RoundR β b l) : RoundR β' b l := by
  cases l with
  | none => exact r
  | some i => obtain ⟨e, h1, h2⟩ := r; exact ⟨e, h _ _ h1, h2⟩
def CodeOk (P : Program) (E : Env) (R : Rec) : Prop :=
  ∀ (b : Frame) (cf : CF) (nt : Nat), InFn P E b cf nt → ∀ (code : Code) (cc : CC), CodeR P nt cf.sites code cc → ∀ (l : Option Nat)
    (st : St) (sig : Sig) (st' : St), R.code cc ⟨b.fn, l⟩ st = some (sig, st') → ∀ (cs0 : List Frame) (β : Bij) (a : Act) (cs : List Frame) (w : World), SR (sitesOf P E) nt b.kind cs0 β st a cs w →
      RoundR β b l → ∀ k : List Item,
      ∃ β' a' cs' w', SR (sitesOf P E) nt b.kind cs0 β' st' a' cs' w' ∧ FR β st.heap w β' st'.heap w' ∧ Lands P (lone (b.atR a (.code code :: k)) cs w) b k β' cs' a' w' sig
def ScopeOk (P : Program) (E : Env) (R : Rec) : Prop :=
  ∀ (b : Frame) (cf : CF) (nt : Nat), InFn P E b cf nt → ∀ (body code : Code) (bb cc : CC), CodeR P nt cf.sites body bb → CodeR P nt cf.sites code cc → ∀ (l : Option Nat)
    (st : St) (sig : Sig) (st' : St), R.scope bb cc ⟨b.fn, l⟩ st = some (sig, st') → ∀ (cs0 : List Frame) (β : Bij) (a : Act) (cs : List Frame) (w : World), SR (sitesOf P E) nt b.kind cs0 β st a cs w →
      RoundR β b l → ∀ k : List Item,
      ∃ β' a' cs' w', SR (sitesOf P E) nt b.kind cs0 β' st' a' cs' w' ∧ FR β st.heap w β' st'.heap w' ∧ Lands P (lone (b.atR a (.code code :: .inScope body :: k)) cs w) b k β' cs' a' w' sig
/-- How a call ends. -/
def EndsAs (P : Program) (β : Bij) (fr : Frame) (w : World) : CR → Prop
  | .ret v => ∃ v', VR β v v' ∧ fr.going P w (.returned v')
  | .pan ch => ∃ ch', ChR β ch ch' ∧ fr.going P w (.panicked ch')
def CallOk (P : Program) (E : Env) (R : Rec) : Prop :=
  ∀ (f : Nat) (args : List SV) (rc : RC) (h : Tr SO) (n : Nat) (q : CR) (rc' : RC) (h' : Tr SO) (n' : Nat), R.call f args rc h n = some (q, rc', h', n') →
    ∀ (kind : CallKind) (cs0 : List Frame) (β : Bij) (args' : Array Value) (cs : List Frame) (w : World), HR (sitesOf P E) β h n w → VRs β args args'.toList → CsR β kind cs0 rc cs →
      (∃ cf, E.ft.get f = some cf) ∧ ∃ β' w' cs' fr, HR (sitesOf P E) β' h' n' w' ∧ FR β h w β' h' w' ∧ CsR β' kind cs0 rc' cs' ∧ Steps P (lone (Frame.enter P f args' kind) cs w) (lone fr cs' w') ∧
        fr.kind = kind ∧ fr.fn = f ∧ EndsAs P β' fr w' q
structure RecOk (P : Program) (E : Env) (R : Rec) : Prop where
  code : CodeOk P E R
  scope : ScopeOk P E R
  call : CallOk P E R
end
end Go.Sh

/- The shadow machine: heavy operations, as the machine steps through them. -/
namespace Go.Sh
set_option linter.unusedSimpArgs false
set_option linter.unusedVariables false
set_option linter.unusedSectionVars false
noncomputable section
variable {P : Program} {E : Env} {R : Rec}

section steps
variable {b : Frame} {a : Act} {k : List Item} {cs : List Frame} {w w' : World} {ops : Array Oper} {i : Nat} {rest : List Nat} {o : Oper}
    (ho : ops[i]? = some o) (hw : Region.wanted o (yielded ops a.tmps) = true) (hd : b.roundOf = none ∨ ∀ c, o.op ≠ .defer c)
include ho hw hd
theorem stepGX : stepG P true { frame := b.atR a (.inRegion ops (i :: rest) :: k), callers := cs, status := .running, dying := none } w =
    stepG.apply P true (b.atR a (.inRegion ops (i :: rest) :: k)) cs none (execOp a.eval o) w := by
  rw [stepGR_op ho hw]
  rcases hd with h | h
  · rw [h, Oper.semAt_none]
  · rw [Oper.semAt_eq _ _ _ h]
theorem finX (v : Value) : (b.atR a (.inRegion ops (i :: rest) :: k)).finish v = b.atR (a.put o.dst v) (.inRegion ops rest :: k) := by
  rw [Frame.finish_atR, ho]; rfl
theorem stepX_value {v : Value} (hr : (execOp a.eval o).run P w = .ok (.value v) w') :
    step P (lone (b.atR a (.inRegion ops (i :: rest) :: k)) cs w) = .next (lone (b.atR (a.put o.dst v) (.inRegion ops rest :: k)) cs w') :=
  step_lone_go (by rw [stepGX ho hw hd, ← finX ho hw hd]; simp [stepG.apply, hr])
theorem stepX_skip (hr : (execOp a.eval o).run P w = .ok .skip w') :
    step P (lone (b.atR a (.inRegion ops (i :: rest) :: k)) cs w) = .next (lone (b.atR (a.put o.dst undef) (.inRegion ops rest :: k)) cs w') :=
  step_lone_go (by rw [stepGX ho hw hd, ← finX ho hw hd]; simp [stepG.apply, hr])
theorem stepX_enter {f : FuncId} {args : Array Value} (hr : (execOp a.eval o).run P w = .ok (.enter f args) w') :
    step P (lone (b.atR a (.inRegion ops (i :: rest) :: k)) cs w) = .next (lone (Frame.enter P f args .normal) (b.atR a (.inRegion ops (i :: rest) :: k) :: cs) w') :=
  step_lone_go (by rw [stepGX ho hw hd]; simp [stepG.apply, hr, Frame.atR])
theorem stepX_round {l : Nat} {f : FuncId} {tmps : Array Value} {as body : Code} (hr : (execOp a.eval o).run P w = .ok (.round l f tmps as body) w') :
    step P (lone (b.atR a (.inRegion ops (i :: rest) :: k)) cs w) = .next (lone (Frame.round l f tmps as body .normal) (b.atR a (.inRegion ops (i :: rest) :: k) :: cs) w') :=
  step_lone_go (by rw [stepGX ho hw hd]; simp [stepG.apply, hr, Frame.atR])
theorem stepX_panic {v : Value} (hr : (execOp a.eval o).run P w = .halt (.panic v) w') :
    step P (lone (b.atR a (.inRegion ops (i :: rest) :: k)) cs w) = .next (lone { b.atR a (.inRegion ops (i :: rest) :: k) with mode := .panicking [{ v, recovered := false }] } cs w') :=
  step_lone_go (by rw [stepGX ho hw hd, ← Frame.raise_atR]; simp [stepG.apply, hr])
theorem stepX_defer {d : Deferred} (hr : (execOp a.eval o).run P w = .ok (.defer d) w') :
    step P (lone (b.atR a (.inRegion ops (i :: rest) :: k)) cs w) = .next (lone (b.atR ({ a with defers := d :: a.defers }.put o.dst undef) (.inRegion ops rest :: k)) cs w') :=
  step_lone_go (by
    rw [stepGX ho hw hd]
    have := Frame.finish_atR b { a with defers := d :: a.defers } ops i rest k undef
    rw [ho] at this
    simp only [Option.bind_some] at this
    rw [← this]
    simp [stepG.apply, hr, Frame.atR])
theorem stepX_recover {v : Value} {cs' : List Frame} (hround : b.roundOf = none) (hr : (execOp a.eval o).run P w = .ok .recover w') (ht : tryRecover (b.atR a (.inRegion ops (i :: rest) :: k)) cs = some (v, cs')) :
    step P (lone (b.atR a (.inRegion ops (i :: rest) :: k)) cs w) = .next (lone (b.atR (a.put o.dst v) (.inRegion ops rest :: k)) cs' w') :=
  step_lone_go (by
    rw [stepGX ho hw hd, ← finX ho hw hd]
    have hx : (b.atR a (.inRegion ops (i :: rest) :: k)).roundOf = none := hround
    simp [stepG.apply, hr, hx, ht])
theorem stepX_recover_none (hround : b.roundOf = none) (hr : (execOp a.eval o).run P w = .ok .recover w') (ht : tryRecover (b.atR a (.inRegion ops (i :: rest) :: k)) cs = none) :
    step P (lone (b.atR a (.inRegion ops (i :: rest) :: k)) cs w) = .next (lone (b.atR (a.put o.dst .nilIface) (.inRegion ops rest :: k)) cs w') :=
  step_lone_go (by
    rw [stepGX ho hw hd, ← finX ho hw hd]
    have hx : (b.atR a (.inRegion ops (i :: rest) :: k)).roundOf = none := hround
    simp [stepG.apply, hr, hx, ht])
end steps

/-- What comes of a heavy operation: a value is laid down, and the machine stands behind it; or a panic. -/
def Done (P : Program) (S : Sites) (b : Frame) (cs0 : List Frame) (β : Bij) (h : Tr SO) (w : World) (a : Act) (m : Machine) (ops : Array Oper) (rest : List Nat) (k : List Item) (o : Oper) (tm : Tr SV) (c : Next) (y : Sig × St) : Prop :=
  (∃ (v : SV) (β' : Bij) (ds' : List SDef) (h' : Tr SO) (n' : Nat) (rc' : RC) (v' : Value) (a' : Act) (cs' : List Frame) (w' : World), put tm o.dst v (fun tm => c (.mk tm ds' h' n' rc')) = some y ∧ VR β' v v' ∧ HR S β' h' n' w' ∧ FR β h w β' h' w' ∧ DRs β' ds' a'.defers ∧ a'.tmps = a.tmps ∧ CsR β' b.kind cs0 rc' cs' ∧
    Steps P m (lone (b.atR (a'.put o.dst v') (.inRegion ops rest :: k)) cs' w')) ∨
  (∃ (ch : List (SV × Bool)) (ch' : List PanicEntry) (k' : List Item) (β' : Bij) (ds' : List SDef) (h' : Tr SO) (n' : Nat) (rc' : RC) (a' : Act) (cs' : List Frame) (w' : World), y = (.pan ch, .mk tm ds' h' n' rc') ∧ ChR β' ch ch' ∧ HR S β' h' n' w' ∧ FR β h w β' h' w' ∧ DRs β' ds' a'.defers ∧ a'.tmps = a.tmps ∧ CsR β' b.kind cs0 rc' cs' ∧
    Steps P m (lone { b.atR a' k' with mode := .panicking ch' } cs' w'))

section heavy
variable {S : Sites} {b : Frame} {cs0 : List Frame} {β : Bij} {h : Tr SO} {n : Nat} {rc : RC} {w : World} {a : Act} {k : List Item} {cs : List Frame} {ops : Array Oper} {i : Nat} {rest : List Nat} {o : Oper} {tm : Tr SV} {ds : List SDef} {c : Next} {y : Sig × St}
    (ho : ops[i]? = some o) (hw : Region.wanted o (yielded ops a.tmps) = true)
    (hH : HR S β h n w) (hE : OpE β tm a o.op) (hD : DRs β ds a.defers) (hC : CsR β b.kind cs0 rc cs)
include ho hw hD hC
theorem done_of_eff (hd : b.roundOf = none ∨ ∀ c, o.op ≠ .defer c) (he : Eff P S β h w a o tm o.dst ds rc c y) : Done P S b cs0 β h w a (lone (b.atR a (.inRegion ops (i :: rest) :: k)) cs w) ops rest k o tm c y := by
  obtain ⟨v, β', h', n', v', w', h1, h2, h3, h4, h5⟩ := he
  refine .inl ⟨v, β', ds, h', n', rc, v', a, cs, w', h1, h3, h4, h5, hD.mono h5.ext, rfl, hC.mono h5.ext, ?_⟩
  rcases h2 with h2 | ⟨h2, rfl⟩
  · exact .one (stepX_value ho hw hd h2)
  · exact .one (stepX_skip ho hw hd h2)
include hH hE
theorem panic_done {oi : Operand} {x : X} (hx : xOf oi = some x) (hop : o.op = .panic oi) (hs : panicS tm ds h n rc (ev tm x) = some y) :
    Done P S b cs0 β h w a (lone (b.atR a (.inRegion ops (i :: rest) :: k)) cs w) ops rest k o tm c y := by
  rw [hop] at hE
  have hxv := hE.x hx (by (first | (simp [Op.operands]; done) | (intro p hp; subst hp; simp [Op.operands]; done) | (intro o ho; exact mem_args ho) | (intro o ho; simp only [Op.operands, Array.mem_append]; first | exact .inl (Array.mem_toList_iff.1 ho) | exact .inr (Array.mem_toList_iff.1 ho)) | (apply mem_args; simp [*]; done)))
  generalize ev tm x = s at hs hxv
  cases s <;> simp only [panicS] at hs <;> try (cases hs; done)
  rename_i t v
  cases hs
  have hxv' := hxv
  simp only [VR] at hxv
  obtain ⟨v', he, _⟩ := hxv
  refine .inr ⟨_, [{ v := a.eval oi, recovered := false }], .inRegion ops (i :: rest) :: k, β, ds, h, n, rc, a, cs, w, rfl, ⟨_, [], rfl, hxv', rfl⟩, hH, FR.refl _ _ _, hD, rfl, hC, .one ?_⟩
  refine stepX_panic ho hw (.inr (by rw [hop]; intro c hc; cases hc)) ?_
  simp only [execOp, hop, Instr.panic, he, Sem.run_bind, run_goPanic]; rfl
theorem recov_done {q : Call} (hc : q.callee = .builtin .recover) (hop : o.op = .call q) {round : Option Nat} (hr : round = none → b.roundOf = none) (hs : recovS tm ds h n rc o.dst c round = some y) :
    Done P S b cs0 β h w a (lone (b.atR a (.inRegion ops (i :: rest) :: k)) cs w) ops rest k o tm c y := by
  cases round with
  | some l => cases hs
  | none =>
    have hb := hr rfl
    have hx : (execOp a.eval o).run P w = .ok .recover w := by rw [run_builtin hc hop]; rfl
    simp only [recovS] at hs
    cases rc with
    | no => cases hs
    | ret =>
      simp only at hs
      obtain ⟨hk, c0, rest0, e1, e2⟩ := hC
      refine .inl ⟨.nili, β, ds, h, n, .ret, .nilIface, a, cs, w, hs, by simp [VR], hH, FR.refl _ _ _, hD, rfl, ⟨hk, c0, rest0, e1, e2⟩, .one ?_⟩
      refine stepX_recover_none ho hw (.inl hb) hb hx ?_
      rw [tryRecover_deferred (by exact hk), e2]; rfl
    | pan ch =>
      cases ch with
      | nil => cases hs
      | cons e older =>
        obtain ⟨v, r⟩ := e
        cases r with
        | true => cases hs
        | false =>
          simp only at hs
          obtain ⟨hk, c0, rest0, ch', e1, e2, e3⟩ := hC
          obtain ⟨u, es, rfl, e4, e5⟩ := e3
          refine .inl ⟨v, β, ds, h, n, .pan ((v, true) :: older), u, a, { c0 with mode := .panicking ({ v := u, recovered := true } :: es) } :: rest0, w, hs, e4, hH, FR.refl _ _ _, hD, rfl,
            ⟨hk, c0, rest0, _, e1, rfl, u, es, rfl, e4, e5⟩, .one ?_⟩
          refine stepX_recover ho hw (.inl hb) hb hx ?_
          rw [tryRecover_deferred (by exact hk), e2]; rfl
theorem defer_done {q : Call} {of : Operand} {f : X} {as : List X} (hc : q.callee = .value of) (hf : xOf of = some f) (ha : xsOf q.args.toList = some as) (hop : o.op = .defer q) {round : Option Nat} (hr : round = none → b.roundOf = none)
    (hs : deferS tm ds h n rc o.dst c round (evs tm as) (ev tm f) = some y) : Done P S b cs0 β h w a (lone (b.atR a (.inRegion ops (i :: rest) :: k)) cs w) ops rest k o tm c y := by
  rw [hop] at hE
  cases round with
  | some l => cases hs
  | none =>
    have hb := hr rfl
    have hfv := hE.x hf (by simp [Op.operands, Call.operands, hc])
    have hav := hE.xs ha (fun o ho => by simp only [Op.operands, Call.operands, Array.mem_append]; exact .inr (Array.mem_toList_iff.1 ho))
    generalize ev tm f = s at hs hfv
    cases s <;> simp only [deferS] at hs <;> try (cases hs; done)
    rename_i g first caps
    simp only [fL_eq, catL_eq] at hs
    simp only [VR] at hfv
    obtain ⟨a', c', he, h1, h2⟩ := hfv
    refine .inl ⟨.tup [], β, .call g (first ++ (evs tm as ++ caps)) :: ds, h, n, rc, undef, { a with defers := { target := .fn (.func g) c', args := a' ++ q.args.map a.eval } :: a.defers }, cs, w, hs, VR_undef _, hH, FR.refl _ _ _,
      ⟨_, _, rfl, ⟨c', a' ++ q.args.map a.eval, rfl, ?_⟩, hD⟩, rfl, hC, .one ?_⟩
    · rw [Array.toList_append, Array.toList_append, Array.toList_map, List.append_assoc]
      exact h1.append (hav.append h2)
    · refine stepX_defer ho hw (.inl hb) ?_
      simp only [execOp, hop, resolve, hc, he, Deferred.ofValue, Sem.run_bind, Sem.run_pure, Result.andThen_ok]
end heavy
end
end Go.Sh

/- The shadow machine: calls, and rounds of loops over functions. -/
namespace Go.Sh
set_option linter.unusedSimpArgs false
set_option linter.unusedVariables false
set_option linter.unusedSectionVars false
noncomputable section
variable {P : Program} {E : Env} {R : Rec}

theorem setPs_run {β : Bij} {nt : Nat} {y : Sig × St} : ∀ {ps : List Nat} {vs : List SV} {vs' : List Value} {tm : Tr SV} {arr : Array Value} {c : Tr SV → Option (Sig × St)}, setPs tm ps vs c = some y → TR β nt tm arr → VRs β vs vs' → (∀ p ∈ ps, p < nt) →
    ∃ tm', c tm' = some y ∧ TR β nt tm' ((ps.zip vs').foldl (fun tmps p => tmps.setIfInBounds p.1 p.2) arr) ∧ ps.length = vs'.length
  | [], [], vs', tm, arr, c, h, hT, hv, hp => by
    simp only [VRs] at hv; subst hv
    exact ⟨tm, h, hT, rfl⟩
  | [], v :: vs, vs', tm, arr, c, h, hT, hv, hp => by have h2 : none = some y := h; cases h2
  | p :: ps, [], vs', tm, arr, c, h, hT, hv, hp => by have h2 : none = some y := h; cases h2
  | p :: ps, v :: vs, vs', tm, arr, c, h, hT, hv, hp => by
    have h2 : tm.setK deep p v (fun tm => setPs tm ps vs c) = some y := h
    simp only [VRs] at hv
    obtain ⟨u, us, rfl, hu, hv⟩ := hv
    obtain ⟨tm1, h3, h4⟩ := Tr.setK_inv _ _ _ _ _ _ h2
    have hT1 : TR β nt tm1 (putV arr (some p) u) := hT.put (dst := some p) (fun d hd => by cases hd; exact hp _ (.head _)) hu (fun q => by
      rw [h4 q]; by_cases e : q = p
      · subst e; simp
      · rw [if_neg e, if_neg (by simpa using fun e' => e e'.symm)])
    obtain ⟨tm', h5, h6, h7⟩ := setPs_run h3 hT1 hv (fun q hq => hp q (.tail _ hq))
    exact ⟨tm', h5, h6, by simp [h7]⟩
theorem CsR.normal {β : Bij} {cs0 : List Frame} {rc : RC} {cs : List Frame} (h : CsR β .normal cs0 rc cs) : rc = .no ∧ cs = cs0 := by
  cases rc with
  | no => exact ⟨rfl, h.2⟩
  | ret => exact absurd h.1 (by intro e; cases e)
  | pan ch => exact absurd h.1 (by intro e; cases e)
theorem run_callFunc (hEnv : EnvOk P E) {f : Nat} {cf : CF} (hf : E.ft.get f = some cf) (args : Array Value) (w : World) : (callFunc f args).run P w = .ok (.enter f args) w := by
  obtain ⟨fn, h1, h2, h3⟩ := hEnv.ft f cf hf
  obtain ⟨body, h4, _⟩ := h3.ex
  simp only [callFunc, Sem.run_bind, run_program, Result.andThen_ok, h1, h2, h4, Bool.false_eq_true, if_false, Option.isNone_some, Sem.run_pure]
theorem getObj_loop {l : Nat} {r : Loop} {w : World} (h : w.heap[l]? = some (.loop r)) : (getObj l).run P w = .ok (.loop r) w := by simp [getObj, Sem.run, h]
theorem loop_busy (r : Nat) (L : Loop) {w : World} (h : w.heap[r]? = some (.loop L)) (hs : L.state = .ready) :
    (Instr.beginRound r).run P w = .ok () { w with heap := w.heap.setIfInBounds r (.loop { L with state := .busy }) } := by
  have hset : ∀ o, (setObj r o).run P w = .ok () { w with heap := w.heap.setIfInBounds r o } := fun o => by simp [setObj, Sem.run, h]
  simp only [Instr.beginRound, Instr.getLoop, Sem.run_bind, getObj_loop h, Result.andThen_ok, Sem.run_pure, hset, hs]
theorem loop_end (r : Nat) (L : Loop) {w : World} (h : w.heap[r]? = some (.loop L)) (j : Option Code) :
    (Instr.endRound r j).run P w = .ok (.bool j.isNone) { w with heap := w.heap.setIfInBounds r (.loop { L with state := if j.isNone then .ready else .done, pending := j }) } := by
  have hset : ∀ o, (setObj r o).run P w = .ok () { w with heap := w.heap.setIfInBounds r o } := fun o => by simp [setObj, Sem.run, h]
  simp only [Instr.endRound, Instr.getLoop, Sem.run_bind, getObj_loop h, Result.andThen_ok, Sem.run_pure, hset]

section
variable {b : Frame} {cs0 : List Frame} {β : Bij} {h : Tr SO} {n : Nat} {rc : RC} {w : World} {a : Act} {k : List Item} {cs : List Frame} {ops : Array Oper} {i : Nat} {rest : List Nat} {o : Oper} {tm : Tr SV} {ds : List SDef} {c : Next} {y : Sig × St}
    (hEnv : EnvOk P E) (hR : RecOk P E R) (ho : ops[i]? = some o) (hw : Region.wanted o (yielded ops a.tmps) = true)
    (hH : HR (sitesOf P E) β h n w) (hE : OpE β tm a o.op) (hD : DRs β ds a.defers) (hC : CsR β b.kind cs0 rc cs)
include hEnv hR ho hw hH hE hD hC
theorem call_done {q : Call} {of : Operand} {f : X} {as : List X} (hc : q.callee = .value of) (hf : xOf of = some f) (ha : xsOf q.args.toList = some as) (hop : o.op = .call q)
    (hs : callV E R tm ds h n rc o.dst (evs tm as) c (ev tm f) = some y) : Done P (sitesOf P E) b cs0 β h w a (lone (b.atR a (.inRegion ops (i :: rest) :: k)) cs w) ops rest k o tm c y := by
  rw [hop] at hE
  have hfv := hE.x hf (by simp [Op.operands, Call.operands, hc])
  have hav := hE.xs ha (fun o ho => mem_args ho)
  have hnd : b.roundOf = none ∨ ∀ c, o.op ≠ .defer c := .inr (by rw [hop]; intro c hc; cases hc)
  generalize ev tm f = s at hs hfv
  generalize evs tm as = sas at hs hav
  have hargs : (q.args.map a.eval).toList = q.args.toList.map a.eval := Array.toList_map
  cases s <;> simp only [callV] at hs <;> try (cases hs; done)
  case func g first caps =>
    simp only [fL_eq, catL_eq] at hs
    simp only [VR] at hfv
    obtain ⟨a', c', he, h1, h2⟩ := hfv
    cases hcall : R.call g (first ++ (sas ++ caps)) .no h n with
    | none => rw [hcall] at hs; cases hs
    | some r =>
      obtain ⟨qr, rc', h', n'⟩ := r
      rw [hcall] at hs
      have hvs : VRs β (first ++ (sas ++ caps)) (a' ++ q.args.map a.eval ++ c').toList := by
        rw [Array.toList_append, Array.toList_append, hargs, List.append_assoc]
        exact h1.append (hav.append h2)
      obtain ⟨⟨cf, hcf⟩, β', w', cs', fr, r1, r2, r3, r4, r5, r6, r7⟩ := hR.call g _ .no h n qr rc' h' n' hcall .normal (b.atR a (.inRegion ops (i :: rest) :: k) :: cs) β _ (b.atR a (.inRegion ops (i :: rest) :: k) :: cs) w hH hvs ⟨rfl, rfl⟩
      obtain ⟨rfl, rfl⟩ := r3.normal
      have hx : (execOp a.eval o).run P w = .ok (.enter g (a' ++ q.args.map a.eval ++ c')) w := by
        simp only [execOp, hop, resolve, hc, he, Deferred.ofValue, Sem.run_bind, Sem.run_pure, Result.andThen_ok, invoke, run_callFunc hEnv hcf]
      have h0 := Steps.head (stepX_enter ho hw hnd hx) r4
      simp only [didCall] at hs
      cases qr with
      | ret v =>
        simp only at hs
        obtain ⟨v', e1, e2, e3, e4⟩ := r7
        have hl : fr.leaving P w' (.returned v') := ⟨e2, e3, r5, e4⟩
        refine .inl ⟨v, β', ds, h', n', rc, v', a, cs, w', hs, e1, r1, r2, hD.mono r2.ext, rfl, hC.mono r2.ext, h0.trans (.one ?_)⟩
        rw [step_leave_returned hl, finX ho hw hnd]
      | pan ch =>
        cases hs
        obtain ⟨ch', e1, e2, e3, e4⟩ := r7
        have hl : fr.leaving P w' (.panicked ch') := ⟨e2, e3, e4⟩
        refine .inr ⟨ch, ch', .inRegion ops (i :: rest) :: k, β', ds, h', n', rc, a, cs, w', rfl, e1, r1, r2, hD.mono r2.ext, rfl, hC.mono r2.ext, h0.trans (.one ?_)⟩
        rw [step_leave_panicked hl, Frame.raise_atR]
  case yld l =>
    simp only [VR] at hfv
    obtain ⟨kk, sh, mm, hb, he⟩ := hfv
    unfold yieldS at hs
    cases hg : h.get l with
    | none => rw [hg] at hs; cases hs
    | some ob =>
      rw [hg] at hs
      simp only at hs
      cases ob <;> simp only [] at hs <;> try (cases hs; done)
      rename_i st pe fid site tmps d
      obtain ⟨hlt, hor⟩ := hH.block hg hb
      obtain ⟨L, nt, l1, l2, l3, l4, l5, l6, l7⟩ := hor
      simp only at l1
      subst l4
      obtain ⟨fn, cf, as', body', s1, s2, s3, s4, s5, s6, s7⟩ := l5
      have hsite : siteOf E L.fn site = some ⟨L.params.toList, as', body'⟩ := by
        simp only [siteOf, s2]
        obtain ⟨cb, cr, css⟩ := cf
        simp only [nthL_eq]; exact s4
      rw [hsite] at hs
      simp only [roundAt] at hs
      obtain ⟨tm', hs, hT', hplen⟩ := setPs_run hs l6 hav s7
      let tmps' : Array Value := (L.params.zip (q.args.map a.eval)).foldl (fun tmps p => tmps.setIfInBounds p.1 p.2) L.tmps
      have htm : (L.params.toList.zip (q.args.toList.map a.eval)).foldl (fun tmps p => tmps.setIfInBounds p.1 p.2) L.tmps = tmps' := by
        show _ = (L.params.zip (q.args.map a.eval)).foldl _ L.tmps
        rw [← Array.foldl_toList, Array.toList_zip, hargs]
      rw [htm] at hT'
      let fr : Frame := b.atR a (.inRegion ops (i :: rest) :: k)
      let b2 : Frame := Frame.round kk L.fn tmps' L.assign L.body .normal
      have hin : InFn P E b2 cf nt := ⟨s2, ⟨fn, s1, s3⟩, .inl rfl, fun _ _ => rfl⟩
      have hrr : RoundR β b2 (some l) := ⟨_, hb, rfl⟩
      have hx : (execOp a.eval o).run P w = .ok (.round kk L.fn tmps' L.assign L.body) w := by
        have hsz : ¬ ((q.args.map a.eval).size ≠ L.params.size) := by
          simp at hplen ⊢; omega
        have hy : (Instr.yield kk (#[] ++ q.args.map a.eval)).run P w = .ok (.round kk L.fn tmps' L.assign L.body) w := by
          simp only [Instr.yield, Instr.getLoop, Sem.run_bind, getObj_loop l1, Result.andThen_ok, Sem.run_pure, Array.empty_append]
          rw [if_neg hsz]; rfl
        simp only [execOp, hop, resolve, hc, he, Deferred.ofValue, Sem.run_bind, Sem.run_pure, Result.andThen_ok, invoke, hy]
      have h0 := stepX_round (rest := rest) (k := k) (cs := cs) ho hw hnd hx
      -- the assignment
      cases has : R.code as' ⟨L.fn, some l⟩ (.mk tm' [] h n .no) with
      | none => rw [has] at hs; cases hs
      | some r1 =>
        obtain ⟨sig1, st1⟩ := r1
        rw [has] at hs
        obtain ⟨tm1, ds1, h1, n1, rc1⟩ := st1
        simp only [roundBusy] at hs
        have hsr : SR (sitesOf P E) nt b2.kind (fr :: cs) β (.mk tm' [] h n .no) ⟨tmps', []⟩ (fr :: cs) w := ⟨hT', rfl, hH, ⟨rfl, rfl⟩⟩
        obtain ⟨β1, a1, cs1, w1, sr1, fr1, ld1⟩ := hR.code b2 cf nt hin L.assign as' s5 (some l) _ _ _ has (fr :: cs) β ⟨tmps', []⟩ (fr :: cs) w hsr hrr [.beginRound, .code L.body]
        cases sig1 <;> simp only [] at hs <;> try (cases hs; done)
        cases hg1 : h1.get l with
        | none => rw [hg1] at hs; cases hs
        | some ob1 =>
          rw [hg1] at hs
          simp only at hs
          cases ob1 <;> simp only [] at hs <;> try (cases hs; done)
          rename_i st1 pe1 fid1 site1 tmps1 d1
          cases st1 <;> simp only [] at hs <;> try (cases hs; done)
          obtain ⟨h2, hs, hh2⟩ := Tr.setK_inv _ _ _ _ _ _ hs
          have hb1 := fr1.ext _ _ hb
          obtain ⟨hlt1, hor1⟩ := sr1.hr.block hg1 hb1
          obtain ⟨L1, nt1, m1, m2, m3, m4, m5, m6, m7⟩ := hor1
          simp only at m1
          obtain ⟨hr2, f2⟩ := setObj_ok sr1.hr hg1 rfl hb1 hh2 (x := .loop { L1 with state := .busy }) ⟨_, nt1, rfl, rfl, m3, m4, m5, m6, m7⟩
          have hbegin := loop_busy (P := P) kk L1 m1 m2
          have hst2 := stepR_beginRound (b := b2) (a := a1) (k := [.code L.body]) (cs := cs1) (l := kk) rfl hbegin
          cases hbd : R.code body' ⟨L.fn, some l⟩ (.mk tm1 ds1 h2 n1 rc1) with
          | none => rw [hbd] at hs; cases hs
          | some r3 =>
            obtain ⟨sig3, st3⟩ := r3
            rw [hbd] at hs
            obtain ⟨tm3, ds3, h3, n3, rc3⟩ := st3
            obtain ⟨β3, a3, cs3, w3, sr3, fr3, ld3⟩ := hR.code b2 cf nt hin L.body body' s6 (some l) _ _ _ hbd (fr :: cs) β1 a1 cs1 _ ⟨sr1.tr, sr1.ds, hr2, sr1.cs⟩ (hrr.mono fr1.ext) []
            obtain ⟨_, hcs3⟩ := CsR.normal sr3.cs
            subst hcs3
            have hsteps : Steps P (lone fr cs w) (lone (b2.atR a1 [.code L.body]) cs1 { w1 with heap := w1.heap.setIfInBounds kk (.loop { L1 with state := .busy }) }) :=
              .head h0 (Steps.trans ld1 (.one hst2))
            have hFR : FR β h w β3 h3 w3 := fr1.trans (f2.trans fr3)
            simp only [roundBody] at hs
            cases ds3 with
            | cons d3 ds3 => cases hs
            | nil =>
              simp only at hs
              have hdef3 : a3.defers = [] := sr3.ds
              have hend : ∀ (j : Option Jump) (jc : Option Code), jc = jumpCode j → ∀ (m : Machine), Steps P (lone fr cs w) m →
                  (∀ w4, (Instr.endRound kk jc).run P w3 = .ok (.bool jc.isNone) w4 → step P m = .next (lone (fr.finish (.bool jc.isNone)) cs w4)) →
                  roundEnd tm ds rc o.dst l h3 n3 j c = some y → Done P (sitesOf P E) b cs0 β h w a (lone fr cs w) ops rest k o tm c y := by
                intro j jc hj m hm hstep hre
                simp only [roundEnd] at hre
                cases hg3 : h3.get l with
                | none => rw [hg3] at hre; cases hre
                | some ob3 =>
                  rw [hg3] at hre
                  simp only at hre
                  cases ob3 <;> simp only [] at hre <;> try (cases hre; done)
                  rename_i st3 pe3 fid3 site3 tmps3 d3
                  obtain ⟨h4, hre, hh4⟩ := Tr.setK_inv _ _ _ _ _ _ hre
                  have hb3 := fr3.ext _ _ hb1
                  obtain ⟨hlt3, hor3⟩ := sr3.hr.block hg3 hb3
                  obtain ⟨L3, nt3, p1, p2, p3, p4, p5, p6, p7⟩ := hor3
                  simp only at p1
                  have hle := loop_end (P := P) kk L3 p1 jc
                  obtain ⟨hr4, f4⟩ := setObj_ok sr3.hr hg3 rfl hb3 hh4 (x := .loop { L3 with state := if jc.isNone then .ready else .done, pending := jc }) ⟨_, nt3, rfl, by
                    subst hj; cases j with
                    | none => rfl
                    | some j => cases j <;> rfl, hj, p4, p5, p6, p7⟩
                  have hst4 := hstep _ hle
                  refine .inl ⟨_, β3, ds, h4, n3, rc, .bool jc.isNone, a, cs, _, hre, ?_, hr4, hFR.trans f4, hD.mono hFR.ext, rfl, hC.mono hFR.ext, hm.trans (.one ?_)⟩
                  · subst hj; cases j with
                    | none => simp [VR, jumpCode]
                    | some j => cases j <;> simp [VR, jumpCode]
                  · rw [hst4, finX ho hw hnd]
              cases sig3 with
              | pan ch =>
                cases hs
                obtain ⟨k', ch', e1, e2⟩ := ld3
                have hl : ({ b2.atR a3 k' with mode := .panicking ch' } : Frame).leaving P w3 (.panicked ch') := ⟨rfl, hdef3, fn, s1⟩
                refine .inr ⟨ch, ch', .inRegion ops (i :: rest) :: k, β3, ds, h3, n3, rc, a, cs, w3, rfl, e1, sr3.hr, hFR, hD.mono hFR.ext, rfl, hC.mono hFR.ext, hsteps.trans (e2.trans (.one ?_))⟩
                rw [step_leave_panicked hl]; rfl
              | norm =>
                simp only [jumpOf] at hs
                exact hend none none rfl _ (hsteps.trans ld3) (fun w4 h4 => stepR_round_end (l := kk) rfl rfl h4) hs
              | ret =>
                simp only [jumpOf] at hs
                obtain ⟨k', e2⟩ := ld3
                exact hend (some .ret) (some .ret) rfl _ (hsteps.trans e2) (fun w4 h4 => stepR_round_ret (l := kk) rfl rfl h4) hs
              | exit id =>
                simp only [jumpOf] at hs
                obtain ⟨k', e1, e2⟩ := ld3
                exact hend (some (.exit id)) (some (.exit id)) rfl _ (hsteps.trans e2) (fun w4 h4 => stepR_round_exit (l := kk) rfl rfl (e1.trans rfl) h4) hs
              | goto t =>
                simp only [jumpOf] at hs
                obtain ⟨k', e1, e2⟩ := ld3
                exact hend (some (.goto t)) (some (.goto t)) rfl _ (hsteps.trans e2) (fun w4 h4 => stepR_round_goto (l := kk) rfl rfl (e1.trans rfl) h4) hs
end
end
end Go.Sh

/- The shadow machine: operations in the text's order. -/
namespace Go.Sh
set_option linter.unusedSimpArgs false
set_option linter.unusedVariables false
set_option linter.unusedSectionVars false
noncomputable section
variable {P : Program} {E : Env} {R : Rec}

section
variable {b : Frame} {cs0 : List Frame} {β : Bij} {h : Tr SO} {n : Nat} {rc : RC} {w : World} {a : Act} {k : List Item} {cs : List Frame} {ops : Array Oper} {i : Nat} {rest : List Nat} {o : Oper} {tm : Tr SV} {ds : List SDef} {c : Next} {y : Sig × St}
    (hEnv : EnvOk P E) (hR : RecOk P E R) (ho : ops[i]? = some o) (hw : Region.wanted o (yielded ops a.tmps) = true)
    (hH : HR (sitesOf P E) β h n w) (hE : OpE β tm a o.op) (hD : DRs β ds a.defers) (hC : CsR β b.kind cs0 rc cs)
include hEnv hR ho hw hH hE hD hC
theorem heavy_done {fid : Nat} {l : Option Nat} (hl : RoundR β b l) {hk : HK} {op : Op} (hop : o.op = op) (hkr : HKR P op hk) (hs : heavyS E R ⟨fid, l⟩ o.dst hk tm ds h n rc c = some y) :
    Done P (sitesOf P E) b cs0 β h w a (lone (b.atR a (.inRegion ops (i :: rest) :: k)) cs w) ops rest k o tm c y := by
  have hr : l = none → b.roundOf = none := fun e => by subst e; exact hl
  have nd : (∀ q, op ≠ .defer q) → (b.roundOf = none ∨ ∀ c, o.op ≠ .defer c) := fun hq => .inr (by rw [hop]; exact hq)
  cases hkr with
  | store hi ha hx =>
    simp only [heavyS, evK_eq] at hs
    exact done_of_eff ho hw hD hC (nd (by intro q e; cases e)) (store_eff hi ha hx hop hH hE hs)
  | mapUpdate hi hd hm hk hv =>
    simp only [heavyS, evK_eq] at hs
    exact done_of_eff ho hw hD hC (nd (by intro q e; cases e)) (mapSet_eff hEnv.tt hi hd hm hk hv (.inl hop) hH hE hs)
  | insert hi hd hm hk hv =>
    simp only [heavyS, evK_eq] at hs
    exact done_of_eff ho hw hD hC (nd (by intro q e; cases e)) (mapSet_eff hEnv.tt hi hd hm hk hv (.inr hop) hH hE hs)
  | mapEntry hi hd hj hz hz' hm hk =>
    simp only [heavyS, evK_eq] at hs
    exact done_of_eff ho hw hD hC (nd (by intro q e; cases e)) (mapEntry_eff hEnv.tt hi hd hj hz hz' hm hk hop hH hE hs)
  | entryStore hm hs' hv =>
    simp only [heavyS, evK_eq] at hs
    exact done_of_eff ho hw hD hC (nd (by intro q e; cases e)) (entryStore_eff hm hs' hv hop hH hE hs)
  | next hx =>
    simp only [heavyS] at hs
    exact done_of_eff ho hw hD hC (nd (by intro q e; cases e)) (next_eff hx hop hH hE hs)
  | append hc ht ha hi hd hj hb hz hu hwd =>
    simp only [heavyS, evK_eq] at hs
    exact done_of_eff ho hw hD hC (nd (by intro q e; cases e)) (append_eff hc ht ha hi hd hj hb hz hu hwd hop hH hE hs)
  | call hc hf ha =>
    simp only [heavyS, evsK_eq] at hs
    exact call_done hEnv hR ho hw hH hE hD hC hc hf ha hop hs
  | recov hc ha =>
    simp only [heavyS] at hs
    exact recov_done ho hw hH hE hD hC hc hop hr hs
  | defer hc hf ha =>
    simp only [heavyS, evsK_eq] at hs
    exact defer_done ho hw hH hE hD hC hc hf ha hop hr hs
  | panic hx =>
    simp only [heavyS, evK_eq] at hs
    exact panic_done ho hw hH hE hD hC hx hop hs
  | bad => simp only [heavyS] at hs; cases hs
end

/-! ## Guards -/
theorem bool_of_VR {β : Bij} {s : SV} {b : Bool} (h : VR β s (.bool b)) : s = .bool b := by
  cases s <;> simp only [VR] at h <;> first
    | (cases h; rfl)
    | (obtain ⟨_, h, _⟩ := h; cases h; done)
    | (obtain ⟨_, _, h, _⟩ := h; cases h; done)
    | (obtain ⟨_, _, _, _, h⟩ := h; cases h; done)
    | (obtain ⟨_, _, _, _, _, _, h, _⟩ := h; cases h; done)
    | (cases h; done)
/-- Whether an operation is wanted, in both machines. -/
theorem want_eq {β : Bij} {tm : Tr SV} {arr : Array Value} {ops : Array Oper} {o : Oper} {g : G} (hg : GuardR ops o.guard g) (hv : ∀ d, g = .when d true ∨ g = .when d false → VR β (ev tm (.t d)) (arr.getD d undef)) :
    Region.wanted o (yielded ops arr) = want tm g := by
  unfold Region.wanted
  cases hgu : o.guard with
  | none => rw [hgu] at hg; have hg : g = .yes := hg; subst hg; rfl
  | some q =>
    obtain ⟨j, wt⟩ := q
    rw [hgu] at hg
    simp only [GuardR] at hg
    simp only [yielded]
    cases hd : (ops[j]?).bind (·.dst) with
    | none =>
      rw [hd] at hg
      simp only at hg; subst hg
      simp [want]
    | some d =>
      rw [hd] at hg
      simp only at hg; subst hg
      have hvd := hv d (by cases wt <;> simp)
      rw [ev_t] at hvd
      simp only [Option.bind_some]
      show _ = onSome (tm.get d) false fun v => onBool v false fun b => ifB wt b (ifB b false true)
      cases ha : arr[d]? with
      | none =>
        have hgd : arr.getD d undef = undef := by simp [ha]
        rw [hgd] at hvd
        cases ht : tm.get d with
        | none => rfl
        | some s =>
          rw [ht] at hvd
          simp only [Option.getD_some] at hvd
          cases s <;> first | rfl | (simp [VR, undef] at hvd)
      | some v =>
        have hgd : arr.getD d undef = v := by simp [ha]
        rw [hgd] at hvd
        cases ht : tm.get d with
        | none =>
          rw [ht] at hvd
          simp only [Option.getD_none, VR] at hvd
          obtain ⟨cs', rfl, _⟩ := hvd
          rfl
        | some s =>
          rw [ht] at hvd
          simp only [Option.getD_some] at hvd
          by_cases hb : ∃ x, s = .bool x
          · obtain ⟨x, rfl⟩ := hb
            simp only [VR] at hvd
            subst hvd
            cases x <;> cases wt <;> rfl
          · have h1 : ∀ x, v ≠ .bool x := fun x e => by
              subst e
              exact hb ⟨x, bool_of_VR hvd⟩
            have h2 : (onBool s false fun b => ifB wt b (ifB b false true)) = false := by
              cases s <;> first | rfl | exact absurd ⟨_, rfl⟩ hb
            show _ = (onBool s false fun b => ifB wt b (ifB b false true))
            rw [h2]
            cases v <;> first | rfl | exact absurd rfl (h1 _)

/-! ## Operations one behind another -/
theorem TR.put' {β : Bij} {nt : Nat} {tm tm' : Tr SV} {a : Act} (h : TR β nt tm a.tmps) {dst : Option Nat} {v : SV} {v' : Value}
    (hd : ∀ d, dst = some d → d < nt) (hv : VR β v v') (hg : ∀ k, tm'.get k = if dst = some k then some v else tm.get k) : TR β nt tm' (a.put dst v').tmps := by
  have := h.put hd hv hg
  cases dst <;> exact this
theorem put_defers (a : Act) (dst : Option Tmp) (v : Value) : (a.put dst v).defers = a.defers := by cases dst <;> rfl
theorem HR.freshen {S : Sites} {β : Bij} {H : Tr SO} {n : Nat} {w : World} (h : HR S β H n w) : β n = none := h.fresh (Nat.le_refl _)
section
variable (hEnv : EnvOk P E) (hR : RecOk P E R)
include hEnv hR
theorem runOps_ok {b : Frame} {nt : Nat} {cs0 : List Frame} {ops : Array Oper} {l : Option Nat} {k : List Item} {sig : Sig} {st' : St} : ∀ {os : List Oper} {cs : List COp} {i : Nat}, OpersR P nt ops os cs → (∀ j, os[j]? = ops[i + j]?) →
    ∀ {st : St}, runOps E R ⟨b.fn, l⟩ cs st = some (sig, st') → ∀ {β : Bij} {a : Act} {cl : List Frame} {w : World}, SR (sitesOf P E) nt b.kind cs0 β st a cl w → RoundR β b l →
      ∃ β' a' cl' w', SR (sitesOf P E) nt b.kind cs0 β' st' a' cl' w' ∧ FR β st.heap w β' st'.heap w' ∧
        Lands P (lone (b.atR a (.inRegion ops (List.range' i os.length) :: k)) cl w) b k β' cl' a' w' sig
  | [], cs, i, hos, hops, st, hs, β, a, cl, w, hsr, hl => by
    cases hos
    have h2 : some (Sig.norm, st) = some (sig, st') := hs
    cases h2
    exact ⟨β, a, cl, w, hsr, FR.refl _ _ _, .one stepR_region_end⟩
  | o :: os, cs, i, hos, hops, st, hs, β, a, cl, w, hsr, hl => by
    cases hos with
    | cons hoc hos =>
    rename_i c0 cs
    have ho : ops[i]? = some o := by have := hops 0; simpa using this.symm
    have hops' : ∀ j, os[j]? = ops[i + 1 + j]? := fun j => by have := hops (j + 1); rw [Nat.add_assoc, Nat.add_comm 1 j]; simpa using this
    have hs : runOp E R ⟨b.fn, l⟩ c0 (runOps E R ⟨b.fn, l⟩ cs) st = some (sig, st') := hs
    obtain ⟨tm, ds, h, n, rc⟩ := st
    obtain ⟨dst, g, kk⟩ := c0
    obtain ⟨h1, h2, h3, h4⟩ := hoc
    simp only at h1 h3 h4
    subst h1
    have hs : ifB (want tm g) (doOp E R ⟨b.fn, l⟩ o.dst kk tm ds h n rc (runOps E R ⟨b.fn, l⟩ cs)) (put tm o.dst (.tup []) fun tm => runOps E R ⟨b.fn, l⟩ cs (.mk tm ds h n rc)) = some (sig, st') := hs
    have hT : TR β nt tm a.tmps := hsr.tr
    have hwant := want_eq (β := β) (tm := tm) (arr := a.tmps) h3 (fun d _ => hT.val d)
    have hE : OpE β tm a o.op := OpE.of hsr.hr.glob hT o.op
    have hrange : List.range' i (o :: os).length = i :: List.range' (i + 1) os.length := by simp [List.range'_succ]
    -- what follows a value
    have follow : ∀ {v : SV} {v' : Value} {β1 : Bij} {ds1 : List SDef} {h1 : Tr SO} {n1 : Nat} {rc1 : RC} {a1 : Act} {cl1 : List Frame} {w1 : World}, put tm o.dst v (fun tm => runOps E R ⟨b.fn, l⟩ cs (.mk tm ds1 h1 n1 rc1)) = some (sig, st') →
        VR β1 v v' → HR (sitesOf P E) β1 h1 n1 w1 → FR β h w β1 h1 w1 → DRs β1 ds1 a1.defers → a1.tmps = a.tmps → CsR β1 b.kind cs0 rc1 cl1 →
        Steps P (lone (b.atR a (.inRegion ops (i :: List.range' (i + 1) os.length) :: k)) cl w) (lone (b.atR (a1.put o.dst v') (.inRegion ops (List.range' (i + 1) os.length) :: k)) cl1 w1) →
        ∃ β' a' cl' w', SR (sitesOf P E) nt b.kind cs0 β' st' a' cl' w' ∧ FR β h w β' st'.heap w' ∧
          Lands P (lone (b.atR a (.inRegion ops (List.range' i (o :: os).length) :: k)) cl w) b k β' cl' a' w' sig := by
      intro v v' β1 ds1 h1 n1 rc1 a1 cl1 w1 hp hv hh hf hd ha hc hst
      obtain ⟨tm', hp, hg⟩ := put_inv hp
      have hT1 : TR β1 nt tm' (a1.put o.dst v').tmps := TR.put' (by rw [ha]; exact hT.mono hf.ext) h2 hv hg
      obtain ⟨β', a', cl', w', r1, r2, r3⟩ := runOps_ok (cs0 := cs0) (k := k) hos hops' hp (β := β1) (a := a1.put o.dst v') (cl := cl1) (w := w1) ⟨hT1, by rw [put_defers]; exact hd, hh, hc⟩ (hl.mono hf.ext)
      exact ⟨β', a', cl', w', r1, hf.trans r2, by rw [hrange]; exact r3.head hst⟩
    cases hwt : want tm g with
    | false =>
      rw [hwt] at hs hwant
      refine follow hs (VR_undef β) hsr.hr (FR.refl _ _ _) hsr.ds rfl hsr.cs (.one ?_)
      have := stepR_op_skip (P := P) (b := b) (a := a) (k := k) (cs := cl) (w := w) (ops := ops) (i := i) (rest := List.range' (i + 1) os.length) (by simp [ho, hwant])
      rw [ho] at this; exact this
    | true =>
      rw [hwt] at hs hwant
      simp only [ifB_true] at hs
      cases kk with
      | pure f =>
        have hs : putO tm o.dst (f tm) (fun tm => runOps E R ⟨b.fn, l⟩ cs (.mk tm ds h n rc)) = some (sig, st') := hs
        obtain ⟨v, hf, hs⟩ := onSome_inv hs
        obtain ⟨v', e1, e2⟩ := h4 β tm a hE v hf o rfl w
        exact follow hs e2 hsr.hr (FR.refl _ _ _) hsr.ds rfl hsr.cs (.one (stepX_value ho hwant (.inr (fun c hc => by
          rw [execOp] at e1; simp only [hc, Sem.run_bind] at e1
          cases hq : (resolve a.eval c o.type).run P w <;> rw [hq] at e1 <;> simp at e1)) e1))
      | read f =>
        have hs : putO tm o.dst (f h tm) (fun tm => runOps E R ⟨b.fn, l⟩ cs (.mk tm ds h n rc)) = some (sig, st') := hs
        obtain ⟨v, hf, hs⟩ := onSome_inv hs
        obtain ⟨v', e1, e2⟩ := h4 _ β tm a h n w hsr.hr hE v hf o rfl
        exact follow hs e2 hsr.hr (FR.refl _ _ _) hsr.ds rfl hsr.cs (.one (stepX_value ho hwant (.inr (fun c hc => by
          rw [execOp] at e1; simp only [hc, Sem.run_bind] at e1
          cases hq : (resolve a.eval c o.type).run P w <;> rw [hq] at e1 <;> simp at e1)) e1))
      | alloc f =>
        have hs : (fN n fun n => allocS tm h n o.dst (f tm) fun tm h n => runOps E R ⟨b.fn, l⟩ cs (.mk tm ds h n rc)) = some (sig, st') := hs
        rw [fN_eq] at hs
        cases hf : f tm with
        | none => rw [hf] at hs; cases hs
        | some q =>
          obtain ⟨so, sh⟩ := q
          rw [hf] at hs
          simp only [allocS] at hs
          obtain ⟨h', hs, hh⟩ := Tr.setK_inv _ _ _ _ _ _ hs
          obtain ⟨x, m, w', v', e1, e2, e3, e4, e5, e6⟩ := h4 β tm a hE so sh hf o rfl w
          have hfree : β n = none := hsr.hr.freshen
          obtain ⟨e7, e8⟩ := e6 (sitesOf P E) n hfree
          refine follow hs e7 (hsr.hr.alloc hfree (Nat.le_succ _) (Nat.lt_succ_self _) e2 hh e8) (FR.alloc hfree hsr.hr.dom e3 e4 e5 e2 hh) (hsr.ds.mono (Ext.upd _ hfree)) rfl (hsr.cs.mono (Ext.upd _ hfree)) (.one (stepX_value ho hwant (.inr (fun c hc => by
            rw [execOp] at e1; simp only [hc, Sem.run_bind] at e1
            cases hq : (resolve a.eval c o.type).run P w <;> rw [hq] at e1 <;> simp at e1)) e1))
      | heavy hk =>
        have hs : (fN n fun n => heavyS E R ⟨b.fn, l⟩ o.dst hk tm ds h n rc (runOps E R ⟨b.fn, l⟩ cs)) = some (sig, st') := hs
        rw [fN_eq] at hs
        have hdone := heavy_done (b := b) (cs0 := cs0) (k := k) (cs := cl) (rest := List.range' (i + 1) os.length) hEnv hR ho hwant hsr.hr hE hsr.ds hsr.cs hl rfl h4 hs
        rcases hdone with ⟨v, β1, ds1, h1, n1, rc1, v', a1, cl1, w1, r1, r2, r3, r4, r5, r6, r7, r8⟩ | ⟨ch, ch', k', β1, ds1, h1, n1, rc1, a1, cl1, w1, r1, r2, r3, r4, r5, r6, r7, r8⟩
        · exact follow r1 r2 r3 r4 r5 r6 r7 r8
        · cases r1
          exact ⟨β1, a1, cl1, w1, ⟨by rw [r6]; exact hT.mono r4.ext, r5, r3, r7⟩, r4, by rw [hrange]; exact ⟨k', ch', r2, r8⟩⟩
end
end
end Go.Sh

/- The shadow machine: code. -/
namespace Go.Sh
set_option linter.unusedSimpArgs false
set_option linter.unusedVariables false
set_option linter.unusedSectionVars false
noncomputable section
variable {P : Program} {E : Env} {R : Rec}

/-- Regions that draw their order. -/
def DrawOk (P : Program) (E : Env) (R : Rec) : Prop :=
  ∀ (b : Frame) (cf : CF) (nt : Nat), InFn P E b cf nt → ∀ (id : Nat) (ops : Array Oper) (n : Nat) (pl : List (COp × Plan)), DrawR P nt ops n pl → ∀ (l : Option Nat)
    (st : St) (sig : Sig) (st' : St), runDraw E R ⟨b.fn, l⟩ n pl st = some (sig, st') → ∀ (cs0 : List Frame) (β : Bij) (a : Act) (cs : List Frame) (w : World), SR (sitesOf P E) nt b.kind cs0 β st a cs w →
      RoundR β b l → ∀ k : List Item,
      ∃ β' a' cs' w', SR (sitesOf P E) nt b.kind cs0 β' st' a' cs' w' ∧ FR β st.heap w β' st'.heap w' ∧ Lands P (lone (b.atR a (.code (.region id ops true) :: k)) cs w) b k β' cs' a' w' sig

/-- Behind more that stands there, but binds no jump. -/
theorem Lands.jump {m : Machine} {b : Frame} {k k0 : List Item} {β : Bij} {cs : List Frame} {a : Act} {w : World} {sig : Sig} (he : ∀ id, exitTo id k0 = exitTo id k) (hg : ∀ l, gotoIn l k0 = gotoIn l k) (hn : sig ≠ .norm)
    (h : Lands P m b k0 β cs a w sig) : Lands P m b k β cs a w sig := by
  cases sig with
  | norm => exact absurd rfl hn
  | ret => exact h
  | exit id => obtain ⟨k', e, h⟩ := h; exact ⟨k', e.trans (he id), h⟩
  | goto l => obtain ⟨k', e, h⟩ := h; exact ⟨k', e.trans (hg l), h⟩
  | pan ch => exact h
theorem steps_loop {b : Frame} {a : Act} {c : Code} {k : List Item} {cs : List Frame} {w : World} {m : Machine} (h : Steps P (lone (b.atR a (.code (.loop c) :: k)) cs w) m) :
    m = lone (b.atR a (.code (.loop c) :: k)) cs w ∨ Steps P (lone (b.atR a (.inLoop c :: k)) cs w) m := by
  obtain ⟨n, hn⟩ := h
  cases n with
  | zero => simp only [runN, Stepped.next.injEq] at hn; exact .inl hn.symm
  | succ n =>
    simp only [runN, stepR_loop] at hn
    exact .inr (.head stepR_inLoop ⟨n, hn⟩)
theorem lone_todo {f f' : Frame} {cs cs' : List Frame} {w w' : World} (h : lone f cs w = lone f' cs' w') : f = f' := by
  simp only [lone, Machine.mk.injEq] at h
  have := h.2.1
  simp at this
  exact this.1
theorem Lands.loop {b : Frame} {a : Act} {c : Code} {k : List Item} {cs : List Frame} {w : World} {β : Bij} {cs' : List Frame} {a' : Act} {w' : World} {sig : Sig}
    (h : Lands P (lone (b.atR a (.code (.loop c) :: k)) cs w) b k β cs' a' w' sig) : Lands P (lone (b.atR a (.inLoop c :: k)) cs w) b k β cs' a' w' sig := by
  cases sig with
  | norm =>
    rcases steps_loop h with e | e
    · have := congrArg Frame.todo (lone_todo e)
      have := congrArg List.length (show k = .code (.loop c) :: k from this)
      simp at this
    · exact e
  | ret =>
    obtain ⟨k', h⟩ := h
    rcases steps_loop h with e | e
    · have := congrArg Frame.todo (lone_todo e)
      have : (Item.code .ret :: k') = .code (.loop c) :: k := this
      simp at this
    · exact ⟨k', e⟩
  | exit id =>
    obtain ⟨k', e0, h⟩ := h
    rcases steps_loop h with e | e
    · have := congrArg Frame.todo (lone_todo e)
      have : (Item.code (.exit id) :: k') = .code (.loop c) :: k := this
      simp at this
    · exact ⟨k', e0, e⟩
  | goto l =>
    obtain ⟨k', e0, h⟩ := h
    rcases steps_loop h with e | e
    · have := congrArg Frame.todo (lone_todo e)
      have : (Item.code (.goto l) :: k') = .code (.loop c) :: k := this
      simp at this
    · exact ⟨k', e0, e⟩
  | pan ch =>
    obtain ⟨k', ch', e0, h⟩ := h
    rcases steps_loop h with e | e
    · have := congrArg Frame.mode (lone_todo e)
      have : FrameMode.panicking ch' = .run := this
      cases this
    · exact ⟨k', ch', e0, e⟩
theorem stepR_scope {b : Frame} {a : Act} {c : Code} {k : List Item} {cs : List Frame} {w : World} :
    step P (lone (b.atR a (.code (.scope c) :: k)) cs w) = .next (lone (b.atR a (.code c :: .inScope c :: k)) cs w) :=
  step_lone_go (by simp [stepG, stepG.exec, Frame.atR])
theorem stepR_inScope {b : Frame} {a : Act} {c : Code} {k : List Item} {cs : List Frame} {w : World} :
    step P (lone (b.atR a (.inScope c :: k)) cs w) = .next (lone (b.atR a k) cs w) :=
  step_lone_go (by simp [stepG, stepG.exec, Frame.atR])
theorem findL_ok {nt : Nat} {ss : List Site} {c : Code} {cc : CC} (h : CodeR P nt ss c cc) (l : Nat) :
    (findL cc l = none → findLabel c l = none) ∧ ∀ r, findL cc l = some r → ∃ r', findLabel c l = some r' ∧ CodeR P nt ss r' r := by
  induction h <;> try (exact ⟨fun _ => rfl, fun r h => by cases h⟩)
  case label l' =>
    simp only [findL, findLabel]
    cases hc : Nat.beq l' l with
    | true =>
      have := beq_eq' hc; subst this
      exact ⟨fun h => (by cases h), fun r h => (by cases h; exact ⟨.skip, by simp, .skip⟩)⟩
    | false =>
      have hne : ¬ (l' = l) := fun e => by subst e; simp at hc
      exact ⟨fun _ => (by simp [hne]), fun r h => (by cases h)⟩
  case seq a b a' b' ha hb iha ihb =>
    simp only [findL, findLabel]
    cases hf : findL a' l with
    | none =>
      rw [iha.1 hf]
      exact ihb
    | some r0 =>
      obtain ⟨r', e1, e2⟩ := iha.2 _ hf
      rw [e1]
      exact ⟨fun h => (by cases h), fun r h => (by cases h; exact ⟨_, rfl, .seq e2 hb⟩)⟩
theorem endLoop_run (r : Nat) (L : Loop) {w : World} (h : w.heap[r]? = some (.loop L)) (hs : L.state ≠ .busy) :
    (Instr.endLoop r).run P w = .ok L.pending { w with heap := w.heap.setIfInBounds r (.loop { L with state := .exhausted }) } := by
  have hset : ∀ o, (setObj r o).run P w = .ok () { w with heap := w.heap.setIfInBounds r o } := fun o => by simp [setObj, Sem.run, h]
  have hb : (L.state == LoopState.busy) = false := by
    cases hc : L.state <;> first | rfl | exact absurd hc hs
  simp only [Instr.endLoop, Instr.getLoop, Sem.run_bind, getObj_loop h, Result.andThen_ok, Sem.run_pure, hb, Bool.false_eq_true, if_false, hset]

section
variable (hEnv : EnvOk P E) (hR : RecOk P E R)
include hEnv hR
/-- Behind the call of a loop over a function. -/
theorem over_ok {b : Frame} {nt : Nat} {cs0 : List Frame} {β : Bij} {tm : Tr SV} {ds : List SDef} {h : Tr SO} {n : Nat} {rc : RC} {a : Act} {cs : List Frame} {w : World} {l : Nat} {e : Nat × Nat × Nat} {k : List Item} {g : Nat} {args : List SV} {args' : Array Value} {sig : Sig} {st' : St}
    (hT : TR β nt tm a.tmps) (hD : DRs β ds a.defers) (hH : HR (sitesOf P E) β h n w) (hC : CsR β b.kind cs0 rc cs) (hl : β l = some e) (hv : VRs β args args'.toList)
    (hs : overS tm ds rc l (R.call g args .no h n) = some (sig, st')) :
    (∃ cf, E.ft.get g = some cf) ∧ ∃ β' a' cs' w', SR (sitesOf P E) nt b.kind cs0 β' st' a' cs' w' ∧ FR β h w β' st'.heap w' ∧
      Lands P (lone (Frame.enter P g args' .normal) (b.atR a (.inRangeFunc e.1 :: k) :: cs) w) b k β' cs' a' w' sig := by
  cases hcall : R.call g args .no h n with
  | none => rw [hcall] at hs; cases hs
  | some r =>
    obtain ⟨qr, rc', h', n'⟩ := r
    rw [hcall] at hs
    obtain ⟨hcf, β', w', cs', fr, r1, r2, r3, r4, r5, r6, r7⟩ := hR.call g _ .no h n qr rc' h' n' hcall .normal (b.atR a (.inRangeFunc e.1 :: k) :: cs) β _ (b.atR a (.inRangeFunc e.1 :: k) :: cs) w hH hv ⟨rfl, rfl⟩
    obtain ⟨rfl, rfl⟩ := r3.normal
    refine ⟨hcf, ?_⟩
    simp only [overS] at hs
    cases qr with
    | pan ch =>
      cases hs
      obtain ⟨ch', e1, e2, e3, e4⟩ := r7
      have hlv : fr.leaving P w' (.panicked ch') := ⟨e2, e3, e4⟩
      refine ⟨β', a, cs, w', ⟨hT.mono r2.ext, hD.mono r2.ext, r1, hC.mono r2.ext⟩, r2, .inRangeFunc e.1 :: k, ch', e1, r4.trans (.one ?_)⟩
      rw [step_leave_panicked hlv, Frame.raise_atR]
    | ret v =>
      simp only at hs
      obtain ⟨v', e1, e2, e3, e4⟩ := r7
      have hlv : fr.leaving P w' (.returned v') := ⟨e2, e3, r5, e4⟩
      have hst1 := step_leave_returned (c := b.atR a (.inRangeFunc e.1 :: k)) (cs := cs) hlv
      rw [finish_atR_inRangeFunc] at hst1
      simp only [endLoopS] at hs
      cases hg : h'.get l with
      | none => rw [hg] at hs; cases hs
      | some ob =>
        rw [hg] at hs
        simp only at hs
        cases ob <;> simp only [] at hs <;> try (cases hs; done)
        rename_i st pe fid site tmps d
        have hbl := r2.ext _ _ hl
        obtain ⟨_, hor⟩ := r1.block hg hbl
        obtain ⟨L, nt1, m1, m2, m3, m4, m5, m6, m7⟩ := hor
        have hnb : L.state ≠ .busy := by rw [m2]; intro hb; subst hb; cases hs
        have hs2 : h'.setK deep l (.loop .exhausted pe fid site tmps d) (fun h => some (sigOf pe, St.mk tm ds h n' rc)) = some (sig, st') := by
          cases st <;> first | exact hs | cases hs
        obtain ⟨h2, hs2, hh2⟩ := Tr.setK_inv _ _ _ _ _ _ hs2
        cases hs2
        obtain ⟨q1, q2⟩ := setObj_ok r1 hg rfl hbl hh2 (x := .loop { L with state := .exhausted }) ⟨_, nt1, rfl, rfl, m3, m4, m5, m6, m7⟩
        have hend := endLoop_run (P := P) e.1 L m1 hnb
        have hst2 := stepR_endRangeFunc (b := b) (a := a) (k := k) (cs := cs) hend
        have hsteps : Steps P (lone (Frame.enter P g args' .normal) (b.atR a (.inRangeFunc e.1 :: k) :: cs) w) _ := r4.trans (.head hst1 (.one hst2))
        have hF := r2.trans q2
        refine ⟨β', a, cs, _, ⟨hT.mono hF.ext, hD.mono hF.ext, q1, hC.mono hF.ext⟩, hF, ?_⟩
        rw [show (L.pending.map Item.code).toList = ((jumpCode pe).map Item.code).toList from by rw [m3]] at hsteps
        cases pe with
        | none => exact hsteps
        | some j =>
          cases j with
          | ret => exact ⟨k, hsteps⟩
          | exit id => exact ⟨k, rfl, hsteps⟩
          | goto t => exact ⟨k, rfl, hsteps⟩
theorem range_ok {b : Frame} {cf : CF} {nt : Nat} (hin : InFn P E b cf nt) {f : Operand} {x : X} {ps : Array Tmp} {as body : Code} {as' body' : CC} {site : Nat} (hx : xOf f = some x) (hss : cf.sites[site]? = some ⟨ps.toList, as', body'⟩)
    (ha : CodeR P nt cf.sites as as') (hb : CodeR P nt cf.sites body body') (hp : ∀ p ∈ ps.toList, p < nt) {l : Option Nat} {tm : Tr SV} {ds : List SDef} {h : Tr SO} {n : Nat} {rc : RC} {sig : Sig} {st' : St}
    (hs : rangeS R ⟨b.fn, l⟩ site tm ds h n rc (ev tm x) = some (sig, st')) {cs0 : List Frame} {β : Bij} {a : Act} {cs : List Frame} {w : World} (hsr : SR (sitesOf P E) nt b.kind cs0 β (.mk tm ds h n rc) a cs w) (hl : RoundR β b l) (k : List Item) :
    ∃ β' a' cs' w', SR (sitesOf P E) nt b.kind cs0 β' st' a' cs' w' ∧ FR β h w β' st'.heap w' ∧ Lands P (lone (b.atR a (.code (.rangeFunc f ps as body) :: k)) cs w) b k β' cs' a' w' sig := by
  have hT : TR β nt tm a.tmps := hsr.tr
  have hH : HR (sitesOf P E) β h n w := hsr.hr
  have hfv : VR β (ev tm x) (a.eval f) := xOf_VR hH.glob hT hx
  obtain ⟨fn, hfn, hnt⟩ := hin.fn
  have hsite : ∀ tmps : Array Value, sitesOf P E b.fn site ps as body nt := fun _ => ⟨fn, cf, as', body', hfn, hin.ft, hnt, hss, ha, hb, hp⟩
  generalize ev tm x = s at hs hfv
  cases s <;> simp only [rangeS] at hs <;> try (cases hs; done)
  rename_i g first caps
  simp only [VR] at hfv
  obtain ⟨a', c', he, v1, v2⟩ := hfv
  -- the call's arguments
  have hargs : ∀ {β' : Bij} {lid kk sh m : Nat}, Ext β β' → β' lid = some (kk, sh, m) → VRs β' (first ++ (.yld lid :: caps)) (a' ++ #[Value.func (.yield kk) #[] #[]] ++ c').toList := by
    intro β' lid kk sh m hext hlid
    rw [Array.toList_append, Array.toList_append, List.append_assoc]
    exact (v1.mono hext).append (VRs.cons (by simp only [VR]; exact ⟨kk, sh, m, hlid, rfl⟩) (v2.mono hext))
  have hcallrun : ∀ {cf'} (hcf : E.ft.get g = some cf') (kk : Nat) (w1 : World), ∃ d, (resolve a.eval (rangeCall f kk) 0).run P w1 = .ok d w1 ∧ (invoke d.target d.args).run P w1 = .ok (.enter g (a' ++ #[Value.func (.yield kk) #[] #[]] ++ c')) w1 := by
    intro cf' hcf kk w1
    refine ⟨{ target := .fn (.func g) c', args := a' ++ #[Value.func (.yield kk) #[] #[]] }, ?_, ?_⟩
    · simp only [resolve, rangeCall, he, Deferred.ofValue, Sem.run_pure]
      simp [Act.eval]
    · simp only [invoke, run_callFunc hEnv hcf]
  cases l with
  | none =>
    simp only [fL_eq, fN_eq, catL_eq] at hs
    obtain ⟨h1, hs, hh1⟩ := Tr.setK_inv _ _ _ _ _ _ hs
    obtain ⟨h2, hs, hh2⟩ := Tr.setK_inv _ _ _ _ _ _ hs
    have hround : b.roundOf = none := hl
    let w1 : World := { w with heap := w.heap.push (.deferred (some [])) }
    let L : Loop := { state := .ready, pending := none, fn := b.fn, tmps := a.tmps, params := ps, assign := as, body := body, defers := w.heap.size }
    let w2 : World := { w1 with heap := w1.heap.push (.loop L) }
    have hf1 : β n = none := hH.freshen
    have e1 := Ext.upd (w.heap.size, 0, 0) hf1
    have hr1 : HR (sitesOf P E) (upd β n (w.heap.size, 0, 0)) h1 (Nat.succ n) w1 := hH.alloc (o := .defd true) hf1 (Nat.le_succ _) (Nat.lt_succ_self _) rfl hh1 rfl
    have f1 : FR β h w (upd β n (w.heap.size, 0, 0)) h1 w1 := FR.alloc (o := .defd true) hf1 hH.dom rfl rfl rfl rfl hh1
    have hf2 : (upd β n (w.heap.size, 0, 0)) (Nat.succ n) = none := hr1.freshen
    have e2 := Ext.upd (w1.heap.size, 0, 0) hf2
    have hb1 : (upd β n (w.heap.size, 0, 0)) n = some (w.heap.size, 0, 0) := upd_self _ _ _
    have hr2 : HR (sitesOf P E) (upd (upd β n (w.heap.size, 0, 0)) (Nat.succ n) (w1.heap.size, 0, 0)) h2 (Nat.succ (Nat.succ n)) w2 :=
      hr1.alloc (o := .loop .ready none b.fn site tm n) hf2 (Nat.le_succ _) (Nat.lt_succ_self _) rfl hh2 ⟨L, nt, rfl, rfl, rfl, rfl, hsite a.tmps, (hT.mono e1).mono e2, _, e2 _ _ hb1, rfl⟩
    have f2 : FR _ h1 w1 _ h2 w2 := FR.alloc (o := .loop .ready none b.fn site tm n) (sh := 0) (m := 0) hf2 hr1.dom rfl rfl rfl rfl hh2
    have hf := f1.trans f2
    have hlid := upd_self (upd β n (w.heap.size, 0, 0)) (Nat.succ n) (w1.heap.size, 0, 0)
    let a2 : Act := { a with defers := [{ target := .collected w.heap.size, args := #[] }] ++ a.defers }
    have hover := over_ok hEnv hR (b := b) (nt := nt) (cs0 := cs0) (a := a2) (cs := cs) (k := k) (hT.mono hf.ext) (show DRs _ (.coll n :: ds) a2.defers from ⟨_, a.defers, rfl, ⟨_, e2 _ _ hb1, rfl⟩, hsr.ds.mono hf.ext⟩) hr2 (hsr.cs.mono hf.ext) hlid
      (hargs hf.ext hlid) hs
    obtain ⟨⟨cf', hcf⟩, β', a3, cs', w', q1, q2, q3⟩ := hover
    obtain ⟨d, d1, d2⟩ := hcallrun hcf w1.heap.size w2
    refine ⟨β', a3, cs', w', q1, hf.trans q2, Lands.head (.one ?_) q3⟩
    refine stepR_rangeFunc (b := b) (a := a) (k := k) (cs := cs) (w := w) (mark := [{ target := .collected w.heap.size, args := #[] }]) (l := w1.heap.size) (w₁ := w2) ?_ d1 d2
    rw [hround]; rfl
  | some around =>
    simp only at hs
    obtain ⟨e0, hb0, hround⟩ := hl
    cases hg : h.get around with
    | none => rw [hg] at hs; cases hs
    | some ob =>
      rw [hg] at hs
      simp only at hs
      cases ob <;> simp only [] at hs <;> try (cases hs; done)
      rename_i st0 pe0 fid0 site0 tmps0 d0
      simp only [fL_eq, fN_eq, catL_eq] at hs
      obtain ⟨h2, hs, hh2⟩ := Tr.setK_inv _ _ _ _ _ _ hs
      obtain ⟨_, hor⟩ := hH.block hg hb0
      obtain ⟨L0, nt0, m1, m2, m3, m4, m5, m6, ed, m7, m8⟩ := hor
      let L : Loop := { state := .ready, pending := none, fn := b.fn, tmps := a.tmps, params := ps, assign := as, body := body, defers := L0.defers }
      let w2 : World := { w with heap := w.heap.push (.loop L) }
      have hf2 : β n = none := hH.freshen
      have e2 := Ext.upd (w.heap.size, 0, 0) hf2
      have hr2 : HR (sitesOf P E) (upd β n (w.heap.size, 0, 0)) h2 (Nat.succ n) w2 :=
        hH.alloc (o := .loop .ready none b.fn site tm d0) hf2 (Nat.le_succ _) (Nat.lt_succ_self _) rfl hh2 ⟨L, nt, rfl, rfl, rfl, rfl, hsite a.tmps, hT.mono e2, ed, e2 _ _ m7, m8⟩
      have hf : FR β h w (upd β n (w.heap.size, 0, 0)) h2 w2 := FR.alloc (o := .loop .ready none b.fn site tm d0) hf2 hH.dom rfl rfl rfl rfl hh2
      have hlid := upd_self β n (w.heap.size, 0, 0)
      have hover := over_ok hEnv hR (b := b) (nt := nt) (cs0 := cs0) (a := a) (cs := cs) (k := k) (hT.mono hf.ext) (hsr.ds.mono hf.ext) hr2 (hsr.cs.mono hf.ext) hlid (hargs hf.ext hlid) hs
      obtain ⟨⟨cf', hcf⟩, β', a3, cs', w', q1, q2, q3⟩ := hover
      obtain ⟨d, d1, d2⟩ := hcallrun hcf w.heap.size w2
      refine ⟨β', a3, cs', w', q1, hf.trans q2, Lands.head (.one ?_) q3⟩
      refine stepR_rangeFunc (b := b) (a := a) (k := k) (cs := cs) (w := w) (mark := []) (l := w.heap.size) (w₁ := w2) ?_ d1 d2
      rw [hround]
      simp only [Instr.enterLoop, Instr.getLoop, Sem.run_bind, getObj_loop m1, Result.andThen_ok, Sem.run_pure, run_newObj]; rfl
theorem code_ok (hDraw : DrawOk P E R) : CodeOk P E (stepR E R) := by
  intro b cf nt hin code cc hcode l st sig st' hs cs0 β a cs w hsr hl k
  have hs : codeS E R cc ⟨b.fn, l⟩ st = some (sig, st') := hs
  cases hcode with
  | skip => cases hs; exact ⟨β, a, cs, w, hsr, FR.refl _ _ _, .one stepR_skip⟩
  | label => cases hs; exact ⟨β, a, cs, w, hsr, FR.refl _ _ _, .one stepR_label⟩
  | ops h =>
    obtain ⟨β', a', cl', w', r1, r2, r3⟩ := runOps_ok (k := k) hEnv hR (i := 0) h (fun j => by simp) hs hsr hl
    refine ⟨β', a', cl', w', r1, r2, Lands.head (.one stepR_region) ?_⟩
    rw [List.range_eq_range']; simpa using r3
  | draw h => exact hDraw b cf nt hin _ _ _ _ h l st sig st' hs cs0 β a cs w hsr hl k
  | @seq ca cb ca' cb' ha hb =>
    simp only [codeS] at hs
    cases h1 : R.code ca' ⟨b.fn, l⟩ st with
    | none => rw [h1] at hs; cases hs
    | some r =>
      obtain ⟨sig1, st1⟩ := r
      rw [h1] at hs
      obtain ⟨β1, a1, cs1, w1, r1, r2, r3⟩ := hR.code b cf nt hin ca ca' ha l st sig1 st1 h1 cs0 β a cs w hsr hl (.code cb :: k)
      cases sig1 with
      | norm =>
        obtain ⟨β2, a2, cs2, w2, q1, q2, q3⟩ := hR.code b cf nt hin cb cb' hb l st1 sig st' hs cs0 β1 a1 cs1 w1 r1 (hl.mono r2.ext) k
        exact ⟨β2, a2, cs2, w2, q1, r2.trans q2, Lands.head (.head stepR_seq r3) q3⟩
      | _ => cases hs; exact ⟨β1, a1, cs1, w1, r1, r2, Lands.head (.one stepR_seq) (Lands.jump (k0 := .code cb :: k) (fun _ => rfl) (fun _ => rfl) (by intro e; cases e) r3)⟩
  | @cond o x ca cb ca' cb' hx ha hb =>
    obtain ⟨tm, ds, h, n, rc⟩ := st
    simp only [codeS, condS] at hs
    obtain ⟨t, ht, hs⟩ := onBool_inv hs
    have hxv : VR β (ev tm x) (a.eval o) := xOf_VR hsr.hr.glob hsr.tr hx
    rw [ht] at hxv
    simp only [VR] at hxv
    cases t with
    | true =>
      obtain ⟨β1, a1, cs1, w1, r1, r2, r3⟩ := hR.code b cf nt hin ca ca' ha l _ sig st' hs cs0 β a cs w hsr hl k
      exact ⟨β1, a1, cs1, w1, r1, r2, Lands.head (.one (stepR_cond hxv)) r3⟩
    | false =>
      obtain ⟨β1, a1, cs1, w1, r1, r2, r3⟩ := hR.code b cf nt hin cb cb' hb l _ sig st' hs cs0 β a cs w hsr hl k
      exact ⟨β1, a1, cs1, w1, r1, r2, Lands.head (.one (stepR_cond hxv)) r3⟩
  | @block id c c' hc =>
    simp only [codeS] at hs
    cases h1 : R.code c' ⟨b.fn, l⟩ st with
    | none => rw [h1] at hs; cases hs
    | some r =>
      obtain ⟨sig1, st1⟩ := r
      rw [h1] at hs
      obtain ⟨β1, a1, cs1, w1, r1, r2, r3⟩ := hR.code b cf nt hin c c' hc l st sig1 st1 h1 cs0 β a cs w hsr hl (.inBlock id :: k)
      cases sig1 with
      | norm => cases hs; exact ⟨β1, a1, cs1, w1, r1, r2, Steps.head stepR_block (Steps.trans r3 (.one stepR_inBlock))⟩
      | exit id' =>
        simp only [blockS] at hs
        obtain ⟨k', e1, e2⟩ := r3
        cases hc' : Nat.beq id' id with
        | true =>
          rw [hc'] at hs
          cases hs
          have hee := beq_eq' hc'
          have hx : exitTo id' k' = some k := by rw [e1]; simp [exitTo, hee]
          exact ⟨β1, a1, cs1, w1, r1, r2, Steps.head stepR_block (Steps.trans e2 (.one (stepR_exit hx)))⟩
        | false =>
          rw [hc'] at hs
          cases hs
          have hne : ¬ (id = id') := fun e => by subst e; simp at hc'
          refine ⟨β1, a1, cs1, w1, r1, r2, k', ?_, Steps.head stepR_block e2⟩
          rw [e1]; simp [exitTo, hne]
      | ret => cases hs; exact ⟨β1, a1, cs1, w1, r1, r2, Lands.head (.one stepR_block) r3⟩
      | goto t => cases hs; obtain ⟨k', e1, e2⟩ := r3; exact ⟨β1, a1, cs1, w1, r1, r2, k', e1, Steps.head stepR_block e2⟩
      | pan ch => cases hs; exact ⟨β1, a1, cs1, w1, r1, r2, Lands.head (m' := lone (b.atR a (.code c :: .inBlock id :: k)) cs w) (k := k) (.one stepR_block) r3⟩
  | @loop c c' hc =>
    simp only [codeS] at hs
    cases h1 : R.code c' ⟨b.fn, l⟩ st with
    | none => rw [h1] at hs; cases hs
    | some r =>
      obtain ⟨sig1, st1⟩ := r
      rw [h1] at hs
      obtain ⟨β1, a1, cs1, w1, r1, r2, r3⟩ := hR.code b cf nt hin c c' hc l st sig1 st1 h1 cs0 β a cs w hsr hl (.inLoop c :: k)
      cases sig1 with
      | norm =>
        obtain ⟨β2, a2, cs2, w2, q1, q2, q3⟩ := hR.code b cf nt hin (.loop c) (.loop c') (.loop hc) l st1 sig st' hs cs0 β1 a1 cs1 w1 r1 (hl.mono r2.ext) k
        exact ⟨β2, a2, cs2, w2, q1, r2.trans q2, Lands.head (.head stepR_loop r3) q3.loop⟩
      | _ => cases hs; exact ⟨β1, a1, cs1, w1, r1, r2, Lands.head (.one stepR_loop) (Lands.jump (k0 := .inLoop c :: k) (fun _ => rfl) (fun _ => rfl) (by intro e; cases e) r3)⟩
  | @range f x ps as body as' body' site hx hss ha hb hp =>
    obtain ⟨tm, ds, h, n, rc⟩ := st
    simp only [codeS, fN_eq] at hs
    exact range_ok hEnv hR hin hx hss ha hb hp hs hsr hl k
  | exit => cases hs; exact ⟨β, a, cs, w, hsr, FR.refl _ _ _, k, rfl, .refl _ _⟩
  | goto => cases hs; exact ⟨β, a, cs, w, hsr, FR.refl _ _ _, k, rfl, .refl _ _⟩
  | ret => cases hs; exact ⟨β, a, cs, w, hsr, FR.refl _ _ _, k, .refl _ _⟩
  | @scope c c' hc =>
    simp only [codeS] at hs
    obtain ⟨β1, a1, cs1, w1, r1, r2, r3⟩ := hR.scope b cf nt hin c c c' c' hc hc l st sig st' hs cs0 β a cs w hsr hl k
    exact ⟨β1, a1, cs1, w1, r1, r2, Lands.head (.one stepR_scope) r3⟩
theorem scope_ok : ScopeOk P E (stepR E R) := by
  intro b cf nt hin body code bb cc hbody hcode l st sig st' hs cs0 β a cs w hsr hl k
  have hs : scopeS R bb cc ⟨b.fn, l⟩ st = some (sig, st') := hs
  simp only [scopeS] at hs
  cases h1 : R.code cc ⟨b.fn, l⟩ st with
  | none => rw [h1] at hs; cases hs
  | some r =>
    obtain ⟨sig1, st1⟩ := r
    rw [h1] at hs
    obtain ⟨β1, a1, cs1, w1, r1, r2, r3⟩ := hR.code b cf nt hin code cc hcode l st sig1 st1 h1 cs0 β a cs w hsr hl (.inScope body :: k)
    cases sig1 with
    | norm => cases hs; exact ⟨β1, a1, cs1, w1, r1, r2, Steps.trans r3 (.one stepR_inScope)⟩
    | goto t =>
      simp only at hs
      obtain ⟨k', e1, e2⟩ := r3
      cases hf : findL bb t with
      | none =>
        rw [hf] at hs
        cases hs
        refine ⟨β1, a1, cs1, w1, r1, r2, k', ?_, e2⟩
        rw [e1]; simp only [gotoIn, (findL_ok hbody t).1 hf]
      | some rest =>
        rw [hf] at hs
        obtain ⟨rest', g1, g2⟩ := (findL_ok hbody t).2 _ hf
        have hg : gotoIn t k' = some (.code rest' :: .inScope body :: k) := by rw [e1]; simp only [gotoIn, g1]
        obtain ⟨β2, a2, cs2, w2, q1, q2, q3⟩ := hR.scope b cf nt hin body rest' bb rest hbody g2 l st1 sig st' hs cs0 β1 a1 cs1 w1 r1 (hl.mono r2.ext) k
        exact ⟨β2, a2, cs2, w2, q1, r2.trans q2, Lands.head (e2.trans (.one (stepR_goto hg))) q3⟩
    | exit id => cases hs; obtain ⟨k', e1, e2⟩ := r3; exact ⟨β1, a1, cs1, w1, r1, r2, k', e1, e2⟩
    | ret => cases hs; exact ⟨β1, a1, cs1, w1, r1, r2, r3⟩
    | pan ch => cases hs; exact ⟨β1, a1, cs1, w1, r1, r2, r3⟩
end
end
end Go.Sh

/- The shadow machine: calls. -/
namespace Go.Sh
set_option linter.unusedSimpArgs false
set_option linter.unusedVariables false
set_option linter.unusedSectionVars false
noncomputable section
variable {P : Program} {E : Env} {R : Rec}

/-- A frame's mode on its way out. -/
def MR (β : Bij) : Mode → FrameMode → Prop
  | .ret, m => m = .returning
  | .pan ch, m => ∃ ch', m = .panicking ch' ∧ ChR β ch ch'
theorem MR.run {β : Bij} {m : Mode} {u : FrameMode} (h : MR β m u) : u ≠ .run := by
  cases m with
  | ret => rw [show u = .returning from h]; intro e; cases e
  | pan ch => obtain ⟨ch', rfl, _⟩ := h; intro e; cases e
theorem MR.mono {β β' : Bij} (he : Ext β β') {m : Mode} {u : FrameMode} (h : MR β m u) : MR β' m u := by
  cases m with
  | ret => exact h
  | pan ch => obtain ⟨ch', e, h⟩ := h; exact ⟨ch', e, h.mono he⟩
/-- The frame that defers a call, as that sees it. -/
theorem MR.cs {β : Bij} {m : Mode} {f : Frame} (cs : List Frame) (h : MR β m f.mode) : CsR β .deferred (f :: cs) m.rc (f :: cs) := by
  cases m with
  | ret =>
    have h : f.mode = .returning := h
    refine ⟨rfl, f, cs, rfl, ?_⟩
    obtain ⟨fn, tmps, todo, defers, mode, kind, ro⟩ := f
    simp only at h; subst h; rfl
  | pan ch =>
    obtain ⟨ch', e, h⟩ := h
    refine ⟨rfl, f, cs, ch', rfl, ?_, h⟩
    obtain ⟨fn, tmps, todo, defers, mode, kind, ro⟩ := f
    simp only at e; subst e; rfl
theorem CsR.cons {β : Bij} {f : Frame} {cs : List Frame} {rc : RC} {cs' : List Frame} (h : CsR β .deferred (f :: cs) rc cs') : ∃ u, cs' = { f with mode := u } :: cs ∧ (rc = .ret ∧ u = .returning ∨ ∃ ch ch', rc = .pan ch ∧ u = .panicking ch' ∧ ChR β ch ch') := by
  cases rc with
  | no => exact absurd h.1 (by intro e; cases e)
  | ret =>
    obtain ⟨_, c, rest, e1, e2⟩ := h
    cases e1
    exact ⟨_, e2, .inl ⟨rfl, rfl⟩⟩
  | pan ch =>
    obtain ⟨_, c, rest, ch', e1, e2, e3⟩ := h
    cases e1
    exact ⟨_, e2, .inr ⟨ch, ch', rfl, rfl, e3⟩⟩
theorem dropNone {β : Bij} : ∀ {ch : List (SV × Bool)} {l : List PanicEntry}, ChR β ch l → l.dropWhile (!·.goexit) = []
  | [], l, h => by have : l = [] := h; subst this; rfl
  | (v, r) :: ch, l, h => by
    obtain ⟨u, es, rfl, _, h⟩ := h
    simp only [List.dropWhile_cons, Bool.not_false, if_true]
    exact dropNone h
theorem settle_ok {β : Bij} {rc : RC} {u : FrameMode} (h : rc = .ret ∧ u = .returning ∨ ∃ ch ch', rc = .pan ch ∧ u = .panicking ch' ∧ ChR β ch ch') {m : Mode} (hs : settleS rc = some m) : MR β m (settle u) := by
  rcases h with ⟨rfl, rfl⟩ | ⟨ch, ch', rfl, rfl, h⟩
  · cases hs; rfl
  · cases ch with
    | nil =>
      have : ch' = [] := h
      subst this
      cases hs
      exact ⟨[], rfl, rfl⟩
    | cons e l =>
      obtain ⟨v, r⟩ := e
      obtain ⟨x, es, rfl, h1, h2⟩ := h
      cases r with
      | true =>
        cases hs
        show settle _ = .returning
        simp only [settle, dropNone h2]
      | false =>
        cases hs
        exact ⟨_, rfl, x, es, rfl, h1, h2⟩
theorem raised_ok {β : Bij} {rc : RC} {u : FrameMode} (h : rc = .ret ∧ u = .returning ∨ ∃ ch ch', rc = .pan ch ∧ u = .panicking ch' ∧ ChR β ch ch') {ch : List (SV × Bool)} {ch' : List PanicEntry} (hc : ChR β ch ch') {m : Mode}
    (hs : raisedS ch rc = some m) : MR β m (raised u ch') := by
  rcases h with ⟨rfl, rfl⟩ | ⟨c, c', rfl, rfl, h⟩
  · cases hs; exact ⟨ch', rfl, hc⟩
  · cases hs; exact ⟨ch' ++ c', rfl, hc.append h⟩

/-! ## Results -/
theorem ress_ok {S : Sites} {β : Bij} {h : Tr SO} {n : Nat} {w : World} (hH : HR S β h n w) {nt : Nat} {tm : Tr SV} {arr : Array Value} (hT : TR β nt tm arr) : ∀ {rs : List ResultVar} {cs : List RV} {vs : List SV}, RessR P rs cs → ress h tm cs = some vs →
    ∃ vs' : List Value, (rs.mapM (fun
      | .tmp t => pure (arr.getD t undef)
      | .cell a t => do loadVar t (← asAddr (arr.getD a undef)) : ResultVar → Sem Value)).run P w = .ok vs' w ∧ VRs β vs vs'
  | [], cs, vs, hr, hs => by
    cases hr
    have h2 : some [] = some vs := hs
    cases h2
    exact ⟨[], by simp, VRs.nil⟩
  | r :: rs, cs, vs, hr, hs => by
    cases hr with
    | cons h1 ht =>
    rename_i c cs
    have h2 : onSome (resOf h tm c) none (fun v => onSome (ress h tm cs) none fun vs => some (v :: vs)) = some vs := hs
    obtain ⟨v, h3, h2⟩ := onSome_inv h2
    obtain ⟨vs0, h4, h2⟩ := onSome_inv h2
    cases h2
    obtain ⟨vs', h5, h6⟩ := ress_ok hH hT ht h4
    cases r with
    | tmp t =>
      have h1 : c = .tmp t := h1
      subst h1
      simp only [resOf, evK_eq, Option.some.injEq] at h3
      subst h3
      refine ⟨arr.getD t undef :: vs', ?_, VRs.cons (hT.val t) h6⟩
      rw [List.mapM_cons]
      simp only [Sem.run_bind, Sem.run_pure, Result.andThen_ok, h5]
    | cell ad t =>
      obtain ⟨i, hi, rfl⟩ := h1
      simp only [resOf, rLoad] at h3
      obtain ⟨b, off, e1, h3⟩ := onPtr_inv h3
      obtain ⟨ob, e2, h3⟩ := onSome_inv h3
      obtain ⟨rw', cells, rfl, h3⟩ := onCells_inv h3
      have hv := hT.val ad
      rw [e1] at hv
      simp only [VR] at hv
      obtain ⟨k, sh, m, hb, hv⟩ := hv
      obtain ⟨_, hor⟩ := hH.block e2 hb
      obtain ⟨v', g1, g2⟩ := loadVar_ok (P := P) hi hor h3
      refine ⟨v' :: vs', ?_, VRs.cons g2 h6⟩
      rw [List.mapM_cons]
      have hA : (asAddr (arr.getD ad undef)).run P w = .ok ⟨k, off + sh, none⟩ w := by rw [hv]; rfl
      simp only [Sem.run_bind, hA, Sem.run_pure, Result.andThen_ok, g1, h5]
theorem results_ok {S : Sites} {β : Bij} {h : Tr SO} {n : Nat} {w : World} (hH : HR S β h n w) {nt : Nat} {tm : Tr SV} {arr : Array Value} (hT : TR β nt tm arr) {fn : Func} {cs : List RV} (hr : RessR P fn.results.toList cs)
    {c : SV → Option (CR × RC × Tr SO × Nat)} {y : CR × RC × Tr SO × Nat} (hs : tupS (ress h tm cs) c = some y) : ∃ v v', c v = some y ∧ VR β v v' ∧ (results fn arr).run P w = .ok v' w := by
  cases hq : ress h tm cs with
  | none => rw [hq] at hs; cases hs
  | some vs =>
    rw [hq] at hs
    obtain ⟨vs', h1, h2⟩ := ress_ok hH hT hr hq
    have h3 : (fn.results.mapM (fun
      | .tmp t => pure (arr.getD t undef)
      | .cell a t => do loadVar t (← asAddr (arr.getD a undef)) : ResultVar → Sem Value)).run P w = .ok vs'.toArray w := by
      rw [Array.mapM_eq_mapM_toList]
      rw [map_eq_pure_bind, Sem.run_bind]
      exact congrArg (fun r => Result.andThen r fun l w' => Result.ok (List.toArray l) w') h1
    have h4 : (results fn arr).run P w = .ok (if h : vs'.toArray.size = 1 then vs'.toArray[0] else .tuple vs'.toArray) w := by
      rw [results, Sem.run_bind]
      exact congrArg (fun r => Result.andThen r fun (vs : Array Value) w' => Result.ok (if h : vs.size = 1 then vs[0] else .tuple vs) w') h3
    cases vs with
    | nil =>
      simp only [VRs] at h2; subst h2
      exact ⟨.tup [], _, hs, by simp only [VR]; exact ⟨#[], rfl, VRs.nil⟩, h4⟩
    | cons v vs =>
      simp only [VRs] at h2
      obtain ⟨u, us, rfl, h5, h6⟩ := h2
      cases vs with
      | nil =>
        simp only [VRs] at h6; subst h6
        exact ⟨v, u, hs, h5, h4⟩
      | cons v2 vs =>
        have hl := h6.length
        refine ⟨.tup (v :: v2 :: vs), .tuple (u :: us).toArray, hs, by simp only [VR]; exact ⟨_, rfl, VRs.cons h5 h6⟩, ?_⟩
        rw [h4]
        rw [dif_neg (by simp at hl ⊢; intro e; rw [e] at hl; simp at hl)]

section
variable (hEnv : EnvOk P E) (hR : RecOk P E R)
include hEnv hR
theorem leave_ok {fn : Func} {res : List RV} (hres : RessR P fn.results.toList res) {nt : Nat} {tm : Tr SV} {rc : RC} {q : CR} {rc' : RC} {h' : Tr SO} {n' : Nat} : ∀ {ds : List SDef} {m : Mode} {h : Tr SO} {n : Nat},
    leaveS R res tm rc ds m h n = some (q, rc', h', n') → ∀ {β : Bij} {fr : Frame} {cs : List Frame} {w : World}, P.funcs[fr.fn]? = some fn → MR β m fr.mode → DRs β ds fr.defers → TR β nt tm fr.tmps → HR (sitesOf P E) β h n w →
      rc' = rc ∧ ∃ β' w' fr', HR (sitesOf P E) β' h' n' w' ∧ FR β h w β' h' w' ∧ Steps P (lone fr cs w) (lone fr' cs w') ∧ fr'.kind = fr.kind ∧ fr'.fn = fr.fn ∧ EndsAs P β' fr' w' q
  | [], m, h, n, hs, β, fr, cs, w, hfn, hm, hd, hT, hH => by
    have hd : fr.defers = [] := hd
    cases m with
    | ret =>
      have hm : fr.mode = .returning := hm
      have hs : tupS (ress h tm res) (fun v => some (CR.ret v, rc, h, n)) = some (q, rc', h', n') := hs
      obtain ⟨v, v', h1, h2, h3⟩ := results_ok hH hT hres hs
      cases h1
      exact ⟨rfl, β, w, fr, hH, FR.refl _ _ _, .refl _ _, rfl, rfl, v', h2, hm, hd, fn, hfn, h3⟩
    | pan ch =>
      obtain ⟨ch', hm, hc⟩ := hm
      have hs : some (CR.pan ch, rc, h, n) = some (q, rc', h', n') := hs
      cases hs
      exact ⟨rfl, β, w, fr, hH, FR.refl _ _ _, .refl _ _, rfl, rfl, ch', hc, hm, hd, fn, hfn⟩
  | .coll b :: ds, m, h, n, hs, β, fr, cs, w, hfn, hm, hd, hT, hH => by
    obtain ⟨d, es, hde, ⟨e, he, hdd⟩, hds⟩ := hd
    have hs : (match h.get b with
        | some o => (match o with
          | .defd live => (match live with
            | true => h.setK deep b (.defd false) fun h => leaveS R res tm rc ds m h n
            | false => none)
          | _ => none)
        | none => none) = some (q, rc', h', n') := hs
    cases hg : h.get b with
    | none => rw [hg] at hs; cases hs
    | some ob =>
      rw [hg] at hs
      simp only at hs
      cases ob <;> simp only [] at hs <;> try (cases hs; done)
      rename_i live
      cases live with
      | false => cases hs
      | true =>
        simp only at hs
        obtain ⟨h1, hs, hh1⟩ := Tr.setK_inv _ _ _ _ _ _ hs
        obtain ⟨_, hor⟩ := hH.block hg he
        have hor : w.heap[e.1]? = some (.deferred (some [])) := hor
        obtain ⟨q1, q2⟩ := setObj_ok hH hg rfl he hh1 (x := .deferred none) rfl
        have htake : (Instr.takeDeferred e.1).run P w = .ok [] { w with heap := w.heap.setIfInBounds e.1 (.deferred none) } := by
          have hget : (getObj e.1).run P w = .ok (.deferred (some [])) w := by simp [getObj, Sem.run, hor]
          have hset : (setObj e.1 (.deferred none)).run P w = .ok () { w with heap := w.heap.setIfInBounds e.1 (.deferred none) } := by simp [setObj, Sem.run, hor]
          simp only [Instr.takeDeferred, Sem.run_bind, hget, Result.andThen_ok, hset, Sem.run_pure]
        have hst := step_collected (cs := cs) hm.run hde (by rw [hdd]) htake
        obtain ⟨r0, β', w', fr', r1, r2, r3, r4, r5, r6⟩ := leave_ok hres hs (β := β) (fr := { fr with defers := [] ++ es }) (cs := cs) hfn hm hds hT q1
        exact ⟨r0, β', w', fr', r1, q2.trans r2, .head hst r3, r4, r5, r6⟩
  | .call f args :: ds, m, h, n, hs, β, fr, cs, w, hfn, hm, hd, hT, hH => by
    obtain ⟨d, es, hde, ⟨cap, as, hdd, hv⟩, hds⟩ := hd
    have hs : leaveC (R.call f args m.rc h n) (fun q rc' h n => onSome (modeOf q rc') none fun m => leaveS R res tm rc ds m h n) = some (q, rc', h', n') := hs
    cases hcall : R.call f args m.rc h n with
    | none => rw [hcall] at hs; cases hs
    | some r =>
      obtain ⟨q1, rc1, h1, n1⟩ := r
      rw [hcall] at hs
      have hs : onSome (modeOf q1 rc1) none (fun m => leaveS R res tm rc ds m h1 n1) = some (q, rc', h', n') := hs
      obtain ⟨m1, hm1, hs⟩ := onSome_inv hs
      obtain ⟨⟨cf, hcf⟩, β1, w1, cs1, fr1, r1, r2, r3, r4, r5, r6, r7⟩ := hR.call f args m.rc h n q1 rc1 h1 n1 hcall .deferred ({ fr with defers := es } :: cs) β (as ++ cap) ({ fr with defers := es } :: cs) w hH hv
        (MR.cs (f := { fr with defers := es }) cs hm)
      obtain ⟨u, rfl, hu⟩ := r3.cons
      have hinv : (invoke d.target d.args).run P w = .ok (.enter f (as ++ cap)) w := by
        rw [hdd]
        simp only [invoke, run_callFunc hEnv hcf]
      have hst := step_defer (cs := cs) hm.run hde (show d.target = .fn (.func f) cap by rw [hdd]) hinv
      have go : ∀ u', MR β1 m1 u' → Steps P (lone fr cs w) (lone { { { fr with defers := es } with mode := u } with mode := u' } cs w1) → 
          rc' = rc ∧ ∃ β' w' fr', HR (sitesOf P E) β' h' n' w' ∧ FR β h w β' h' w' ∧ Steps P (lone fr cs w) (lone fr' cs w') ∧ fr'.kind = fr.kind ∧ fr'.fn = fr.fn ∧ EndsAs P β' fr' w' q := by
        intro u' hu' hsteps
        obtain ⟨p0, β', w', fr', p1, p2, p3, p4, p5, p6⟩ := leave_ok hres hs (β := β1) (fr := { { { fr with defers := es } with mode := u } with mode := u' }) (cs := cs) hfn hu' (hds.mono r2.ext) (hT.mono r2.ext) r1
        exact ⟨p0, β', w', fr', p1, r2.trans p2, hsteps.trans p3, p4, p5, p6⟩
      cases q1 with
      | ret v =>
        obtain ⟨v', e1, e2⟩ := r7
        have h2 := step_going_returned (c := { { fr with defers := es } with mode := u }) (cs := cs) r5 e2
        exact go (settle u) (settle_ok hu hm1) (.head hst (r4.trans (.one h2)))
      | pan ch =>
        obtain ⟨ch', e1, e2⟩ := r7
        have h2 := step_going_panicked (c := { { fr with defers := es } with mode := u }) (cs := cs) e2
        exact go (raised u ch') (raised_ok hu e1 hm1) (.head hst (r4.trans (.one h2)))
omit hEnv hR in
theorem argsT_run {β : Bij} {γ : Type} {y : γ} : ∀ {l : List SV} {l' : List Value} {tm : Tr SV} {i : Nat} {c : Tr SV → Option γ}, argsT tm i l c = some y → VRs β l l' → ∃ tm', c tm' = some y ∧
    ∀ t, tm'.get t = if i ≤ t ∧ t < i + l.length then l[t - i]? else tm.get t
  | [], l', tm, i, c, h, hv => ⟨tm, h, fun t => by simp; omega⟩
  | v :: l, l', tm, i, c, h, hv => by
    have h2 : tm.setK deep i v (fun tm => fN (Nat.succ i) fun i => argsT tm i l c) = some y := h
    obtain ⟨tm1, h2, h3⟩ := Tr.setK_inv _ _ _ _ _ _ h2
    rw [fN_eq] at h2
    simp only [VRs] at hv
    obtain ⟨u, us, rfl, _, hv⟩ := hv
    obtain ⟨tm', h4, h5⟩ := argsT_run h2 hv
    refine ⟨tm', h4, fun t => ?_⟩
    rw [h5 t, h3 t]
    simp only [List.length_cons, Nat.succ_eq_add_one]
    by_cases c1 : t = i
    · subst c1
      rw [if_neg (by omega), if_pos rfl, if_pos (by omega)]; simp
    · by_cases c2 : i ≤ t ∧ t < i + (l.length + 1)
      · rw [if_pos (by omega), if_pos c2]
        have : t - i = (t - (i + 1)) + 1 := by omega
        rw [this, List.getElem?_cons_succ]
      · rw [if_neg (by omega), if_neg c1, if_neg c2]
theorem call_ok : CallOk P E (stepR E R) := by
  intro f args rc h n q rc' h' n' hs kind cs0 β args' cs w hH hv hC
  have hs : callS E R f args rc h n = some (q, rc', h', n') := hs
  simp only [callS] at hs
  cases hcf : E.ft.get f with
  | none => rw [hcf] at hs; cases hs
  | some cf =>
    rw [hcf] at hs
    refine ⟨⟨cf, rfl⟩, ?_⟩
    obtain ⟨cb, res, ss⟩ := cf
    simp only at hs
    obtain ⟨fn, hfn, hname, hfr⟩ := hEnv.ft f _ hcf
    obtain ⟨body, hbody, hcode⟩ := hfr.ex
    obtain ⟨tm, hs, htm⟩ := argsT_run hs hv
    have hvl : args'.size = args.length := by rw [← hv.length]; simp
    let b : Frame := Frame.enter P f args' kind
    have htmps : b.tmps = args' ++ Array.replicate (fn.ntmps - args'.size) undef := by
      show args' ++ Array.replicate (((P.funcs[f]?).map (·.ntmps)).getD 0 - args'.size) undef = _
      rw [hfn]; rfl
    have hT : TR β fn.ntmps tm b.tmps := by
      refine ⟨by rw [htmps]; simp; omega, fun t => ?_⟩
      rw [ev_t, htm t, htmps]
      simp only [Nat.zero_le, true_and, Nat.zero_add, Nat.sub_zero]
      by_cases c : t < args.length
      · rw [if_pos c]
        obtain ⟨x, hx⟩ : ∃ x, args[t]? = some x := ⟨_, List.getElem?_eq_getElem c⟩
        obtain ⟨u, hu1, hu2⟩ := hv.get t x hx
        rw [hx]
        rw [Array.getElem?_toList] at hu1
        have hlt : t < args'.size := by omega
        have : (args' ++ Array.replicate (fn.ntmps - args'.size) undef).getD t undef = u := by
          rw [Array.getD_eq_getD_getElem?, Array.getElem?_append_left hlt, hu1]; rfl
        rw [this]; exact hu2
      · rw [if_neg c]
        have : (args' ++ Array.replicate (fn.ntmps - args'.size) undef).getD t undef = undef := by
          rw [Array.getD_eq_getD_getElem?, Array.getElem?_append_right (by omega), Array.getElem?_replicate]
          split <;> rfl
        rw [this]
        simp only [Tr.get_nil, Option.getD_none]
        exact VR_undef β
    have hbody' : b.todo = [.code body] := by
      show [Item.code (((P.funcs[f]?).bind (·.body)).getD _)] = _
      rw [hfn]; simp only [Option.bind_some, hbody, Option.getD_some]
    have hkinds : kind = .normal ∨ kind = .deferred := by
      cases rc with
      | no => exact .inl hC.1
      | ret => exact .inr hC.1
      | pan ch => exact .inr hC.1
    have hin : InFn P E b ⟨cb, res, ss⟩ fn.ntmps := ⟨hcf, ⟨fn, hfn, rfl⟩, by rcases hkinds with rfl | rfl; exact .inl rfl; exact .inr ⟨rfl, rfl⟩, fun l hl => by cases hl⟩
    have hstart : b.atR ⟨b.tmps, []⟩ [.code body] = b := by
      show Frame.mk _ _ _ _ _ _ _ = _
      rw [← hbody']; rfl
    cases hrun : R.code cb ⟨f, none⟩ (.mk tm [] h n rc) with
    | none => rw [hrun] at hs; cases hs
    | some r =>
      obtain ⟨sig, st⟩ := r
      rw [hrun] at hs
      obtain ⟨tm1, ds1, h1, n1, rc1⟩ := st
      obtain ⟨β1, a1, cs1, w1, r1, r2, r3⟩ := hR.code b _ fn.ntmps hin body cb hcode none _ _ _ hrun cs0 β ⟨b.tmps, []⟩ cs w ⟨hT, rfl, hH, hC⟩ rfl []
      rw [hstart] at r3
      have fin : ∀ (m : Mode) (u : FrameMode) (k' : List Item), MR β1 m u → Steps P (lone b cs w) (lone { b.atR a1 k' with mode := u } cs1 w1) → leaveS R res tm1 rc1 ds1 m h1 n1 = some (q, rc', h', n') →
          ∃ β' w' cs' fr, HR (sitesOf P E) β' h' n' w' ∧ FR β h w β' h' w' ∧ CsR β' kind cs0 rc' cs' ∧ Steps P (lone b cs w) (lone fr cs' w') ∧ fr.kind = kind ∧ fr.fn = f ∧ EndsAs P β' fr w' q := by
        intro m u k' hm hst hlv
        obtain ⟨p0, β', w', fr', p1, p2, p3, p4, p5, p6⟩ := leave_ok hEnv hR hfr.res hlv (β := β1) (fr := { b.atR a1 k' with mode := u }) (cs := cs1) hfn hm r1.ds r1.tr r1.hr
        subst p0
        exact ⟨β', w', cs1, fr', p1, r2.trans p2, r1.cs.mono p2.ext, hst.trans p3, p4, p5, p6⟩
      simp only [didBody] at hs
      cases sig with
      | norm => exact fin .ret .returning [] rfl (Steps.trans r3 (.one (stepR_end rfl))) hs
      | ret => obtain ⟨k', r3⟩ := r3; exact fin .ret .returning (.code .ret :: k') rfl (Steps.trans r3 (.one (stepR_ret rfl))) hs
      | pan ch => obtain ⟨k', ch', e1, r3⟩ := r3; exact fin (.pan ch) (.panicking ch') k' ⟨ch', rfl, e1⟩ r3 hs
      | exit id => cases hs
      | goto l => cases hs
end
end
end Go.Sh

/- The shadow machine: what the compiler makes of code stands to it as told. -/
namespace Go.Sh
set_option linter.unusedSimpArgs false
set_option linter.unusedVariables false
set_option linter.unusedSectionVars false
noncomputable section
variable {P : Program} {tt : Tr TI} {γ : Type} {y : γ}

theorem guardK_inv {ops : Array Oper} {g : Option (Nat × Bool)} {c : G → Option γ} (h : guardK ops.toList g c = some y) : ∃ g', GuardR ops g g' ∧ c g' = some y := by
  cases g with
  | none => exact ⟨.yes, rfl, h⟩
  | some q =>
    obtain ⟨j, want⟩ := q
    simp only [guardK] at h
    cases hj : ops.toList[j]? with
    | none =>
      rw [hj] at h
      rw [Array.getElem?_toList] at hj
      exact ⟨.never, by simp [GuardR, hj], h⟩
    | some p =>
      rw [hj] at h
      rw [Array.getElem?_toList] at hj
      simp only at h
      cases hd : p.dst with
      | none => rw [hd] at h; exact ⟨.never, by simp [GuardR, hj, hd], h⟩
      | some d =>
        rw [hd] at h
        simp only [fN_eq, fB_eq] at h
        exact ⟨.when d want, by simp [GuardR, hj, hd], h⟩
theorem dstK_inv {nt : Nat} {d : Option Nat} {c : Option Nat → Option γ} (h : dstK nt d c = some y) : (∀ x, d = some x → x < nt) ∧ c d = some y := by
  cases d with
  | none => exact ⟨fun x e => (by cases e), h⟩
  | some d =>
    obtain ⟨h1, h⟩ := ifB_some h
    rw [fN_eq] at h
    exact ⟨fun x e => (by cases e; exact blt_lt h1), h⟩
theorem opersK_inv (hT : TTOk P tt) {nt : Nat} {ops : Array Oper} : ∀ {l : List Oper} {c : List COp → Option γ}, opersK tt nt ops.toList l c = some y → ∃ cs, OpersR P nt ops l cs ∧ c cs = some y
  | [], c, h => ⟨[], .nil, h⟩
  | o :: l, c, h => by
    have h : operK tt nt ops.toList o (fun o => opersK tt nt ops.toList l fun l => c (o :: l)) = some y := h
    simp only [operK] at h
    obtain ⟨h1, h⟩ := dstK_inv h
    obtain ⟨g, h2, h⟩ := guardK_inv h
    obtain ⟨k, h3, h⟩ := opK_inv hT h
    obtain ⟨cs, h4, h⟩ := opersK_inv hT h
    exact ⟨_ :: cs, .cons ⟨rfl, h1, h2, h3⟩ h4, h⟩
theorem fPlans_eq {β : Type} : ∀ (l : List (COp × Plan)) (c : List (COp × Plan) → β), fPlans l c = c l
  | [], c => rfl
  | (o, ⟨b, f, k, t⟩) :: l, c => by simp only [fPlans, fN_eq, fLN_eq, fB_eq]; rw [fPlans_eq l]
theorem drawK_inv {nt : Nat} {ops : Array Oper} {cs : List COp} (hc : OpersR P nt ops ops.toList cs) {c : CC → Option γ} (h : drawK ops.toList cs c = some y) : ∃ n l, DrawR P nt ops n l ∧ c (.draw n l) = some y := by
  simp only [drawK] at h
  cases hb : (edgesOk ops.toList && chain (cs.zip (befs [] ops.toList)) (cs.zip (befs [] ops.toList)) 0 [] && apartOk ops.toList (befs [] ops.toList) ops.toList 0) with
  | false => rw [hb] at h; cases h
  | true =>
    rw [hb] at h
    simp only [cond_true, fPlans_eq, fN_eq] at h
    simp only [Bool.and_eq_true] at hb
    exact ⟨_, _, ⟨cs, hc, rfl, rfl, hb.1.1, hb.1.2, hb.2⟩, h⟩
/-- The loops over functions by then stand ahead of all those that there are. -/
def Ahead (ss F : List Site) : Prop := ss.reverse <+: F
theorem Ahead.cons {s : Site} {ss F : List Site} (h : Ahead (s :: ss) F) : Ahead ss F ∧ F[ss.length]? = some s := by
  obtain ⟨t, ht⟩ := h
  refine ⟨⟨s :: t, by rw [← ht]; simp⟩, ?_⟩
  rw [← ht]; simp
theorem compK_inv (hT : TTOk P tt) {nt : Nat} : ∀ (code : Code) {ss : List Site} {c : CC → List Site → Option γ}, compK tt nt code ss c = some y →
    ∃ cc ss', c cc ss' = some y ∧ (∀ F, Ahead ss' F → Ahead ss F) ∧ ∀ F, Ahead ss' F → CodeR P nt F code cc
  | .skip, ss, c, h => ⟨_, _, h, fun _ h => h, fun _ _ => .skip⟩
  | .label l, ss, c, h => ⟨_, _, by simpa [compK] using h, fun _ h => h, fun _ _ => .label⟩
  | .region id ops draw, ss, c, h => by
    simp only [compK] at h
    obtain ⟨cs, h1, h⟩ := opersK_inv hT h
    cases draw with
    | true =>
      obtain ⟨n, l, h2, h⟩ := drawK_inv h1 h
      exact ⟨_, _, h, fun _ h => h, fun _ _ => .draw h2⟩
    | false => exact ⟨_, _, h, fun _ h => h, fun _ _ => .ops h1⟩
  | .seq a b, ss, c, h => by
    simp only [compK] at h
    obtain ⟨a', s1, h, a1, a2⟩ := compK_inv hT a h
    obtain ⟨b', s2, h, b1, b2⟩ := compK_inv hT b h
    exact ⟨_, _, h, fun F hF => a1 F (b1 F hF), fun F hF => .seq (a2 F (b1 F hF)) (b2 F hF)⟩
  | .cond x a b, ss, c, h => by
    simp only [compK] at h
    obtain ⟨x', hx, h⟩ := xK_inv h
    obtain ⟨a', s1, h, a1, a2⟩ := compK_inv hT a h
    obtain ⟨b', s2, h, b1, b2⟩ := compK_inv hT b h
    exact ⟨_, _, h, fun F hF => a1 F (b1 F hF), fun F hF => .cond hx (a2 F (b1 F hF)) (b2 F hF)⟩
  | .block id b, ss, c, h => by
    simp only [compK, fN_eq] at h
    obtain ⟨b', s2, h, b1, b2⟩ := compK_inv hT b h
    exact ⟨_, _, h, b1, fun F hF => .block (b2 F hF)⟩
  | .loop b, ss, c, h => by
    simp only [compK] at h
    obtain ⟨b', s2, h, b1, b2⟩ := compK_inv hT b h
    exact ⟨_, _, h, b1, fun F hF => .loop (b2 F hF)⟩
  | .rangeFunc f ps as body, ss, c, h => by
    simp only [compK] at h
    obtain ⟨x', hx, h⟩ := xK_inv h
    obtain ⟨a', s1, h, a1, a2⟩ := compK_inv hT as h
    obtain ⟨b', s2, h, b1, b2⟩ := compK_inv hT body h
    obtain ⟨hp, h⟩ := ifB_some h
    simp only [fLN_eq, fN_eq] at h
    refine ⟨_, _, h, fun F hF => a1 F (b1 F hF.cons.1), fun F hF => .range hx hF.cons.2 (a2 F (b1 F hF.cons.1)) (b2 F hF.cons.1) (fun p hp' => ?_)⟩
    exact blt_lt (List.all_eq_true.1 hp p hp')
  | .exit id, ss, c, h => ⟨_, _, by simpa [compK] using h, fun _ h => h, fun _ _ => .exit⟩
  | .goto l, ss, c, h => ⟨_, _, by simpa [compK] using h, fun _ h => h, fun _ _ => .goto⟩
  | .scope b, ss, c, h => by
    simp only [compK] at h
    obtain ⟨b', s2, h, b1, b2⟩ := compK_inv hT b h
    exact ⟨_, _, h, b1, fun F hF => .scope (b2 F hF)⟩
  | .ret, ss, c, h => ⟨_, _, h, fun _ h => h, fun _ _ => .ret⟩
  | .refuse _, ss, c, h => by cases h
theorem resK_inv (hT : TTOk P tt) : ∀ {l : List ResultVar} {c : List RV → Option γ}, resK tt l c = some y → ∃ r, RessR P l r ∧ c r = some y
  | [], c, h => ⟨[], .nil, h⟩
  | r :: l, c, h => by
    cases r with
    | tmp t =>
      simp only [resK, fN_eq] at h
      obtain ⟨r, h1, h⟩ := resK_inv hT h
      exact ⟨_, .cons rfl h1, h⟩
    | cell a t =>
      simp only [resK] at h
      obtain ⟨i, hi, h⟩ := tiK_inv h
      simp only [fN_eq, fB_eq] at h
      obtain ⟨r, h1, h⟩ := resK_inv hT h
      exact ⟨_, .cons ⟨i, hT _ _ hi, rfl⟩ h1, h⟩
theorem funcK_inv (hT : TTOk P tt) {fn : Func} {c : CF → Option γ} (h : funcK tt fn c = some y) : ∃ cf, FuncR P fn cf ∧ c cf = some y := by
  unfold funcK at h
  split at h
  · rename_i b hb
    obtain ⟨b', ss, h, _, h1⟩ := compK_inv hT b h
    obtain ⟨r, h2, h⟩ := resK_inv hT h
    rw [fL_eq] at h
    exact ⟨_, ⟨⟨b, hb, h1 _ (List.prefix_refl _)⟩, h2⟩, h⟩
  · cases h
end
end Go.Sh

/- The shadow machine: regions that draw their order, first part: what heavy operations do to temporaries. -/
namespace Go.Sh
set_option linter.unusedSimpArgs false
set_option linter.unusedVariables false
set_option linter.unusedSectionVars false
noncomputable section
variable {P : Program} {E : Env} {R : Rec}

theorem cond_some {γ : Type} {b : Bool} {x : Option γ} {y : γ} (h : (bif b then x else none) = some y) : b = true ∧ x = some y := by
  cases b
  · cases h
  · exact ⟨rfl, h⟩
theorem cond_cases {γ : Type} {b : Bool} {x z : Option γ} {y : γ} (h : (bif b then x else z) = some y) : x = some y ∨ z = some y := by
  cases b
  · exact .inr h
  · exact .inl h
theorem setPs_some {y : Sig × St} : ∀ {ps : List Nat} {vs : List SV} {tm : Tr SV} {c : Tr SV → Option (Sig × St)}, setPs tm ps vs c = some y → ∃ tm', c tm' = some y
  | [], [], tm, c, h => ⟨tm, h⟩
  | [], v :: vs, tm, c, h => by have h2 : none = some y := h; cases h2
  | p :: ps, [], tm, c, h => by have h2 : none = some y := h; cases h2
  | p :: ps, v :: vs, tm, c, h => by
    have h2 : tm.setK deep p v (fun tm => setPs tm ps vs c) = some y := h
    obtain ⟨tm1, h3, _⟩ := Tr.setK_inv _ _ _ _ _ _ h2
    exact setPs_some h3
/-- A value is laid down, and all else stays. -/
def PutR (tm : Tr SV) (dst : Option Nat) (v : SV) (tm' : Tr SV) : Prop := ∀ q, tm'.get q = if dst = some q then some v else tm.get q
section
variable {tm : Tr SV} {dst : Option Nat} {st' : St}
theorem put_tm {v : SV} {ds : List SDef} {h : Tr SO} {n : Nat} {rc : RC} (hs : put tm dst v (fun tm => some (Sig.norm, St.mk tm ds h n rc)) = some (.norm, st')) :
    ∃ v, PutR tm dst v st'.tm := by
  obtain ⟨tm', h1, h2⟩ := put_inv hs
  cases h1
  exact ⟨v, h2⟩
abbrev nx : Next := fun st => some (.norm, st)
theorem entryS_tm {h : Tr SO} {kt b : Nat} {k : SV} {new : Option SV → SV} {zero : SV} {c : SV → Nat → Tr SO → Option (Sig × St)} (hs : entryS E h kt b k new (h.get b) c zero = some (.norm, st'))
    (hc : ∀ v q h, c v q h = some (.norm, st') → ∃ v, PutR tm dst v st'.tm) : ∃ v, PutR tm dst v st'.tm := by
  obtain ⟨es, clock, r, _, _, hcase⟩ := entryS_inv hs
  rcases hcase with ⟨_, _, _, _, _, _, _, _, _, h1⟩ | ⟨_, _, _, h1⟩
  · exact hc _ _ _ h1
  · exact hc _ _ _ h1
theorem heavy_tm {cx : Cx} {k : HK} {ds : List SDef} {h : Tr SO} {n : Nat} {rc : RC} (hs : heavyS E R cx dst k tm ds h n rc nx = some (.norm, st')) : ∃ v, PutR tm dst v st'.tm := by
  cases k with
  | store size a x =>
    simp only [heavyS, evK_eq, storeS] at hs
    obtain ⟨b, off, _, hs⟩ := onPtr_inv hs
    obtain ⟨ob, _, hs⟩ := onSome_inv hs
    obtain ⟨rw', cs, _, hs⟩ := onCells_inv hs
    obtain ⟨_, hs⟩ := ifB_some hs
    obtain ⟨_, hs⟩ := ifB_some hs
    obtain ⟨_, hs⟩ := ifB_some hs
    obtain ⟨_, hs⟩ := ifB_some hs
    rw [fL_eq] at hs
    obtain ⟨h', hs, _⟩ := Tr.setK_inv _ _ _ _ _ _ hs
    exact put_tm hs
  | mapSet kt m k v =>
    simp only [heavyS, evK_eq] at hs
    generalize ev tm m = sm at hs
    cases sm <;> simp only [mapSetS] at hs <;> try (cases hs; done)
    cases hk : keyT E.tt kt (ev tm k) with
    | false => rw [hk] at hs; cases hs
    | true => rw [hk] at hs; simp only [cond_true] at hs; exact entryS_tm hs fun _ _ _ h => put_tm h
  | mapEntry kt z m k =>
    simp only [heavyS, evK_eq] at hs
    generalize ev tm m = sm at hs
    cases sm <;> simp only [mapEntryS] at hs <;> try (cases hs; done)
    cases hk : keyT E.tt kt (ev tm k) with
    | false => rw [hk] at hs; cases hs
    | true => rw [hk] at hs; simp only [cond_true] at hs; exact entryS_tm hs fun _ _ _ h => put_tm (by simpa using h)
  | entryStore m s v =>
    simp only [heavyS, evK_eq] at hs
    generalize ev tm m = sm at hs
    cases sm <;> simp only [entryStoreS] at hs <;> try (cases hs; done)
    split at hs <;> try (cases hs; done)
    split at hs <;> try (cases hs; done)
    split at hs <;> try (cases hs; done)
    split at hs <;> try (cases hs; done)
    rw [fL_eq] at hs
    obtain ⟨h', hs, _⟩ := Tr.setK_inv _ _ _ _ _ _ hs
    exact put_tm hs
  | next it =>
    simp only [heavyS] at hs
    generalize ev tm it = sm at hs
    cases sm <;> simp only [nextS] at hs <;> try (cases hs; done)
    split at hs <;> try (cases hs; done)
    split at hs <;> try (cases hs; done)
    split at hs <;> try (cases hs; done)
    split at hs
    · rename_i q hq
      cases hc : Nat.blt q 128 with
      | false => rw [hc] at hs; cases hs
      | true =>
        rw [hc] at hs
        simp only [cond_true, fN_eq] at hs
        obtain ⟨h', hs, _⟩ := Tr.setK_inv _ _ _ _ _ _ hs
        exact put_tm hs
    · exact put_tm hs
  | recov =>
    simp only [heavyS, recovS] at hs
    split at hs <;> try (cases hs; done)
    split at hs <;> try (cases hs; done)
    · exact put_tm hs
    · split at hs <;> try (cases hs; done)
      split at hs <;> try (cases hs; done)
      exact put_tm hs
  | defer f args =>
    simp only [heavyS, evsK_eq, deferS] at hs
    split at hs <;> try (cases hs; done)
    split at hs <;> try (cases hs; done)
    rw [fL_eq] at hs
    exact put_tm hs
  | panic x =>
    simp only [heavyS, evK_eq] at hs
    generalize ev tm x = s at hs
    cases s <;> simp only [panicS] at hs <;> cases hs
  | bad => simp only [heavyS] at hs; cases hs
  | append size bytes s x =>
    have hnew : ∀ {h0 : Tr SO} {need size : Nat} {cs : List SV}, appNew tm ds h0 n rc dst nx need size cs = some (.norm, st') → ∃ v, PutR tm dst v st'.tm := by
      intro h0 need size cs h1
      simp only [appNew, fL_eq, fN_eq] at h1
      obtain ⟨h', h1, _⟩ := Tr.setK_inv _ _ _ _ _ _ h1
      exact put_tm h1
    simp only [heavyS, evK_eq] at hs
    generalize ev tm s = sv at hs
    unfold appTo at hs
    split at hs <;> try (cases hs; done)
    split at hs
    · cases sv <;> simp only [] at hs <;> try (cases hs; done)
      · exact put_tm hs
      · exact put_tm hs
    · cases sv <;> simp only [] at hs <;> try (cases hs; done)
      · simp only [appSl] at hs
        split at hs <;> try (cases hs; done)
        split at hs <;> try (cases hs; done)
        obtain ⟨_, hs⟩ := cond_some hs
        split at hs
        · rename_i q
          rcases cond_cases hs with hs | hs
          · obtain ⟨_, hs⟩ := cond_some hs
            simp only [appIn, fL_eq, fN_eq] at hs
            obtain ⟨h', hs, _⟩ := Tr.setK_inv _ _ _ _ _ _ hs
            exact put_tm hs
          · exact hnew hs
        · obtain ⟨_, hs⟩ := cond_some hs
          obtain ⟨h', hs, _⟩ := Tr.delK_inv _ _ _ _ _ hs
          exact hnew hs
      · obtain ⟨_, hs⟩ := cond_some hs
        exact hnew hs
  | call f args =>
    simp only [heavyS, evsK_eq] at hs
    generalize ev tm f = sv at hs
    cases sv <;> simp only [callV] at hs <;> try (cases hs; done)
    · simp only [fL_eq] at hs
      unfold didCall at hs
      split at hs <;> try (cases hs; done)
      split at hs
      · exact put_tm hs
      · cases hs
    · unfold yieldS at hs
      split at hs <;> try (cases hs; done)
      split at hs <;> try (cases hs; done)
      unfold roundAt at hs
      split at hs <;> try (cases hs; done)
      split at hs
      obtain ⟨tm', hs⟩ := setPs_some hs
      unfold roundBusy at hs
      split at hs <;> try (cases hs; done)
      split at hs <;> try (cases hs; done)
      split at hs <;> try (cases hs; done)
      split at hs <;> try (cases hs; done)
      split at hs <;> try (cases hs; done)
      obtain ⟨h', hs, _⟩ := Tr.setK_inv _ _ _ _ _ _ hs
      unfold roundBody at hs
      split at hs <;> try (cases hs; done)
      split at hs <;> try (cases hs; done)
      split at hs
      · cases hs
      · split at hs <;> try (cases hs; done)
        unfold roundEnd at hs
        split at hs <;> try (cases hs; done)
        split at hs <;> try (cases hs; done)
        obtain ⟨h', hs, _⟩ := Tr.setK_inv _ _ _ _ _ _ hs
        exact put_tm hs
end
end
end Go.Sh

/- The shadow machine: regions that draw their order, second part: what stands ahead of what. -/
namespace Go.Sh
set_option linter.unusedSimpArgs false
set_option linter.unusedVariables false
set_option linter.unusedSectionVars false
noncomputable section

/-! ## What stands ahead -/
theorem befs_len : ∀ (l : List Oper) (acc : List Nat), (befs acc l).length = acc.length + l.length
  | [], acc => by simp [befs]
  | o :: l, acc => by rw [befs, befs_len l]; simp; omega
theorem befs_pre : ∀ (l : List Oper) (acc : List Nat) (k : Nat), k < acc.length → (befs acc l).getD k 0 = acc.getD k 0
  | [], acc, k, h => rfl
  | o :: l, acc, k, h => by
    rw [befs, befs_pre l _ k (by simp; omega)]
    simp [List.getElem?_append_left h]
theorem fold_bit (acc : List Nat) (i : Nat) : ∀ (l : List Edge) (s : Nat), Nat.testBit (l.foldl (fun s e => bif Region.binds .any e then Nat.lor (Nat.lor s (Nat.pow 2 e.on)) (acc.getD e.on 0) else s) s) i = true →
    Nat.testBit s i = true ∨ ∃ e ∈ l, Region.binds .any e = true ∧ (e.on = i ∨ Nat.testBit (acc.getD e.on 0) i = true)
  | [], s, h => .inl h
  | e :: l, s, h => by
    rw [List.foldl_cons] at h
    rcases fold_bit acc i l _ h with h | ⟨e', h1, h2⟩
    · cases hb : Region.binds .any e with
      | false => rw [hb] at h; exact .inl h
      | true =>
        rw [hb] at h
        simp only [cond_true] at h
        have h' : Nat.testBit ((s ||| 2 ^ e.on) ||| acc.getD e.on 0) i = true := h
        rw [Nat.testBit_or, Nat.testBit_or, Nat.testBit_two_pow, Bool.or_eq_true, Bool.or_eq_true] at h'
        rcases h' with (h' | h') | h'
        · exact .inl h'
        · exact .inr ⟨e, .head _, hb, .inl (by simpa using h')⟩
        · exact .inr ⟨e, .head _, hb, .inr h'⟩
    · exact .inr ⟨e', .tail _ h1, h2⟩
theorem befs_spec : ∀ (l : List Oper) (acc : List Nat), (∀ m o, l[m]? = some o → ∀ e ∈ o.after.toList, Region.binds .any e = true → e.on < acc.length + m) →
    ∀ m o i, l[m]? = some o → Nat.testBit ((befs acc l).getD (acc.length + m) 0) i = true →
      ∃ e ∈ o.after.toList, Region.binds .any e = true ∧ e.on < acc.length + m ∧ (e.on = i ∨ Nat.testBit ((befs acc l).getD e.on 0) i = true)
  | [], acc, he, m, o, i, hm, h => by simp at hm
  | o' :: l, acc, he, m, o, i, hm, h => by
    cases m with
    | zero =>
      simp at hm; subst hm
      rw [befs] at h ⊢
      rw [Nat.add_zero, befs_pre l _ acc.length (by simp)] at h
      simp only [List.getD, List.getElem?_append_right (Nat.le_refl _), Nat.sub_self, List.getElem?_cons_zero, Option.getD_some] at h
      rcases fold_bit acc i _ _ h with h | ⟨e, h1, h2, h3⟩
      · simp at h
      · have hlt := he 0 _ rfl e h1 h2
        refine ⟨e, h1, h2, hlt, ?_⟩
        rcases h3 with h3 | h3
        · exact .inl h3
        · right
          rw [befs_pre l _ e.on (by simp; omega)]
          rw [List.getD, List.getElem?_append_left (by omega)]
          exact h3
    | succ m =>
      simp at hm
      rw [befs] at h ⊢
      have hlen : (acc ++ [o'.after.toList.foldl (fun s e => bif Region.binds .any e then Nat.lor (Nat.lor s (Nat.pow 2 e.on)) (acc.getD e.on 0) else s) 0]).length = acc.length + 1 := by simp
      have := befs_spec l _ (fun m' o'' hm' e h1 h2 => by
        rw [hlen]
        have := he (m' + 1) o'' (by simpa using hm') e h1 h2
        omega) m o i hm (by rw [hlen]; rw [show acc.length + 1 + m = acc.length + (m + 1) by omega]; exact h)
      rw [hlen, show acc.length + 1 + m = acc.length + (m + 1) by omega] at this
      exact this
/-- Operations surely ahead of one: those of its edges, and those ahead of these. -/
theorem ahead_spec {ops : List Oper} (he : edgesOk ops = true) {j i : Nat} {o : Oper} (ho : ops[j]? = some o) (h : Nat.testBit ((befs [] ops).getD j 0) i = true) :
    ∃ e ∈ o.after.toList, Region.binds .any e = true ∧ e.on < j ∧ (e.on = i ∨ Nat.testBit ((befs [] ops).getD e.on 0) i = true) := by
  have := befs_spec ops [] (fun m o hm e h1 h2 => by
    simp only [edgesOk, List.all_eq_true] at he
    have hz : (o, m) ∈ ops.zipIdx := by rw [List.mem_zipIdx_iff_getElem?]; exact hm
    have h3 := he _ hz
    simp only [List.all_eq_true] at h3
    have h4 := h3 e h1
    rw [h2] at h4
    simp only [Bool.not_true, Bool.false_or] at h4
    have := blt_lt h4
    simpa using this) j o i ho (by simpa using h)
  simpa using this
theorem edge_lt {ops : List Oper} (he : edgesOk ops = true) {j : Nat} {o : Oper} (ho : ops[j]? = some o) {e : Edge} (h1 : e ∈ o.after.toList) (h2 : Region.binds .any e = true) : e.on < j := by
  simp only [edgesOk, List.all_eq_true] at he
  have hz : (o, j) ∈ ops.zipIdx := by rw [List.mem_zipIdx_iff_getElem?]; exact ho
  have h3 := he _ hz
  simp only [List.all_eq_true] at h3
  have h4 := h3 e h1
  rw [h2] at h4
  simp only [Bool.not_true, Bool.false_or] at h4
  exact blt_lt h4
/-- Names of temporaries. -/
theorem apart_spec {ops : List Oper} {bs : List Nat} : ∀ {l : List Oper} {j0 : Nat}, apartOk ops bs l j0 = true → ∀ m o, l[m]? = some o → ∀ i p, i < j0 + m → ops[i]? = some p → Nat.testBit (bs.getD (j0 + m) 0) i = true ∨
    ((∀ d, p.dst = some d → d ∉ namesOf ops o) ∧ (∀ d, o.dst = some d → d ∉ namesOf ops p))
  | [], j0, h, m, o, hm, i, p, hi, hp => by simp at hm
  | o' :: l, j0, h, m, o, hm, i, p, hi, hp => by
    simp only [apartOk, Bool.and_eq_true, List.all_eq_true] at h
    obtain ⟨h1, h2⟩ := h
    cases m with
    | zero =>
      simp at hm; subst hm
      have hz : (p, i) ∈ ops.zipIdx.take j0 := by
        rw [List.mem_iff_getElem?]
        refine ⟨i, ?_⟩
        rw [List.getElem?_take, if_pos (by omega), List.getElem?_zipIdx, hp]; simp
      have h3 := h1 _ hz
      simp only [Bool.or_eq_true, Bool.and_eq_true] at h3
      rcases h3 with h3 | ⟨h3, h4⟩
      · exact .inl h3
      · refine .inr ⟨fun d hd => ?_, fun d hd => ?_⟩
        · rw [hd] at h3; simpa using h3
        · rw [hd] at h4; simpa using h4
    | succ m =>
      simp at hm
      have := apart_spec h2 m o hm i p (by omega) hp
      rw [show j0 + 1 + m = j0 + (m + 1) by omega] at this
      exact this

/-! ## Plans -/
section
variable (items : List (COp × Nat))
def hvAt : Nat → List Nat
  | 0 => []
  | j + 1 => match items[j]? with
    | some p => (match clsOf p.1.k with | .heavy => j :: hvAt j | _ => hvAt j)
    | none => hvAt j
def alAt : Nat → List Nat
  | 0 => []
  | j + 1 => match items[j]? with
    | some p => (match clsOf p.1.k with | .heavy => (alAt j).filter (fun i => !Nat.testBit p.2 i) | .alloc => j :: alAt j | _ => alAt j)
    | none => alAt j
/-- Sets of the heavy ones from there on. -/
def setsFrom (j : Nat) : List Nat := ((items.drop j).filter fun x => isHeavy (clsOf x.1.k)).map (·.2)
def planAt (j : Nat) (p : COp × Nat) : Plan := match clsOf p.1.k with
  | .heavy => { back := 0, fwd := 0, commit := (alAt items j).filter (Nat.testBit p.2), twin := (match hvAt items j with | [] => false | i :: _ => !Nat.testBit p.2 i) }
  | .alloc => { back := 0, fwd := 0, commit := [], twin := false }
  | .read => { back := countOut p.2 (hvAt items j), fwd := countNot j (setsFrom items (j + 1)), commit := [], twin := false }
  | .pure => { back := 0, fwd := 0, commit := [], twin := false }
theorem plans_spec : ∀ (k j : Nat), (plans (items.drop j) j (hvAt items j) (alAt items j))[k]? = (items[j + k]?).map fun p => (p.1, planAt items (j + k) p) := by
  intro k
  induction k with
  | zero =>
    intro j
    cases hd : items.drop j with
    | nil =>
      have : items[j]? = none := by rw [List.getElem?_eq_none_iff]; exact List.drop_eq_nil_iff.1 hd
      simp [plans, this]
    | cons p rest =>
      have hp : items[j]? = some p := by rw [← List.head?_drop, hd]; rfl
      have hr : items.drop (j + 1) = rest := by rw [← List.drop_drop, hd]; rfl
      obtain ⟨o, b⟩ := p
      rw [Nat.add_zero, hp]
      simp only [plans, Option.map_some, planAt, setsFrom, hr]
      cases hc : clsOf o.k <;> first | (simp; done) | (simp; rfl)
  | succ k ih =>
    intro j
    cases hd : items.drop j with
    | nil =>
      have : items[j + (k + 1)]? = none := by rw [List.getElem?_eq_none_iff]; have := List.drop_eq_nil_iff.1 hd; omega
      simp [plans, this]
    | cons p rest =>
      have hp : items[j]? = some p := by rw [← List.head?_drop, hd]; rfl
      have hr : items.drop (j + 1) = rest := by rw [← List.drop_drop, hd]; rfl
      have hi := ih (j + 1)
      rw [hr, show j + 1 + k = j + (k + 1) by omega] at hi
      rw [← hi]
      obtain ⟨o, b⟩ := p
      simp only [plans, hvAt, alAt, hp]
      cases hc : clsOf o.k <;> simp
/-- How heavy ones stand. -/
def Chained (j : Nat) (p : COp × Nat) : Prop := match hvAt items j with
  | [] => True
  | i :: more => Nat.testBit p.2 i = true ∨ (isStore p.1.k = true ∧ (∃ q, items[i]? = some q ∧ isStore q.1.k = true) ∧ (∀ m rest, more = m :: rest → Nat.testBit p.2 m = true) ∧
      (∀ m q, j < m → items[m]? = some q → clsOf q.1.k = .pure) ∧
      (∀ m q, items[m]? = some q → (clsOf q.1.k = .read ∨ clsOf q.1.k = .alloc) → Nat.testBit p.2 m = true ∧ ∃ y, items[i]? = some y ∧ Nat.testBit y.2 m = true))
theorem chain_spec : ∀ (k j : Nat), chain items (items.drop j) j (hvAt items j) = true → ∀ p, items[j + k]? = some p → clsOf p.1.k = .heavy → Chained items (j + k) p := by
  intro k
  induction k with
  | zero =>
    intro j h p hp hc
    rw [Nat.add_zero] at hp ⊢
    have hd : items.drop j = p :: items.drop (j + 1) := by
      rw [List.drop_eq_getElem?_toList_append, hp]; rfl
    rw [hd] at h
    obtain ⟨o, b⟩ := p
    simp only at hc
    simp only [chain, hc] at h
    unfold Chained
    cases hv : hvAt items j with
    | nil => trivial
    | cons i more =>
      rw [hv] at h
      simp only [Bool.and_eq_true, Bool.or_eq_true] at h
      rcases h.1 with h1 | ⟨⟨⟨⟨h1, h2⟩, h3⟩, h4⟩, h5⟩
      · exact .inl h1
      · refine .inr ⟨h1, ?_, ?_, ?_, ?_⟩
        · cases hi : items[i]? with
          | none => rw [hi] at h2; cases h2
          | some q => rw [hi] at h2; exact ⟨q, rfl, h2⟩
        · intro m rest hm; subst hm; exact h3
        · intro m q hm hq
          simp only [Bool.not_eq_true'] at h4
          have hmem : q ∈ items.drop (j + 1) := by
            rw [List.mem_iff_getElem?]
            refine ⟨m - (j + 1), ?_⟩
            rw [List.getElem?_drop]; rw [← hq]; congr 1; omega
          have := (List.any_eq_false.1 h4) q hmem
          cases hcq : clsOf q.1.k <;> rw [hcq] at this <;> first | rfl | (simp at this)
        · intro m q hq hcq
          rw [List.all_eq_true] at h5
          have hmem : (q, m) ∈ items.zipIdx := by rw [List.mem_zipIdx_iff_getElem?]; exact hq
          have := h5 _ hmem
          have h6 : (Nat.testBit b m && (match items[i]? with | some y => Nat.testBit y.2 m | none => false)) = true := by
            rcases hcq with hcq | hcq <;> simp only [hcq] at this <;> exact this
          rw [Bool.and_eq_true] at h6
          refine ⟨h6.1, ?_⟩
          cases hi : items[i]? with
          | none => rw [hi] at h6; cases h6.2
          | some y => rw [hi] at h6; exact ⟨y, rfl, h6.2⟩
  | succ k ih =>
    intro j h p hp hc
    rw [show j + (k + 1) = (j + 1) + k by omega] at hp ⊢
    refine ih (j + 1) ?_ p hp hc
    cases hd : items.drop j with
    | nil =>
      have : items[j + 1 + k]? = none := by rw [List.getElem?_eq_none_iff]; have := List.drop_eq_nil_iff.1 hd; omega
      rw [this] at hp; cases hp
    | cons p' rest =>
      have hp' : items[j]? = some p' := by rw [← List.head?_drop, hd]; rfl
      have hr : items.drop (j + 1) = rest := by rw [← List.drop_drop, hd]; rfl
      rw [hd] at h
      rw [hr]
      obtain ⟨o, b⟩ := p'
      simp only [hvAt, hp']
      simp only [chain] at h
      cases hcc : clsOf o.k <;> rw [hcc] at h <;> simp only [Bool.and_eq_true] at h <;> first | exact h | exact h.2
end
end
end Go.Sh

/- The shadow machine: regions that draw their order, third part: the run in the text's order, operation by operation. -/
namespace Go.Sh
set_option linter.unusedSimpArgs false
set_option linter.unusedVariables false
set_option linter.unusedSectionVars false
noncomputable section
variable {E : Env} {R : Rec}

structure DSt where
  tm : Tr SV
  ds : List SDef
  h : Tr SO
  n : Nat
  rc : RC
  pend : List Pend
  snaps : List (Tr SO)
  chks : List Chk
  last : Option Nat
/-- Blocks that are told of. -/
inductive CommitR : Tr SO → List Pend → List Nat → Tr SO → List Pend → Prop
  | nil {h : Tr SO} {pend : List Pend} : CommitR h pend [] h pend
  | skip {h h' : Tr SO} {pend pend' : List Pend} {i : Nat} {l : List Nat} (hn : takeP i pend = none) (t : CommitR h pend l h' pend') : CommitR h pend (i :: l) h' pend'
  | take {h h1 h' : Tr SO} {pend rest pend' : List Pend} {i id : Nat} {o : SO} {l : List Nat} (hn : takeP i pend = some (id, o, rest)) (hh : ∀ q, h1.get q = if q = id then some o else h.get q) (t : CommitR h1 rest l h' pend') : CommitR h pend (i :: l) h' pend'
inductive AllR : Tr SO → List Pend → Tr SO → Prop
  | nil {h : Tr SO} : AllR h [] h
  | cons {h h1 h' : Tr SO} {i id : Nat} {o : SO} {pend : List Pend} (hh : ∀ q, h1.get q = if q = id then some o else h.get q) (t : AllR h1 pend h') : AllR h (⟨i, id, o⟩ :: pend) h'
def fwdChks (p : Plan) (ok : Tr SO → Bool) (l : List Chk) : List Chk := match p.fwd with | 0 => l | Nat.succ m => ⟨Nat.succ m, ok⟩ :: l
/-- One operation. -/
inductive DStep (E : Env) (R : Rec) (cx : Cx) (base i : Nat) : COp → Plan → DSt → DSt → Prop
  | skip {dst : Option Nat} {g : G} {k : K} {p : Plan} {s : DSt} {tm' : Tr SV} (hw : want s.tm g = false) (ht : PutR s.tm dst (.tup []) tm') : DStep E R cx base i ⟨dst, g, k⟩ p s { s with tm := tm' }
  | pure {dst : Option Nat} {g : G} {f : Tr SV → Option SV} {p : Plan} {s : DSt} {v : SV} {tm' : Tr SV} (hw : want s.tm g = true) (hf : f s.tm = some v) (ht : PutR s.tm dst v tm') : DStep E R cx base i ⟨dst, g, .pure f⟩ p s { s with tm := tm' }
  | read {dst : Option Nat} {g : G} {f : Tr SO → Tr SV → Option SV} {p : Plan} {s : DSt} {v : SV} {tm' : Tr SV} (hw : want s.tm g = true) (hf : f s.h s.tm = some v) (ha : allAs (readsAs f s.tm v) p.back s.snaps = true) (ht : PutR s.tm dst v tm') :
      DStep E R cx base i ⟨dst, g, .read f⟩ p s { s with tm := tm', chks := fwdChks p (readsAs f s.tm v) s.chks }
  | alloc {dst : Option Nat} {g : G} {f : Tr SV → Option (SO × Shape)} {p : Plan} {s : DSt} {o : SO} {sh : Shape} {tm' : Tr SV} (hw : want s.tm g = true) (hf : f s.tm = some (o, sh)) (ht : PutR s.tm dst (sh.val (base + i)) tm') :
      DStep E R cx base i ⟨dst, g, .alloc f⟩ p s { s with tm := tm', pend := ⟨i, base + i, o⟩ :: s.pend }
  | heavy {dst : Option Nat} {g : G} {k : HK} {p : Plan} {s : DSt} {h' : Tr SO} {pend' : List Pend} {st : St} {chks' : List Chk} (hw : want s.tm g = true) (ht : twinOk s.tm k p.twin s.last = true) (hc : CommitR s.h s.pend p.commit h' pend')
      (hk : heavyS E R cx dst k s.tm s.ds h' s.n s.rc nx = some (.norm, st)) (hs : stepChk st.heap s.chks = some chks') :
      DStep E R cx base i ⟨dst, g, .heavy k⟩ p s ⟨st.tm, st.ds, st.heap, st.nx, st.rc, pend', s.h :: s.snaps, chks', aimOf s.tm k⟩
theorem commitK_cons (h : Tr SO) (pend : List Pend) (i : Nat) (l : List Nat) (c : Tr SO → List Pend → Option (Sig × St)) :
    commitK h pend (i :: l) c = onSome (takeP i pend) (commitK h pend l c) (fun q => h.setK deep q.1 q.2.1 fun h => fL q.2.2 fun pend => commitK h pend l c) := rfl
theorem commitK_inv {y : Sig × St} {c : Tr SO → List Pend → Option (Sig × St)} : ∀ (l : List Nat) (h : Tr SO) (pend : List Pend), commitK h pend l c = some y → ∃ h' pend', CommitR h pend l h' pend' ∧ c h' pend' = some y := by
  intro l
  induction l with
  | nil => intro h pend hs; exact ⟨h, pend, .nil, hs⟩
  | cons i l ih =>
    intro h pend hs
    rw [commitK_cons] at hs
    cases ht : takeP i pend with
    | none =>
      rw [ht, onSome_none] at hs
      obtain ⟨h', pend', h1, h2⟩ := ih h pend hs
      exact ⟨h', pend', .skip ht h1, h2⟩
    | some q =>
      obtain ⟨id, o, rest⟩ := q
      rw [ht, onSome_some] at hs
      obtain ⟨h1, hs, hh⟩ := Tr.setK_inv _ _ _ _ _ _ hs
      rw [fL_eq] at hs
      obtain ⟨h', pend', h2, h3⟩ := ih h1 rest hs
      exact ⟨h', pend', .take ht hh h2, h3⟩
theorem commitAll_inv {y : Sig × St} : ∀ {l : List Pend} {h : Tr SO} {c : Tr SO → Option (Sig × St)}, commitAll h c l = some y → ∃ h', AllR h l h' ∧ c h' = some y
  | [], h, c, hs => ⟨h, .nil, hs⟩
  | ⟨i, id, o⟩ :: l, h, c, hs => by
    have hs : h.setK deep id o (fun h => commitAll h c l) = some y := hs
    obtain ⟨h1, hs, hh⟩ := Tr.setK_inv _ _ _ _ _ _ hs
    obtain ⟨h', h2, h3⟩ := commitAll_inv hs
    exact ⟨h', .cons hh h2, h3⟩
theorem drawOn_inv {r : Option (Sig × St)} {c : Next} {y : Sig × St} (h : drawOn r c = some y) : ∃ st, r = some (.norm, st) ∧ c st = some y := by
  unfold drawOn at h
  split at h
  · split at h
    · exact ⟨_, rfl, h⟩
    · cases h
  · cases h
theorem drawOps_cons (cx : Cx) (base : Nat) (dst : Option Nat) (g : G) (k : K) (p : Plan) (l : List (COp × Plan)) (i : Nat) (s : DSt) :
    drawOps E R cx base ((⟨dst, g, k⟩, p) :: l) i (.mk s.tm s.ds s.h s.n s.rc) s.pend s.snaps s.chks s.last =
      (fN i fun i => ifB (want s.tm g) (drawOp E R cx base dst k p i s.tm s.ds s.h s.n s.rc s.pend s.snaps s.chks s.last (drawOps E R cx base l))
        (put s.tm dst (.tup []) fun tm => drawOps E R cx base l (Nat.succ i) (.mk tm s.ds s.h s.n s.rc) s.pend s.snaps s.chks s.last)) := rfl
theorem drawOps_inv {cx : Cx} {base : Nat} {y : Sig × St} : ∀ {l : List (COp × Plan)} {i : Nat} {s0 : DSt}, drawOps E R cx base l i (.mk s0.tm s0.ds s0.h s0.n s0.rc) s0.pend s0.snaps s0.chks s0.last = some y →
    ∃ s : Nat → DSt, s 0 = s0 ∧ (∀ j c p, l[j]? = some (c, p) → DStep E R cx base (i + j) c p (s j) (s (j + 1))) ∧
      ∃ h', AllR (s l.length).h (s l.length).pend h' ∧ y = (.norm, .mk (s l.length).tm (s l.length).ds h' (s l.length).n (s l.length).rc)
  | [], i, s0, hs => by
    have hs : commitAll s0.h (fun h => some (Sig.norm, St.mk s0.tm s0.ds h s0.n s0.rc)) s0.pend = some y := hs
    obtain ⟨h', h1, h2⟩ := commitAll_inv hs
    cases h2
    exact ⟨fun _ => s0, rfl, fun j c p hj => by simp at hj, h', h1, rfl⟩
  | (⟨dst, g, k⟩, p) :: l, i, s0, hs => by
    rw [drawOps_cons, fN_eq] at hs
    have glue : ∀ s1 : DSt, DStep E R cx base i ⟨dst, g, k⟩ p s0 s1 → drawOps E R cx base l (Nat.succ i) (.mk s1.tm s1.ds s1.h s1.n s1.rc) s1.pend s1.snaps s1.chks s1.last = some y →
        ∃ s : Nat → DSt, s 0 = s0 ∧ (∀ j c q, ((⟨dst, g, k⟩, p) :: l : List (COp × Plan))[j]? = some (c, q) → DStep E R cx base (i + j) c q (s j) (s (j + 1))) ∧
          ∃ h', AllR (s ((⟨dst, g, k⟩, p) :: l : List (COp × Plan)).length).h (s ((⟨dst, g, k⟩, p) :: l : List (COp × Plan)).length).pend h' ∧
            y = (.norm, .mk (s ((⟨dst, g, k⟩, p) :: l : List (COp × Plan)).length).tm (s ((⟨dst, g, k⟩, p) :: l : List (COp × Plan)).length).ds h' (s ((⟨dst, g, k⟩, p) :: l : List (COp × Plan)).length).n (s ((⟨dst, g, k⟩, p) :: l : List (COp × Plan)).length).rc) := by
      intro s1 h1 h2
      obtain ⟨s, e0, e1, h', e2, e3⟩ := drawOps_inv h2
      refine ⟨fun j => Nat.casesOn j s0 s, rfl, fun j c q hj => ?_, h', e2, e3⟩
      cases j with
      | zero =>
        simp at hj
        obtain ⟨rfl, rfl⟩ := hj
        show DStep E R cx base (i + 0) _ _ s0 (s 0)
        rw [e0]; exact h1
      | succ j =>
        have := e1 j c q (by simpa using hj)
        rw [show Nat.succ i + j = i + (j + 1) by omega] at this
        exact this
    cases hw : want s0.tm g with
    | false =>
      rw [hw] at hs
      have hs : put s0.tm dst (.tup []) (fun tm => drawOps E R cx base l (Nat.succ i) (.mk tm s0.ds s0.h s0.n s0.rc) s0.pend s0.snaps s0.chks s0.last) = some y := hs
      obtain ⟨tm', hs, ht⟩ := put_inv hs
      exact glue _ (.skip hw ht) hs
    | true =>
      rw [hw] at hs
      simp only [ifB_true] at hs
      cases k with
      | pure f =>
        have hs : putO s0.tm dst (f s0.tm) (fun tm => drawOps E R cx base l (Nat.succ i) (.mk tm s0.ds s0.h s0.n s0.rc) s0.pend s0.snaps s0.chks s0.last) = some y := hs
        obtain ⟨v, hf, hs⟩ := onSome_inv hs
        obtain ⟨tm', hs, ht⟩ := put_inv hs
        exact glue _ (.pure hw hf ht) hs
      | read f =>
        simp only [drawOp] at hs
        obtain ⟨v, hf, hs⟩ := onSome_inv hs
        obtain ⟨ha, hs⟩ := ifB_some hs
        obtain ⟨tm', hs, ht⟩ := put_inv hs
        exact glue { s0 with tm := tm', chks := fwdChks p (readsAs f s0.tm v) s0.chks } (.read hw hf ha ht) hs
      | alloc f =>
        simp only [drawOp] at hs
        obtain ⟨v, hf, hs⟩ := onSome_inv hs
        rw [fN_eq] at hs
        obtain ⟨o, sh⟩ := v
        obtain ⟨tm', hs, ht⟩ := put_inv hs
        exact glue { s0 with tm := tm', pend := ⟨i, base + i, o⟩ :: s0.pend } (.alloc hw hf ht) hs
      | heavy hk =>
        simp only [drawOp] at hs
        obtain ⟨ht, hs⟩ := ifB_some hs
        obtain ⟨h', pend', hc, hs⟩ := commitK_inv _ _ _ hs
        rw [fN_eq] at hs
        obtain ⟨st, hk1, hs⟩ := drawOn_inv hs
        obtain ⟨tm1, ds1, h1, n1, rc1⟩ := st
        obtain ⟨chks', hch, hs⟩ := onSome_inv hs
        exact glue ⟨tm1, ds1, h1, n1, rc1, pend', s0.h :: s0.snaps, chks', aimOf s0.tm hk⟩ (.heavy hw ht hc hk1 hch) hs

/-! ## Along the run -/
section
variable {cx : Cx} {base : Nat} {pl : List (COp × Plan)} {s : Nat → DSt} (hst : ∀ j c p, pl[j]? = some (c, p) → DStep E R cx base j c p (s j) (s (j + 1)))
include hst
/-- Temporaries: each operation lays down its own. -/
theorem step_tm {j : Nat} {c : COp} {p : Plan} (hj : pl[j]? = some (c, p)) : ∃ v, PutR (s j).tm c.dst v (s (j + 1)).tm := by
  have h := hst j c p hj
  generalize s j = a at h
  generalize s (j + 1) = b at h
  cases h with
  | skip hw ht => exact ⟨_, ht⟩
  | pure hw hf ht => exact ⟨_, ht⟩
  | read hw hf ha ht => exact ⟨_, ht⟩
  | alloc hw hf ht => exact ⟨_, ht⟩
  | heavy hw ht hc hk hs => exact heavy_tm hk
/-- One that nobody writes between stays. -/
theorem tm_stays {t : Nat} {i : Nat} : ∀ {k : Nat}, i + k ≤ pl.length → (∀ j c p, i ≤ j → j < i + k → pl[j]? = some (c, p) → c.dst ≠ some t) → (s (i + k)).tm.get t = (s i).tm.get t
  | 0, _, _ => rfl
  | k + 1, hk, hn => by
    rw [← tm_stays (k := k) (by omega) (fun j c p h1 h2 h3 => hn j c p h1 (by omega) h3)]
    have hlt : i + k < pl.length := by omega
    obtain ⟨v, hv⟩ := step_tm hst (j := i + k) (c := pl[i + k].1) (p := pl[i + k].2) (by rw [List.getElem?_eq_getElem hlt])
    rw [show i + (k + 1) = (i + k) + 1 by omega, hv t]
    rw [if_neg (hn (i + k) _ pl[i + k].2 (by omega) (by omega) (by rw [List.getElem?_eq_getElem hlt]))]
/-- Memory stays but for heavy operations. -/
theorem step_mem {j : Nat} {c : COp} {p : Plan} (hj : pl[j]? = some (c, p)) (hc : clsOf c.k ≠ .heavy) : (s (j + 1)).h = (s j).h ∧ (s (j + 1)).ds = (s j).ds ∧ (s (j + 1)).n = (s j).n ∧ (s (j + 1)).rc = (s j).rc ∧ (s (j + 1)).last = (s j).last := by
  have h := hst j c p hj
  generalize s j = a at h
  generalize s (j + 1) = b at h
  cases h with
  | heavy hw ht hc' hk hs => exact absurd rfl hc
  | _ => exact ⟨rfl, rfl, rfl, rfl, rfl⟩
theorem step_unwanted {j : Nat} {c : COp} {p : Plan} (hj : pl[j]? = some (c, p)) (hw : want (s j).tm c.g = false) : (s (j + 1)).h = (s j).h ∧ (s (j + 1)).ds = (s j).ds ∧ (s (j + 1)).n = (s j).n ∧ (s (j + 1)).rc = (s j).rc ∧ (s (j + 1)).last = (s j).last ∧ (s (j + 1)).pend = (s j).pend := by
  have h := hst j c p hj
  generalize s j = a at h hw
  generalize s (j + 1) = b at h
  cases h with
  | skip => exact ⟨rfl, rfl, rfl, rfl, rfl, rfl⟩
  | pure hw' => rw [hw'] at hw; cases hw
  | read hw' => rw [hw'] at hw; cases hw
  | alloc hw' => rw [hw'] at hw; cases hw
  | heavy hw' => rw [hw'] at hw; cases hw
end
end
end Go.Sh

/- The shadow machine: regions that draw their order, fourth part: what looks at memory sees the same wherever it may stand. -/
namespace Go.Sh
set_option linter.unusedSimpArgs false
set_option linter.unusedVariables false
set_option linter.unusedSectionVars false
noncomputable section
variable {E : Env} {R : Rec}

section counts
variable (items : List (COp × Nat))
def HeavyAt (q : Nat) : Prop := ∃ it, items[q]? = some it ∧ clsOf it.1.k = .heavy
theorem hvAt_succ_heavy {j : Nat} (h : HeavyAt items j) : hvAt items (j + 1) = j :: hvAt items j := by
  obtain ⟨it, h1, h2⟩ := h
  simp only [hvAt, h1, h2]
theorem hvAt_succ_not {j : Nat} (h : ¬ HeavyAt items j) : hvAt items (j + 1) = hvAt items j := by
  simp only [hvAt]
  cases hi : items[j]? with
  | none => rfl
  | some it =>
    simp only
    cases hc : clsOf it.1.k <;> first | rfl | exact absurd ⟨it, hi, hc⟩ h
theorem hvAt_mem : ∀ {j q : Nat}, q ∈ hvAt items j → q < j ∧ HeavyAt items q
  | 0, q, h => by simp [hvAt] at h
  | j + 1, q, h => by
    by_cases c : HeavyAt items j
    · rw [hvAt_succ_heavy items c] at h
      cases h with
      | head => exact ⟨Nat.lt_succ_self _, c⟩
      | tail _ h => have := hvAt_mem h; exact ⟨by omega, this.2⟩
    · rw [hvAt_succ_not items c] at h
      have := hvAt_mem h; exact ⟨by omega, this.2⟩
theorem hvAt_has : ∀ {j q : Nat}, q < j → HeavyAt items q → q ∈ hvAt items j
  | 0, q, h, _ => by omega
  | j + 1, q, h, hq => by
    by_cases e : q = j
    · subst e; rw [hvAt_succ_heavy items hq]; exact .head _
    · have := hvAt_has (show q < j by omega) hq
      by_cases c : HeavyAt items j
      · rw [hvAt_succ_heavy items c]; exact .tail _ this
      · rw [hvAt_succ_not items c]; exact this
/-- How many heavy ones stand from p on, ahead of j. -/
def cntB (p j : Nat) : Nat := ((hvAt items j).filter (fun q => decide (p ≤ q))).length
theorem cntB_succ_heavy {p j : Nat} (hp : p ≤ j) (h : HeavyAt items j) : cntB items p (j + 1) = cntB items p j + 1 := by
  simp only [cntB, hvAt_succ_heavy items h, List.filter_cons, hp, decide_true, if_true, List.length_cons]
theorem cntB_succ_not {p j : Nat} (h : ¬ HeavyAt items j) : cntB items p (j + 1) = cntB items p j := by
  simp only [cntB, hvAt_succ_not items h]
theorem cntB_self {p : Nat} : cntB items p p = 0 := by
  simp only [cntB, List.length_eq_zero_iff, List.filter_eq_nil_iff]
  intro q hq
  have := (hvAt_mem items hq).1
  simp; omega
theorem cntB_first {a : Nat} : ∀ {k : Nat}, (HeavyAt items a → cntB items a (a + 1 + k) = cntB items (a + 1) (a + 1 + k) + 1) ∧ (¬ HeavyAt items a → cntB items a (a + 1 + k) = cntB items (a + 1) (a + 1 + k))
  | 0 => by
    refine ⟨fun h => ?_, fun h => ?_⟩
    · rw [Nat.add_zero, cntB_succ_heavy items (Nat.le_refl _) h, cntB_self, cntB_self]
    · rw [Nat.add_zero, cntB_succ_not items h, cntB_self, cntB_self]
  | k + 1 => by
    obtain ⟨h1, h2⟩ := cntB_first (a := a) (k := k)
    rw [show a + 1 + (k + 1) = (a + 1 + k) + 1 by omega]
    by_cases c : HeavyAt items (a + 1 + k)
    · rw [cntB_succ_heavy items (by omega) c, cntB_succ_heavy items (by omega) c]
      exact ⟨fun h => by rw [h1 h], fun h => by rw [h2 h]⟩
    · rw [cntB_succ_not items c, cntB_succ_not items c]
      exact ⟨h1, h2⟩
theorem out_ge {b p : Nat} : ∀ {l : List Nat}, (∀ q ∈ l, p ≤ q → Nat.testBit b q = false) → (l.filter (fun q => decide (p ≤ q))).length ≤ countOut b l
  | [], _ => by simp [countOut]
  | q :: l, h => by
    have ih := out_ge (l := l) (fun q hq => h q (.tail _ hq))
    simp only [List.filter_cons, countOut]
    by_cases c : p ≤ q
    · rw [h q (.head _) c]
      simp only [c, decide_true, if_true, List.length_cons, cond_false]
      omega
    · simp only [c, decide_false, Bool.false_eq_true, if_false]
      cases Nat.testBit b q <;> simp <;> omega
theorem setsFrom_heavy {a : Nat} {it : COp × Nat} (h1 : items[a]? = some it) (h2 : clsOf it.1.k = .heavy) : setsFrom items a = it.2 :: setsFrom items (a + 1) := by
  simp only [setsFrom]
  rw [List.drop_eq_getElem?_toList_append, h1]
  simp [h2, isHeavy]
theorem setsFrom_not {a : Nat} (h : ¬ HeavyAt items a) : setsFrom items a = setsFrom items (a + 1) := by
  simp only [setsFrom]
  rw [List.drop_eq_getElem?_toList_append (i := a)]
  cases hi : items[a]? with
  | none => simp
  | some it =>
    have : isHeavy (clsOf it.1.k) = false := by
      cases hc : clsOf it.1.k <;> first | rfl | exact absurd ⟨it, hi, hc⟩ h
    simp [this]
theorem not_ge {j : Nat} : ∀ (k a : Nat), (∀ q it, a ≤ q → q < a + k → items[q]? = some it → clsOf it.1.k = .heavy → Nat.testBit it.2 j = false) → cntB items a (a + k) ≤ countNot j (setsFrom items a)
  | 0, a, _ => by rw [Nat.add_zero, cntB_self]; exact Nat.zero_le _
  | k + 1, a, h => by
    have ih := not_ge k (a + 1) (fun q it h1 h2 h3 h4 => h q it (by omega) (by omega) h3 h4)
    rw [show a + (k + 1) = a + 1 + k by omega]
    by_cases c : HeavyAt items a
    · rw [(cntB_first items).1 c]
      obtain ⟨it, h1, h2⟩ := c
      rw [setsFrom_heavy items h1 h2]
      simp only [countNot]
      rw [h a it (Nat.le_refl _) (by omega) h1 h2]
      simp only [cond_false]; omega
    · rw [(cntB_first items).2 c, setsFrom_not items c]; exact ih
end counts

section
variable {cx : Cx} {base : Nat} {items : List (COp × Nat)} {s : Nat → DSt} (hst : ∀ j c p, (plans items 0 [] [])[j]? = some (c, p) → DStep E R cx base j c p (s j) (s (j + 1)))
include hst
theorem stepI {j : Nat} {it : COp × Nat} (h : items[j]? = some it) : DStep E R cx base j it.1 (planAt items j it) (s j) (s (j + 1)) := by
  refine hst j _ _ ?_
  have := plans_spec items j 0
  simp only [List.drop_zero, hvAt, alAt, Nat.zero_add] at this
  rw [this, h]; rfl
theorem mem_not {j : Nat} (hj : j < items.length) (h : ¬ HeavyAt items j) : (s (j + 1)).h = (s j).h := by
  have hs := stepI hst (List.getElem?_eq_getElem hj)
  generalize hit : items[j] = it at hs
  have hne : clsOf it.1.k ≠ .heavy := fun e => h ⟨it, by rw [List.getElem?_eq_getElem hj, hit], e⟩
  generalize s j = a at hs
  generalize s (j + 1) = b at hs
  obtain ⟨c, bb⟩ := it
  simp only at hs hne
  cases hs with
  | heavy => exact absurd rfl hne
  | _ => rfl
theorem back_ok {g : Tr SO → Bool} {p : Nat} : ∀ {k : Nat} {m : Nat}, p + k ≤ items.length → cntB items p (p + k) ≤ m → allAs g m (s (p + k)).snaps = true → (s p).h = (s (p + k)).h ∨ g (s p).h = true
  | 0, m, _, _, _ => .inl rfl
  | k + 1, m, hk, hm, ha => by
    have hlt : p + k < items.length := by omega
    have hs := stepI hst (List.getElem?_eq_getElem hlt)
    rw [show p + (k + 1) = (p + k) + 1 by omega] at hm ha ⊢
    by_cases c : HeavyAt items (p + k)
    · rw [cntB_succ_heavy items (by omega) c] at hm
      have ih := fun m h1 h2 => back_ok (g := g) (p := p) (k := k) (m := m) (by omega) h1 h2
      generalize hit : items[p + k] = it at hs
      obtain ⟨cc, bb⟩ := it
      generalize hb : s (p + k + 1) = b at hs ha
      generalize hq : s (p + k) = a at hs ih
      cases hs with
      | heavy hw ht hc hk' hs' =>
        cases m with
        | zero => omega
        | succ m =>
          have ha : ifB (g a.h) (allAs g m a.snaps) false = true := ha
          cases hg : g a.h with
          | false => rw [hg] at ha; cases ha
          | true =>
            rw [hg] at ha
            rcases ih m (by omega) ha with h1 | h1
            · rw [h1, hg]; exact .inr rfl
            · exact .inr h1
      | skip hw ht => exact ih m (by omega) ha
      | pure hw hf ht => exact ih m (by omega) ha
      | read hw hf ha' ht => exact ih m (by omega) ha
      | alloc hw hf ht => exact ih m (by omega) ha
    · rw [cntB_succ_not items c] at hm
      have hmem := mem_not hst hlt c
      have hsn : (s (p + k + 1)).snaps = (s (p + k)).snaps := by
        generalize hit : items[p + k] = it at hs
        have hne : clsOf it.1.k ≠ .heavy := fun e => c ⟨it, by rw [List.getElem?_eq_getElem hlt, hit], e⟩
        obtain ⟨cc, bb⟩ := it
        simp only at hs hne
        generalize s (p + k) = a at hs
        generalize s (p + k + 1) = b at hs
        cases hs with
        | heavy => exact absurd rfl hne
        | _ => rfl
      rw [hsn] at ha
      rw [hmem]
      exact back_ok (k := k) (by omega) hm ha
omit hst in
theorem stepChk_ok {h : Tr SO} : ∀ {l l' : List Chk}, stepChk h l = some l' → ∀ c ∈ l, c.ok h = true ∧ (2 ≤ c.left → ∃ c' ∈ l', c'.ok = c.ok ∧ c'.left = c.left - 1)
  | [], l', hs, c, hc => by cases hc
  | ⟨left, ok⟩ :: l, l', hs, c, hc => by
    have hs : ifB (ok h) (onSome (stepChk h l) none fun l => Nat.rec (motive := fun _ => Option (List Chk)) (some l) (fun n _ => Nat.rec (motive := fun _ => Option (List Chk)) (some l) (fun n _ => some (⟨Nat.succ n, ok⟩ :: l)) n) left) none = some l' := hs
    obtain ⟨h1, hs⟩ := ifB_some hs
    obtain ⟨l1, h2, hs⟩ := onSome_inv hs
    have hsub : ∀ c' ∈ l1, c' ∈ l' := by
      intro c' hc'
      match left, hs with
      | 0, hs => cases hs; exact hc'
      | 1, hs => cases hs; exact hc'
      | n + 2, hs => cases hs; exact .tail _ hc'
    cases hc with
    | head =>
      refine ⟨h1, fun h3 => ?_⟩
      match left, hs, h3 with
      | n + 2, hs, _ => cases hs; exact ⟨_, .head _, rfl, rfl⟩
    | tail _ hc =>
      obtain ⟨h3, h4⟩ := stepChk_ok h2 c hc
      refine ⟨h3, fun h5 => ?_⟩
      obtain ⟨c', h6, h7⟩ := h4 h5
      exact ⟨c', hsub c' h6, h7⟩
theorem fwd_ok : ∀ {k a : Nat} {c : Chk}, a + k ≤ items.length → c ∈ (s a).chks → cntB items a (a + k) ≤ c.left → (s (a + k)).h = (s a).h ∨ c.ok (s (a + k)).h = true
  | 0, a, c, _, _, _ => .inl rfl
  | k + 1, a, c, hk, hc, hm => by
    have hlt : a < items.length := by omega
    have hs := stepI hst (List.getElem?_eq_getElem hlt)
    rw [show a + (k + 1) = a + 1 + k by omega] at hm ⊢
    have keep : (∀ c ∈ (s a).chks, c ∈ (s (a + 1)).chks) → (s (a + 1)).h = (s a).h → cntB items (a + 1) (a + 1 + k) ≤ c.left → (s (a + 1 + k)).h = (s a).h ∨ c.ok (s (a + 1 + k)).h = true := fun h1 h2 h3 => by
      rcases fwd_ok (k := k) (a := a + 1) (c := c) (by omega) (h1 c hc) h3 with h4 | h4
      · exact .inl (h4.trans h2)
      · exact .inr h4
    have hle : cntB items (a + 1) (a + 1 + k) ≤ cntB items a (a + 1 + k) := by
      by_cases q : HeavyAt items a
      · rw [(cntB_first items).1 q]; omega
      · rw [(cntB_first items).2 q]; exact Nat.le_refl _
    generalize hit : items[a] = it at hs
    have hcls : HeavyAt items a ↔ clsOf it.1.k = .heavy := by
      rw [HeavyAt, List.getElem?_eq_getElem hlt, hit]
      exact ⟨fun ⟨it', e, h⟩ => by cases e; exact h, fun h => ⟨it, rfl, h⟩⟩
    obtain ⟨cc, bb⟩ := it
    simp only at hs hcls
    have heavyCase : ∀ {chks' : List Chk}, stepChk (s (a + 1)).h (s a).chks = some chks' → (s (a + 1)).chks = chks' → HeavyAt items a → (s (a + 1 + k)).h = (s a).h ∨ c.ok (s (a + 1 + k)).h = true := by
      intro chks' hsc hch hv
      rw [(cntB_first items).1 hv] at hm
      obtain ⟨h1, h2⟩ := stepChk_ok hsc c hc
      by_cases h3 : 2 ≤ c.left
      · obtain ⟨c', h4, h5, h6⟩ := h2 h3
        rcases fwd_ok (k := k) (a := a + 1) (c := c') (by omega) (by rw [hch]; exact h4) (by omega) with h7 | h7
        · rw [h7]; exact .inr h1
        · rw [h5] at h7; exact .inr h7
      · have h0 : cntB items (a + 1) (a + 1 + k) = 0 := by omega
        have hsame : ∀ m, a + 1 + m ≤ items.length → cntB items (a + 1) (a + 1 + m) = 0 → (s (a + 1 + m)).h = (s (a + 1)).h := by
          intro m
          induction m with
          | zero => intro _ _; rfl
          | succ m ih =>
            intro h8 h9
            rw [show a + 1 + (m + 1) = (a + 1 + m) + 1 by omega] at h9 ⊢
            by_cases q : HeavyAt items (a + 1 + m)
            · rw [cntB_succ_heavy items (by omega) q] at h9; omega
            · rw [cntB_succ_not items q] at h9
              rw [mem_not hst (by omega) q]; exact ih (by omega) h9
        rw [hsame k (by omega) h0]; exact .inr h1
    generalize hA : s a = A at hs keep heavyCase hc
    generalize hB : s (a + 1) = B at hs keep heavyCase
    cases hs with
    | heavy hw ht hcm hk' hs' => exact heavyCase hs' rfl (hcls.2 rfl)
    | skip hw ht => exact keep (fun c h => h) rfl (by omega)
    | pure hw hf ht => exact keep (fun c h => h) rfl (by omega)
    | read hw hf ha' ht => exact keep (fun c h => by simp only [fwdChks]; split <;> first | exact h | exact .tail _ h) rfl (by omega)
    | alloc hw hf ht => exact keep (fun c h => h) rfl (by omega)
theorem readsAs_eq {f : Tr SO → Tr SV → Option SV} {tm : Tr SV} {v : SV} {h : Tr SO} (hr : readsAs f tm v h = true) : f h tm = some v := by
  unfold readsAs at hr
  split at hr
  · rename_i u hu; rw [hu, sameV_eq _ _ hr]
  · cases hr
/-- What looks sees the same at every place where it may stand. -/
theorem read_ok {j : Nat} {dst : Option Nat} {g : G} {f : Tr SO → Tr SV → Option SV} {b : Nat} (hj : items[j]? = some (⟨dst, g, .read f⟩, b)) (hw : want (s j).tm g = true) {p : Nat} (hp : p ≤ items.length)
    (hb : ∀ q, HeavyAt items q → Nat.testBit b q = true → q < p) (hf : ∀ q it, items[q]? = some it → clsOf it.1.k = .heavy → Nat.testBit it.2 j = true → p ≤ q) :
    ∃ v, PutR (s j).tm dst v (s (j + 1)).tm ∧ f (s p).h (s j).tm = some v := by
  have hs := stepI hst hj
  have hlt : j < items.length := (List.getElem?_eq_some_iff.1 hj).1
  have hnh : ¬ HeavyAt items j := fun ⟨it, e, h⟩ => by rw [hj] at e; cases e; cases h
  have hmem := mem_not hst hlt hnh
  simp only at hs
  have hplan : (planAt items j (⟨dst, g, .read f⟩, b)).back = countOut b (hvAt items j) ∧ (planAt items j (⟨dst, g, .read f⟩, b)).fwd = countNot j (setsFrom items (j + 1)) := ⟨rfl, rfl⟩
  have main : ∀ v, f (s j).h (s j).tm = some v → allAs (readsAs f (s j).tm v) (countOut b (hvAt items j)) (s j).snaps = true → (s (j + 1)).chks = fwdChks (planAt items j (⟨dst, g, .read f⟩, b)) (readsAs f (s j).tm v) (s j).chks → f (s p).h (s j).tm = some v := by
    intro v h1 h2 h3
    rcases Nat.le_total p j with hle | hle
    · obtain ⟨k, rfl⟩ : ∃ k, j = p + k := ⟨j - p, by omega⟩
      have hcnt : cntB items p (p + k) ≤ countOut b (hvAt items (p + k)) := out_ge (fun q hq hpq => by
        have := hvAt_mem items hq
        cases hbq : Nat.testBit b q with
        | false => rfl
        | true => have := hb q this.2 hbq; omega)
      rcases back_ok hst (k := k) (by omega) hcnt h2 with h4 | h4
      · rw [h4]; exact h1
      · exact readsAs_eq hst h4
    · rcases Nat.eq_or_lt_of_le hle with e | hlt'
      · subst e; exact h1
      · obtain ⟨k, rfl⟩ : ∃ k, p = j + 1 + k := ⟨p - (j + 1), by omega⟩
        have hcnt : cntB items (j + 1) (j + 1 + k) ≤ countNot j (setsFrom items (j + 1)) := not_ge items k (j + 1) (fun q it h5 h6 h7 h8 => by
          cases hbq : Nat.testBit it.2 j with
          | false => rfl
          | true => have := hf q it h7 h8 hbq; omega)
        cases hfw : countNot j (setsFrom items (j + 1)) with
        | zero =>
          have hsame : ∀ m, j + 1 + m ≤ items.length → cntB items (j + 1) (j + 1 + m) = 0 → (s (j + 1 + m)).h = (s (j + 1)).h := by
            intro m
            induction m with
            | zero => intro _ _; rfl
            | succ m ih =>
              intro h8 h9
              rw [show j + 1 + (m + 1) = (j + 1 + m) + 1 by omega] at h9 ⊢
              by_cases q : HeavyAt items (j + 1 + m)
              · rw [cntB_succ_heavy items (by omega) q] at h9; omega
              · rw [cntB_succ_not items q] at h9
                rw [mem_not hst (by omega) q]; exact ih (by omega) h9
          rw [hsame k hp (by omega), hmem]; exact h1
        | succ m =>
          have hin : (⟨Nat.succ m, readsAs f (s j).tm v⟩ : Chk) ∈ (s (j + 1)).chks := by
            rw [h3]; simp only [fwdChks, hplan.2, hfw]; exact .head _
          rcases fwd_ok hst (k := k) (a := j + 1) hp hin (by rw [hfw] at hcnt; exact hcnt) with h4 | h4
          · rw [h4, hmem]; exact h1
          · exact readsAs_eq hst h4
  generalize hA : s j = A at hs main hw ⊢
  generalize hB : s (j + 1) = B at hs main ⊢
  cases hs with
  | skip hw' ht => rw [hw'] at hw; cases hw
  | read hw' hf' ha' ht => exact ⟨_, ht, main _ hf' ha' rfl⟩
end
end
end Go.Sh

/- The shadow machine: regions that draw their order, fifth part: blocks that are made, and not told of yet. -/
namespace Go.Sh
set_option linter.unusedSimpArgs false
set_option linter.unusedVariables false
set_option linter.unusedSectionVars false
noncomputable section
variable {P : Program} {E : Env} {R : Rec}

/-- A number that stands for nothing. -/
theorem HR.ghost {S : Sites} {β : Bij} {H : Tr SO} {n n' g : Nat} {w : World} (h : HR S β H n w) (hg : n ≤ g) (hn : g < n') (e : Nat × Nat × Nat) : HR S (upd β g e) H n' w := by
  have hfree := h.fresh hg
  have hext := Ext.upd e hfree
  have hget : ∀ b o, H.get b = some o → b ≠ g := fun b o hb he => by subst he; rw [h.free hfree] at hb; cases hb
  refine ⟨fun b o hb => ?_, fun b f hb => ?_, fun b b' o o' f f' hb hb' hne hr hf hf' => ?_, fun q hq => let ⟨k, hk⟩ := h.glob q hq; ⟨k, hext _ _ hk⟩⟩
  · obtain ⟨k, sh, m, h1, h2⟩ := h.alive b o hb
    exact ⟨k, sh, m, hext _ _ h1, h2.mono hext⟩
  · by_cases c : b = g
    · omega
    · rw [upd_ne _ _ c] at hb; have := h.dom b f hb; omega
  · rw [upd_ne _ _ (hget b o hb)] at hf
    rw [upd_ne _ _ (hget b' o' hb')] at hf'
    exact h.inj b b' o o' f f' hb hb' hne hr hf hf'
theorem FR.ghost {S : Sites} {β : Bij} {H : Tr SO} {n g : Nat} {w : World} (h : HR S β H n w) (hg : n ≤ g) (e : Nat × Nat × Nat) : FR β H w (upd β g e) H w := by
  have hfree := h.fresh hg
  have hget : ∀ b o, H.get b = some o → b ≠ g := fun b o hb he => by subst he; rw [h.free hfree] at hb; cases hb
  refine ⟨rfl, rfl, rfl, Nat.le_refl _, Ext.upd e hfree, fun _ _ _ => rfl, fun k _ ho => ?_, fun b f hb => ?_, fun k _ ho => ?_⟩
  · obtain ⟨b, o, f, h1, h2, h3, h4⟩ := ho
    rw [upd_ne _ _ (hget b o h1)] at h3
    exact ⟨b, o, f, h1, h2, h3, h4⟩
  · by_cases c : b = g
    · subst c; exact .inr fun d f hd => by have := h.dom d f hd; omega
    · rw [upd_ne _ _ c] at hb; exact .inl hb
  · obtain ⟨b, o, f, h1, h3, h4⟩ := ho
    rw [upd_ne _ _ (hget b o h1)] at h3
    exact ⟨b, o, f, h1, h3, h4⟩
/-- A block is told of that was made before. -/
theorem HR.tell {S : Sites} {β : Bij} {H H' : Tr SO} {n id : Nat} {w : World} (h : HR S β H n w) {o : SO} {e : Nat × Nat × Nat} (he : β id = some e) (hor : OR S β o e.2.1 e.2.2 w.heap[e.1]?) (hl : ¬ Live β H e.1)
    (hH : ∀ q, H'.get q = if q = id then some o else H.get q) : HR S β H' n w := by
  refine ⟨fun b q hb => ?_, h.dom, fun b b' q q' f f' hb hb' hne hr hf hf' => ?_, h.glob⟩
  · rw [hH b] at hb
    by_cases c : b = id
    · subst c; rw [if_pos rfl] at hb; cases hb; exact ⟨_, _, _, he, hor⟩
    · rw [if_neg c] at hb; exact h.alive b q hb
  · rw [hH b] at hb
    rw [hH b'] at hb'
    by_cases c : b = id
    · subst c
      have c' : b' ≠ b := fun x => hne x.symm
      rw [if_neg c'] at hb'
      rw [he] at hf; cases hf
      exact fun x => hl ⟨b', q', f', hb', hf', x.symm⟩
    · rw [if_neg c] at hb
      by_cases c' : b' = id
      · subst c'
        rw [he] at hf'; cases hf'
        exact fun x => hl ⟨b, q, f, hb, hf, x⟩
      · rw [if_neg c'] at hb'; exact h.inj b b' q q' f f' hb hb' hne hr hf hf'
theorem FR.tell {β0 β : Bij} {H0 H H' : Tr SO} {id : Nat} {w0 w : World} (h : FR β0 H0 w0 β H w) {o : SO} {e : Nat × Nat × Nat} (he : β id = some e) (hs : w0.heap.size ≤ e.1)
    (hH : ∀ q, H'.get q = if q = id then some o else H.get q) : FR β0 H0 w0 β H' w := by
  refine ⟨h.os, h.tape, h.output, h.size, h.ext, h.keep, fun k hk ho => h.own k hk ?_, h.fresh, fun k hk ho => h.alv k hk ?_⟩
  · obtain ⟨b, q, f, h1, h2, h3, h4⟩ := ho
    rw [hH b] at h1
    by_cases c : b = id
    · subst c; rw [he] at h3; cases h3; omega
    · rw [if_neg c] at h1; exact ⟨b, q, f, h1, h2, h3, h4⟩
  · obtain ⟨b, q, f, h1, h3, h4⟩ := ho
    rw [hH b] at h1
    by_cases c : b = id
    · subst c; rw [he] at h3; cases h3; omega
    · rw [if_neg c] at h1; exact ⟨b, q, f, h1, h3, h4⟩
/-- What is known of blocks that are made, and not told of. -/
structure PendOk (S : Sites) (β : Bij) (H : Tr SO) (w0 w : World) (pend : List Pend) (Q : Nat → Prop) : Prop where
  ok : ∀ x ∈ pend, Q x.i → ∃ e, β x.id = some e ∧ w0.heap.size ≤ e.1 ∧ OR S β x.o e.2.1 e.2.2 w.heap[e.1]? ∧ ¬ Live β H e.1
  apart : ∀ x ∈ pend, ∀ y ∈ pend, Q x.i → Q y.i → x.i ≠ y.i → ∀ e f, β x.id = some e → β y.id = some f → e.1 ≠ f.1
  ids : pend.Pairwise fun x y => x.i ≠ y.i
theorem takeP_inv : ∀ {l : List Pend} {i id : Nat} {o : SO} {rest : List Pend}, takeP i l = some (id, o, rest) → (⟨i, id, o⟩ : Pend) ∈ l ∧ (∀ x ∈ rest, x ∈ l) ∧ rest.Sublist l ∧ (l.Pairwise (fun x y => x.i ≠ y.i) → ∀ x ∈ rest, x.i ≠ i)
  | [], i, id, o, rest, h => by have h2 : none = some (id, o, rest) := h; cases h2
  | ⟨j, jd, p⟩ :: l, i, id, o, rest, h => by
    have h : ifB (Nat.beq i j) (some (jd, p, l)) (onSome (takeP i l) none fun q => some (q.1, q.2.1, ⟨j, jd, p⟩ :: q.2.2)) = some (id, o, rest) := h
    cases hb : Nat.beq i j with
    | true =>
      rw [hb] at h
      have := beq_eq' hb; subst this
      cases h
      refine ⟨.head _, fun x hx => .tail _ hx, List.sublist_cons_self _ _, fun hp x hx => ?_⟩
      rw [List.pairwise_cons] at hp
      exact fun e => hp.1 x hx e.symm
    | false =>
      rw [hb] at h
      obtain ⟨q, h1, h2⟩ := onSome_inv (show onSome (takeP i l) none _ = some (id, o, rest) from h)
      obtain ⟨id', o', rest'⟩ := q
      cases h2
      obtain ⟨h3, h4, h5, h6⟩ := takeP_inv h1
      refine ⟨.tail _ h3, fun x hx => ?_, h5.cons_cons _, fun hp x hx => ?_⟩
      · cases hx with
        | head => exact .head _
        | tail _ hx => exact .tail _ (h4 x hx)
      · rw [List.pairwise_cons] at hp
        cases hx with
        | head => intro e; subst e; simp at hb
        | tail _ hx => exact h6 hp.2 x hx
theorem commit_ok {S : Sites} {β0 β : Bij} {H0 : Tr SO} {n : Nat} {w0 w : World} {Q : Nat → Prop} {l : List Nat} {h h' : Tr SO} {pend pend' : List Pend} (hc : CommitR h pend l h' pend') (hl : ∀ i ∈ l, Q i)
    (hH : HR S β h n w) (hF : FR β0 H0 w0 β h w) (hp : PendOk S β h w0 w pend Q) : HR S β h' n w ∧ FR β0 H0 w0 β h' w ∧ PendOk S β h' w0 w pend' Q ∧ (∀ x ∈ pend', x ∈ pend ∧ (x.i ∉ l)) ∧
      (∀ k, Live β h' k → Live β h k ∨ ∃ x ∈ pend, x.i ∈ l ∧ ∃ e, β x.id = some e ∧ e.1 = k) := by
  induction hc with
  | nil => exact ⟨hH, hF, hp, fun x hx => ⟨hx, by simp⟩, fun k hk => .inl hk⟩
  | @skip h h' pend pend' i l hn t ih =>
    obtain ⟨r1, r2, r3, r4, r5⟩ := ih (fun i hi => hl i (.tail _ hi)) hH hF hp
    refine ⟨r1, r2, r3, fun x hx => ⟨(r4 x hx).1, fun hm => ?_⟩, fun k hk => ?_⟩
    · cases hm with
      | tail _ hm => exact (r4 x hx).2 hm
      | head =>
        have : ∀ {l : List Pend}, takeP x.i l = none → x ∉ l := by
          intro l
          induction l with
          | nil => intro _ h; cases h
          | cons y l ih =>
            intro hn hm
            obtain ⟨j, jd, p⟩ := y
            have hn : ifB (Nat.beq x.i j) (some (jd, p, l)) (onSome (takeP x.i l) none fun q => some (q.1, q.2.1, ⟨j, jd, p⟩ :: q.2.2)) = none := hn
            cases hb : Nat.beq x.i j with
            | true => rw [hb] at hn; cases hn
            | false =>
              rw [hb] at hn
              cases hm with
              | head => simp at hb
              | tail _ hm =>
                cases ht : takeP x.i l with
                | none => exact ih ht hm
                | some q => rw [ht] at hn; cases hn
        exact this hn (r4 x hx).1
    · rcases r5 k hk with h1 | ⟨x, h1, h2, h3⟩
      · exact .inl h1
      · exact .inr ⟨x, h1, .tail _ h2, h3⟩
  | @take h h1 h' pend rest pend' i id o l hn hh t ih =>
    obtain ⟨t1, t2, t3, t4⟩ := takeP_inv hn
    have hQ := hl i (.head _)
    obtain ⟨e, e1, e2, e3, e4⟩ := hp.ok _ t1 hQ
    have hH1 := hH.tell e1 e3 e4 hh
    have hF1 := hF.tell e1 e2 hh
    have hlive : ∀ k, Live β h1 k → Live β h k ∨ k = e.1 := by
      rintro k ⟨b, q, f, g1, g2, g3⟩
      rw [hh b] at g1
      by_cases c : b = id
      · subst c; rw [e1] at g2; cases g2; exact .inr g3.symm
      · rw [if_neg c] at g1; exact .inl ⟨b, q, f, g1, g2, g3⟩
    have hp1 : PendOk S β h1 w0 w rest Q := by
      refine ⟨fun x hx hq => ?_, fun x hx y hy => hp.apart x (t2 x hx) y (t2 y hy), hp.ids.sublist t3⟩
      obtain ⟨f, f1, f2, f3, f4⟩ := hp.ok x (t2 x hx) hq
      refine ⟨f, f1, f2, f3, fun hlv => ?_⟩
      rcases hlive _ hlv with h5 | h5
      · exact f4 h5
      · exact hp.apart x (t2 x hx) _ t1 hq hQ (t4 hp.ids x hx) f e f1 e1 h5
    obtain ⟨r1, r2, r3, r4, r5⟩ := ih (fun i hi => hl i (.tail _ hi)) hH1 hF1 hp1
    refine ⟨r1, r2, r3, fun x hx => ⟨t2 x (r4 x hx).1, fun hm => ?_⟩, fun k hk => ?_⟩
    · cases hm with
      | head => exact t4 hp.ids x (r4 x hx).1 rfl
      | tail _ hm => exact (r4 x hx).2 hm
    · rcases r5 k hk with h5 | ⟨x, h5, h6, h7⟩
      · rcases hlive k h5 with h8 | h8
        · exact .inl h8
        · exact .inr ⟨_, t1, .head _, e, e1, h8.symm⟩
      · exact .inr ⟨x, t2 x h5, .tail _ h6, h7⟩
theorem all_ok {S : Sites} {β0 β : Bij} {H0 : Tr SO} {n : Nat} {w0 w : World} {h h' : Tr SO} {pend : List Pend} (hc : AllR h pend h') 
    (hH : HR S β h n w) (hF : FR β0 H0 w0 β h w) (hp : PendOk S β h w0 w pend fun _ => True) : HR S β h' n w ∧ FR β0 H0 w0 β h' w := by
  induction hc with
  | nil => exact ⟨hH, hF⟩
  | @cons h h1 h' i id o pend hh t ih =>
    obtain ⟨e, e1, e2, e3, e4⟩ := hp.ok _ (.head _) trivial
    have hids := hp.ids
    rw [List.pairwise_cons] at hids
    refine ih (hH.tell e1 e3 e4 hh) (hF.tell e1 e2 hh) ⟨fun x hx _ => ?_, fun x hx y hy => hp.apart x (.tail _ hx) y (.tail _ hy), hids.2⟩
    obtain ⟨f, f1, f2, f3, f4⟩ := hp.ok x (.tail _ hx) trivial
    refine ⟨f, f1, f2, f3, ?_⟩
    rintro ⟨b, q, g, g1, g2, g3⟩
    rw [hh b] at g1
    by_cases c : b = id
    · subst c
      rw [e1] at g2; cases g2
      exact hp.apart x (.tail _ hx) _ (.head _) trivial trivial (fun e => hids.1 x hx e.symm) f e f1 e1 g3.symm
    · rw [if_neg c] at g1; exact f4 ⟨b, q, g, g1, g2, g3⟩
end
end Go.Sh

/- The shadow machine: regions that draw their order, sixth part: what holds by then. -/
namespace Go.Sh
set_option linter.unusedSimpArgs false
set_option linter.unusedVariables false
set_option linter.unusedSectionVars false
noncomputable section
variable {P : Program} {E : Env} {R : Rec}

theorem OpersR.get {nt : Nat} {all : Array Oper} : ∀ {os : List Oper} {cs : List COp}, OpersR P nt all os cs → cs.length = os.length ∧ ∀ (j : Nat) (o : Oper), os[j]? = some o → ∃ c, cs[j]? = some c ∧ OperR P nt all o c
  | _, _, .nil => ⟨rfl, fun j o h => by simp at h⟩
  | _, _, .cons h t => by
    obtain ⟨h1, h2⟩ := t.get
    refine ⟨by simp [h1], fun j o ho => ?_⟩
    cases j with
    | zero => simp at ho; subst ho; exact ⟨_, rfl, h⟩
    | succ j => simpa using h2 j o (by simpa using ho)
/-- A region that draws its order, and its run in the text's order. -/
structure Reg (P : Program) (E : Env) (R : Rec) (fid nt : Nat) (l : Option Nat) (ops : Array Oper) (items : List (COp × Nat)) (base : Nat) (s : Nat → DSt) : Prop where
  ex : ∃ cs, OpersR P nt ops ops.toList cs ∧ items = cs.zip (befs [] ops.toList)
  edges : edgesOk ops.toList = true
  chain : chain items items 0 [] = true
  apart : apartOk ops.toList (befs [] ops.toList) ops.toList 0 = true
  run : ∀ j c p, (plans items 0 [] [])[j]? = some (c, p) → DStep E R ⟨fid, l⟩ base j c p (s j) (s (j + 1))
  pend0 : (s 0).pend = []
/-- Surely ahead. -/
def ahead (ops : Array Oper) (j i : Nat) : Prop := Nat.testBit ((befs [] ops.toList).getD j 0) i = true
section
variable {fid nt : Nat} {l : Option Nat} {ops : Array Oper} {items : List (COp × Nat)} {base : Nat} {s : Nat → DSt} (G : Reg P E R fid nt l ops items base s)
include G
theorem Reg.len : items.length = ops.size := by
  obtain ⟨cs, h1, h2⟩ := G.ex
  rw [h2, List.length_zip, befs_len, h1.get.1]; simp
theorem Reg.item {j : Nat} {o : Oper} (ho : ops[j]? = some o) : ∃ c, items[j]? = some (c, (befs [] ops.toList).getD j 0) ∧ OperR P nt ops o c := by
  obtain ⟨cs, h1, h2⟩ := G.ex
  obtain ⟨c, h3, h4⟩ := h1.get.2 j o (by rw [Array.getElem?_toList]; exact ho)
  refine ⟨c, ?_, h4⟩
  have hlt : j < (befs [] ops.toList).length := by
    rw [befs_len]; have := (Array.getElem?_eq_some_iff.1 ho).1; simp; omega
  rw [h2, List.getElem?_zip_eq_some]
  exact ⟨h3, by simp [List.getElem?_eq_getElem hlt]⟩
theorem Reg.oper {j : Nat} (hj : j < items.length) : ∃ o c, ops[j]? = some o ∧ items[j]? = some (c, (befs [] ops.toList).getD j 0) ∧ OperR P nt ops o c := by
  have hlt : j < ops.size := by rw [← G.len]; exact hj
  have ho : ops[j]? = some ops[j] := Array.getElem?_eq_getElem hlt
  obtain ⟨c, h1, h2⟩ := G.item ho
  exact ⟨_, c, ho, h1, h2⟩
theorem Reg.apart' {j i : Nat} {o p : Oper} (hij : i < j) (ho : ops[j]? = some o) (hp : ops[i]? = some p) : ahead ops j i ∨ ((∀ d, p.dst = some d → d ∉ namesOf ops.toList o) ∧ (∀ d, o.dst = some d → d ∉ namesOf ops.toList p)) := by
  have := apart_spec (j0 := 0) G.apart j o (by rw [Array.getElem?_toList]; exact ho) i p (by omega) (by rw [Array.getElem?_toList]; exact hp)
  simpa [ahead] using this
/-- An operation that makes a block. -/
def AllocAt (items : List (COp × Nat)) (s : Nat → DSt) (i : Nat) (o : SO) : Prop := ∃ dst g f b sh, items[i]? = some ((⟨dst, g, .alloc f⟩ : COp), b) ∧ want (s i).tm g = true ∧ f (s i).tm = some (o, sh)
theorem Reg.pend : ∀ {j : Nat}, j ≤ items.length → (∀ x ∈ (s j).pend, x.i < j ∧ x.id = base + x.i ∧ AllocAt items s x.i x.o) ∧ (s j).pend.Pairwise (fun x y => x.i ≠ y.i)
  | 0, _ => by rw [G.pend0]; exact ⟨fun x h => (by cases h), List.Pairwise.nil⟩
  | j + 1, hj => by
    obtain ⟨h1, h2⟩ := Reg.pend (j := j) (by omega)
    have hs := stepI G.run (List.getElem?_eq_getElem (show j < items.length by omega))
    have hit : items[j]? = some items[j] := List.getElem?_eq_getElem (by omega)
    generalize items[j] = it at hs hit
    obtain ⟨c, bb⟩ := it
    simp only at hs
    have same : (s (j + 1)).pend = (s j).pend → (∀ x ∈ (s (j + 1)).pend, x.i < j + 1 ∧ x.id = base + x.i ∧ AllocAt items s x.i x.o) ∧ (s (j + 1)).pend.Pairwise (fun x y => x.i ≠ y.i) := fun e => by
      refine ⟨fun x hx => ?_, by rw [e]; exact h2⟩
      rw [e] at hx; obtain ⟨a1, a2, a3⟩ := h1 x hx; exact ⟨by omega, a2, a3⟩
    have hal : ∀ {dst g f b sh o}, items[j]? = some ((⟨dst, g, .alloc f⟩ : COp), b) → want (s j).tm g = true → f (s j).tm = some (o, sh) → AllocAt items s j o := fun a1 a2 a3 => ⟨_, _, _, _, _, a1, a2, a3⟩
    generalize hA : s j = A at hs h1 h2 same hal
    generalize hB : s (j + 1) = B at hs same ⊢
    cases hs with
    | skip hw ht => exact same rfl
    | pure hw hf ht => exact same rfl
    | read hw hf ha ht => exact same rfl
    | alloc hw hf ht =>
      refine ⟨fun x hx => ?_, ?_⟩
      · cases hx with
        | head => exact ⟨Nat.lt_succ_self _, rfl, hal hit hw hf⟩
        | tail _ hx => obtain ⟨a1, a2, a3⟩ := h1 x hx; exact ⟨by omega, a2, a3⟩
      · rw [List.pairwise_cons]
        exact ⟨fun x hx e => by have := (h1 x hx).1; simp only at e; omega, h2⟩
    | heavy hw ht hc hk hs' =>
      have hsub : ∀ {l h h' p p'}, CommitR h p l h' p' → (∀ x ∈ p', x ∈ p) ∧ p'.Sublist p := by
        intro l h h' p p' hc
        induction hc with
        | nil => exact ⟨fun x h => h, .refl _⟩
        | skip hn t ih => exact ih
        | take hn hh t ih => obtain ⟨_, t2, t3, _⟩ := takeP_inv hn; exact ⟨fun x hx => t2 x (ih.1 x hx), ih.2.trans t3⟩
      obtain ⟨a1, a2⟩ := hsub hc
      exact ⟨fun x hx => by obtain ⟨b1, b2, b3⟩ := h1 x (a1 x hx); exact ⟨by omega, b2, b3⟩, h2.sublist a2⟩
/-- Between heavy operations: nothing is told of, and memory stays. -/
theorem Reg.between {p : Nat} : ∀ {k : Nat}, p + k ≤ items.length → (∀ q, p ≤ q → q < p + k → ¬ HeavyAt items q) →
    (s (p + k)).h = (s p).h ∧ (s (p + k)).ds = (s p).ds ∧ (s (p + k)).n = (s p).n ∧ (s (p + k)).rc = (s p).rc ∧ (s (p + k)).last = (s p).last ∧ (∀ x ∈ (s (p + k)).pend, x ∈ (s p).pend ∨ p ≤ x.i) ∧ (∀ x ∈ (s p).pend, x ∈ (s (p + k)).pend)
  | 0, _, _ => ⟨rfl, rfl, rfl, rfl, rfl, fun x h => .inl h, fun x h => h⟩
  | k + 1, hk, hn => by
    obtain ⟨h1, h2, h3, h4, h5, h6, h7⟩ := Reg.between (p := p) (k := k) (by omega) (fun q a b => hn q a (by omega))
    have hlt : p + k < items.length := by omega
    have hs := stepI G.run (List.getElem?_eq_getElem hlt)
    have hnh := hn (p + k) (by omega) (by omega)
    have hcl : clsOf (items[p + k]).1.k ≠ .heavy := fun e => hnh ⟨_, List.getElem?_eq_getElem hlt, e⟩
    rw [show p + (k + 1) = (p + k) + 1 by omega]
    generalize items[p + k] = it at hs hcl
    obtain ⟨c, bb⟩ := it
    simp only at hs hcl
    generalize hA : s (p + k) = A at hs h1 h2 h3 h4 h5 h6 h7
    generalize hB : s (p + k + 1) = B at hs
    cases hs with
    | heavy => exact absurd rfl hcl
    | alloc hw hf ht =>
      refine ⟨h1, h2, h3, h4, h5, fun x hx => ?_, fun x hx => .tail _ (h7 x hx)⟩
      cases hx with
      | head => exact .inr (Nat.le_add_right _ _)
      | tail _ hx => exact h6 x hx
    | skip => exact ⟨h1, h2, h3, h4, h5, h6, h7⟩
    | pure => exact ⟨h1, h2, h3, h4, h5, h6, h7⟩
    | read => exact ⟨h1, h2, h3, h4, h5, h6, h7⟩
end
end
end Go.Sh

/- The shadow machine: regions that draw their order, seventh part: temporaries, whatever was done by then. -/
namespace Go.Sh
set_option linter.unusedSimpArgs false
set_option linter.unusedVariables false
set_option linter.unusedSectionVars false
noncomputable section
variable {P : Program} {E : Env} {R : Rec}

/-- Temporaries, where those of D are done. -/
structure TInv (ops : Array Oper) (s : Nat → DSt) (nt : Nat) (D : Nat → Prop) (arr : Array Value) (β : Bij) : Prop where
  lt : ∀ j, D j → j < ops.size
  down : ∀ j i, D j → ahead ops j i → D i
  size : nt ≤ arr.size
  val : ∀ t q, q ≤ ops.size → (∀ (i : Nat) (o : Oper), i < q → ops[i]? = some o → o.dst = some t → D i) → (∀ (i : Nat) (o : Oper), D i → ops[i]? = some o → o.dst = some t → i < q) → VR β (ev (s q).tm (.t t)) (arr.getD t undef)
/-- Another one that may be done. -/
def Next? (ops : Array Oper) (D : Nat → Prop) (j : Nat) : Prop := ¬ D j ∧ ∃ o, ops[j]? = some o ∧ ∀ e ∈ o.after.toList, Region.binds .any e = true → D e.on
section
variable {fid nt : Nat} {l : Option Nat} {ops : Array Oper} {items : List (COp × Nat)} {base : Nat} {s : Nat → DSt} (G : Reg P E R fid nt l ops items base s)
    {D : Nat → Prop} {arr : Array Value} {β : Bij}
include G
theorem TInv.mono {β' : Bij} (h : TInv ops s nt D arr β) (he : Ext β β') : TInv ops s nt D arr β' := ⟨h.lt, h.down, h.size, fun t q a b c => (h.val t q a b c).mono he⟩
theorem ahead_done (h : TInv ops s nt D arr β) {j : Nat} (hj : Next? ops D j) {i : Nat} (ha : ahead ops j i) : D i := by
  obtain ⟨_, o, ho, he⟩ := hj
  obtain ⟨e, h1, h2, h3, h4⟩ := ahead_spec G.edges (by rw [Array.getElem?_toList]; exact ho) ha
  rcases h4 with h4 | h4
  · rw [← h4]; exact he e h1 h2
  · exact h.down _ _ (he e h1 h2) h4
/-- What an operation that may be done names is as it would be in the text's order. -/
theorem named_ok (h : TInv ops s nt D arr β) {j : Nat} {o : Oper} (hj : Next? ops D j) (ho : ops[j]? = some o) {t : Nat} (ht : t ∈ namesOf ops.toList o) : VR β (ev (s j).tm (.t t)) (arr.getD t undef) := by
  have hlt : j < ops.size := (Array.getElem?_eq_some_iff.1 ho).1
  refine h.val t j (by omega) (fun i p hi hp hd => ?_) (fun i p hi hp hd => ?_)
  · rcases G.apart' hi ho hp with h1 | h1
    · exact ahead_done G h hj h1
    · exact absurd ht (h1.1 t hd)
  · rcases Nat.lt_trichotomy i j with h1 | h1 | h1
    · exact h1
    · subst h1; exact absurd hi hj.1
    · rcases G.apart' h1 hp ho with h2 | h2
      · exact absurd (h.down i j hi h2) hj.1
      · exact absurd ht (h2.2 t hd)
theorem opE_ok (hg : GB β) (h : TInv ops s nt D arr β) {j : Nat} {o : Oper} (hj : Next? ops D j) (ho : ops[j]? = some o) {ds : List Deferred} : OpE β (s j).tm ⟨arr, ds⟩ o.op := by
  intro p hp x hx
  cases p with
  | tmp t =>
    simp [xOf] at hx; subst hx
    refine named_ok G h hj ho ?_
    simp only [namesOf, Oper.looksAt, List.mem_append, List.mem_filterMap]
    exact .inr (.inl ⟨.tmp t, by simpa using hp, rfl⟩)
  | const v =>
    simp only [xOf] at hx
    cases hc : cv v with
    | none => rw [hc] at hx; cases hx
    | some sv => rw [hc] at hx; cases hx; exact cv_VR hc
  | global g =>
    obtain ⟨h1, h2⟩ := ifB_some hx
    cases h2
    obtain ⟨n, hn⟩ := hg g (blt_lt h1)
    simp only [ev_v, VR, Act.eval]
    exact ⟨g, 0, n, hn, rfl⟩
  | func f => simp [xOf] at hx; subst hx; simp only [ev_v, VR, Act.eval]; exact ⟨#[], #[], rfl, VRs.nil, VRs.nil⟩
theorem want_ok (h : TInv ops s nt D arr β) {j : Nat} {o : Oper} (hj : Next? ops D j) (ho : ops[j]? = some o) {g : Go.Sh.G} (hg : GuardR ops o.guard g) : Region.wanted o (yielded ops arr) = want (s j).tm g := by
  refine want_eq hg fun d hd => named_ok G h hj ho ?_
  cases hgu : o.guard with
  | none =>
    rw [hgu] at hg
    have hg : g = .yes := hg
    subst hg
    rcases hd with hd | hd <;> cases hd
  | some q =>
    obtain ⟨m, wt⟩ := q
    rw [hgu] at hg
    simp only [GuardR] at hg
    cases hm : (ops[m]?).bind (·.dst) with
    | none => rw [hm] at hg; simp only at hg; subst hg; rcases hd with hd | hd <;> cases hd
    | some d' =>
      rw [hm] at hg; simp only at hg; subst hg
      have hdd : d' = d := by rcases hd with hd | hd <;> cases hd <;> rfl
      subst hdd
      simp only [namesOf, Oper.looksAt, List.mem_append, hgu]
      right; right
      have : (ops.toList.toArray[m]?).bind (·.dst) = some d' := by simpa using hm
      rw [this]; simp
theorem t_next (h : TInv ops s nt D arr β) {j : Nat} {o : Oper} (hj : Next? ops D j) (ho : ops[j]? = some o) (hlt : ∀ d, o.dst = some d → d < nt) {v : SV} {v' : Value} (hp : PutR (s j).tm o.dst v (s (j + 1)).tm) {β' : Bij} (he : Ext β β') (hv : VR β' v v')
    {ds : List Deferred} : TInv ops s nt (fun i => D i ∨ i = j) (Act.put ⟨arr, ds⟩ o.dst v').tmps β' := by
  have hjl : j < ops.size := (Array.getElem?_eq_some_iff.1 ho).1
  refine ⟨fun i hi => ?_, fun i m hi ha => ?_, ?_, fun t q hq h1 h2 => ?_⟩
  · rcases hi with hi | hi
    · exact h.lt i hi
    · subst hi; exact hjl
  · rcases hi with hi | hi
    · exact .inl (h.down i m hi ha)
    · subst hi; exact .inl (ahead_done G h hj ha)
  · cases hd : o.dst with
    | none => exact h.size
    | some d => simp only [Act.put]; simpa using h.size
  · by_cases hd : o.dst = some t
    · have hjq := h2 j o (.inr rfl) ho hd
      have hstay : (s q).tm.get t = (s (j + 1)).tm.get t := by
        obtain ⟨k, rfl⟩ : ∃ k, q = j + 1 + k := ⟨q - (j + 1), by omega⟩
        have hpl : (plans items 0 [] []).length = items.length := by
          have : ∀ (l : List (COp × Nat)) (i : Nat) (a b : List Nat), (plans l i a b).length = l.length := by
            intro l
            induction l with
            | nil => intro i a b; rfl
            | cons p l ih => intro i a b; obtain ⟨c, bb⟩ := p; simp only [plans]; cases clsOf c.k <;> simp [ih]
          exact this _ _ _ _
        refine tm_stays G.run (i := j + 1) (k := k) (by rw [hpl, G.len]; exact hq) (fun i c p hi1 hi2 hpi hci => ?_)
        have hil : i < items.length := by rw [← hpl]; exact (List.getElem?_eq_some_iff.1 hpi).1
        obtain ⟨oi, ci, a1, a2, a3⟩ := G.oper hil
        have hps := plans_spec items i 0
        simp only [List.drop_zero, hvAt, alAt, Nat.zero_add] at hps
        rw [hpi, a2] at hps
        simp only [Option.map_some, Option.some.injEq, Prod.mk.injEq] at hps
        rw [hps.1, a3.dst] at hci
        have hDi : D i := by
          rcases h1 i oi (by omega) a1 hci with h3 | h3
          · exact h3
          · omega
        rcases G.apart' (show j < i by omega) a1 ho with h3 | h3
        · exact hj.1 (h.down i j hDi h3)
        · exact h3.1 t hd (by simp only [namesOf, List.mem_append]; left; rw [hci]; simp)
      rw [ev_t, hstay, hp t, if_pos hd]
      have htn : t < arr.size := Nat.lt_of_lt_of_le (hlt t hd) h.size
      rw [hd]
      simp only [Act.put, Option.getD_some]
      have : (arr.setIfInBounds t v').getD t undef = v' := by simp [htn]
      rw [this]; exact hv
    · have hsame : (Act.put ⟨arr, ds⟩ o.dst v').tmps.getD t undef = arr.getD t undef := by
        cases hd' : o.dst with
        | none => rfl
        | some d =>
          have hne : d ≠ t := fun e => hd (by rw [hd', e])
          simp [Act.put, Array.getElem?_setIfInBounds_ne hne]
      rw [hsame]
      refine (h.val t q hq (fun i p hi hp' hdp => ?_) (fun i p hi hp' hdp => h2 i p (.inl hi) hp' hdp)).mono he
      rcases h1 i p hi hp' hdp with h3 | h3
      · exact h3
      · subst h3; rw [ho] at hp'; cases hp'; exact absurd hdp hd
end
end
end Go.Sh

/- The shadow machine: regions that draw their order, eighth part: memory, whatever was done by then. -/
namespace Go.Sh
set_option linter.unusedSimpArgs false
set_option linter.unusedVariables false
set_option linter.unusedSectionVars false
noncomputable section
variable {P : Program} {E : Env} {R : Rec}

/-- A block that is made, and not told of. -/
theorem HR.push {S : Sites} {β : Bij} {H : Tr SO} {n b : Nat} {w w' : World} {x : Obj} (h : HR S β H n w) (hb : β b = none) (hn : b < n) (hh : w'.heap = w.heap.push x) (e : Nat × Nat × Nat) : HR S (upd β b e) H n w' := by
  have hext := Ext.upd e hb
  have hget : ∀ c o, H.get c = some o → c ≠ b := fun c o hc he => by subst he; rw [h.free hb] at hc; cases hc
  refine ⟨fun c o hc => ?_, fun c f hc => ?_, fun c c' o o' f f' hc hc' hne hr hf hf' => ?_, fun q hq => let ⟨k, hk⟩ := h.glob q hq; ⟨k, hext _ _ hk⟩⟩
  · obtain ⟨k, sh, m, h1, h2⟩ := h.alive c o hc
    refine ⟨k, sh, m, hext _ _ h1, ?_⟩
    obtain ⟨y, hy⟩ := h2.there
    have hk : k < w.heap.size := (Array.getElem?_eq_some_iff.1 hy).1
    rw [hh, Array.getElem?_push, if_neg (by omega)]
    exact h2.mono hext
  · by_cases q : c = b
    · omega
    · rw [upd_ne _ _ q] at hc; exact h.dom c f hc
  · rw [upd_ne _ _ (hget c o hc)] at hf
    rw [upd_ne _ _ (hget c' o' hc')] at hf'
    exact h.inj c c' o o' f f' hc hc' hne hr hf hf'
theorem FR.push {S : Sites} {β0 β : Bij} {H0 H : Tr SO} {n b : Nat} {w0 w w' : World} {x : Obj} (h : FR β0 H0 w0 β H w) (hr : HR S β H n w) (hb : β b = none) (hlt : ∀ d f, β0 d = some f → d < b) (hh : w'.heap = w.heap.push x)
    (ho : w'.os = w.os) (ht : w'.tape = w.tape) (hu : w'.output = w.output) (e : Nat × Nat × Nat) : FR β0 H0 w0 (upd β b e) H w' := by
  have hget : ∀ c o, H.get c = some o → c ≠ b := fun c o hc he => by subst he; rw [hr.free hb] at hc; cases hc
  refine ⟨ho.trans h.os, ht.trans h.tape, hu.trans h.output, by rw [hh]; have := h.size; simp; omega, h.ext.trans (Ext.upd e hb), fun k hk hn => ?_, fun k hk hown => ?_, fun c f hc => ?_, fun k hk hl => ?_⟩
  · have := h.size
    rw [hh, Array.getElem?_push, if_neg (by omega)]; exact h.keep k hk hn
  · obtain ⟨c, o, f, h1, h2, h3, h4⟩ := hown
    rw [upd_ne _ _ (hget c o h1)] at h3
    exact h.own k hk ⟨c, o, f, h1, h2, h3, h4⟩
  · by_cases q : c = b
    · subst q; exact .inr hlt
    · rw [upd_ne _ _ q] at hc; exact h.fresh c f hc
  · obtain ⟨c, o, f, h1, h3, h4⟩ := hl
    rw [upd_ne _ _ (hget c o h1)] at h3
    exact h.alv k hk ⟨c, o, f, h1, h3, h4⟩
theorem Live.upd {β : Bij} {H : Tr SO} {b k : Nat} {e : Nat × Nat × Nat} (hb : H.get b = none) : Live (upd β b e) H k ↔ Live β H k := by
  constructor
  · rintro ⟨c, o, f, h1, h2, h3⟩
    have : c ≠ b := fun x => by subst x; rw [hb] at h1; cases h1
    rw [upd_ne _ _ this] at h2
    exact ⟨c, o, f, h1, h2, h3⟩
  · rintro ⟨c, o, f, h1, h2, h3⟩
    have : c ≠ b := fun x => by subst x; rw [hb] at h1; cases h1
    exact ⟨c, o, f, h1, by rw [upd_ne _ _ this]; exact h2, h3⟩

/-- A block that is made, and that no heavy operation is told of by then. -/
def Open (s : Nat → DSt) (p i : Nat) : Prop := p ≤ i ∨ ∃ x ∈ (s p).pend, x.i = i
/-- Memory, where the heavy operations ahead of p are done. -/
structure MInv (S : Sites) (items : List (COp × Nat)) (base : Nat) (s : Nat → DSt) (kind : CallKind) (cs0 : List Frame) (β0 : Bij) (h0 : Tr SO) (w0 : World) (H : Tr SO) (sds : List SDef) (n : Nat) (rc : RC) (Op D : Nat → Prop) (ds : List Deferred) (cl : List Frame) (w : World) (β : Bij) : Prop where
  low : ∀ d f, β0 d = some f → d < base
  ghost : ∃ e, β (base + items.length) = some e
  free : ∀ i, i < items.length → ¬ D i → β (base + i) = none
  hr : HR S β H n w
  fr : FR β0 h0 w0 β H w
  ds : DRs β sds ds
  cs : CsR β kind cs0 rc cl
  ok : ∀ i o, D i → AllocAt items s i o → Op i → ∃ e, β (base + i) = some e ∧ w0.heap.size ≤ e.1 ∧ OR S β o e.2.1 e.2.2 w.heap[e.1]? ∧ ¬ Live β H e.1
  apart : ∀ i j o o', D i → D j → AllocAt items s i o → AllocAt items s j o' → Op i → Op j → i ≠ j → ∀ e f, β (base + i) = some e → β (base + j) = some f → e.1 ≠ f.1
section
variable {fid nt : Nat} {l : Option Nat} {ops : Array Oper} {items : List (COp × Nat)} {base : Nat} {s : Nat → DSt} (Γ : Reg P E R fid nt l ops items base s)
    {S : Sites} {kind : CallKind} {cs0 : List Frame} {β0 : Bij} {h0 : Tr SO} {w0 : World} {H : Tr SO} {sds : List SDef} {n : Nat} {rc : RC} {Op D : Nat → Prop} {ds : List Deferred} {cl : List Frame} {w : World} {β : Bij}
include Γ
theorem alloc_kind {i : Nat} {o : SO} (h : AllocAt items s i o) : ¬ HeavyAt items i := by
  obtain ⟨dst, g, f, b, sh, h1, _⟩ := h
  rintro ⟨it, e, h2⟩
  rw [h1] at e; cases e; cases h2
theorem m_still (h : MInv S items base s kind cs0 β0 h0 w0 H sds n rc Op D ds cl w β) {j : Nat} (ha : ∀ o, ¬ AllocAt items s j o) : MInv S items base s kind cs0 β0 h0 w0 H sds n rc Op (fun i => D i ∨ i = j) ds cl w β := by
  have hd : ∀ {i o}, (D i ∨ i = j) → AllocAt items s i o → D i := fun hi ho => by
    rcases hi with hi | hi
    · exact hi
    · subst hi; exact absurd ho (ha _)
  exact ⟨h.low, h.ghost, fun i hi hn' => h.free i hi fun x => hn' (.inl x), h.hr, h.fr, h.ds, h.cs, fun i o hi ho hop => h.ok i o (hd hi ho) ho hop, fun i j' o o' hi hj' ho ho' => h.apart i j' o o' (hd hi ho) (hd hj' ho') ho ho'⟩
theorem m_alloc (h : MInv S items base s kind cs0 β0 h0 w0 H sds n rc Op D ds cl w β) {j : Nat} (hjl : j < items.length) (hj : ¬ D j) {o : SO} (ha : AllocAt items s j o) {x : Obj} {m : Nat} {w' : World} (hh : w'.heap = w.heap.push x) (ho : w'.os = w.os) (ht : w'.tape = w.tape) (hu : w'.output = w.output)
    (hor : OR S (upd β (base + j) (w.heap.size, 0, m)) o 0 m (some x)) : MInv S items base s kind cs0 β0 h0 w0 H sds n rc Op (fun i => D i ∨ i = j) ds cl w' (upd β (base + j) (w.heap.size, 0, m)) := by
  have hfree := h.free j hjl hj
  have hext := Ext.upd (w.heap.size, 0, m) hfree
  have hgn : H.get (base + j) = none := h.hr.free hfree
  obtain ⟨eg, hg⟩ := h.ghost
  have hbn : base + j < n := by have := h.hr.dom _ _ hg; omega
  have hne : ∀ {i}, i ≠ j → base + i ≠ base + j := fun a => by omega
  have old : ∀ {i o'}, D i → AllocAt items s i o' → Op i → ∃ e, β (base + i) = some e ∧ upd β (base + j) (w.heap.size, 0, m) (base + i) = some e ∧ e.1 < w.heap.size ∧ w0.heap.size ≤ e.1 ∧ OR S β o' e.2.1 e.2.2 w.heap[e.1]? ∧ ¬ Live β H e.1 := by
    intro i o' hi ho' hop
    obtain ⟨e, e1, e2, e3, e4⟩ := h.ok i o' hi ho' hop
    obtain ⟨y, hy⟩ := e3.there
    exact ⟨e, e1, hext _ _ e1, (Array.getElem?_eq_some_iff.1 hy).1, e2, e3, e4⟩
  refine ⟨h.low, ⟨eg, hext _ _ hg⟩, fun i hi hn' => ?_, h.hr.push hfree hbn hh _, h.fr.push h.hr hfree (fun d f hd => by have := h.low d f hd; omega) hh ho ht hu _, h.ds.mono hext, h.cs.mono hext, fun i o' hi ho' hop => ?_, fun i i' o1 o2 hi hi' ho1 ho2 hop hop' hii e f he hf => ?_⟩
  · rw [upd_ne _ _ (hne fun e => hn' (.inr e))]; exact h.free i hi fun x => hn' (.inl x)
  · by_cases c : i = j
    · subst c
      refine ⟨_, upd_self _ _ _, h.fr.size, ?_, ?_⟩
      · have : o' = o := by
          obtain ⟨a1, a2, a3, a4, a5, b1, b2, b3⟩ := ho'
          obtain ⟨c1, c2, c3, c4, c5, d1, d2, d3⟩ := ha
          rw [b1] at d1; cases d1; rw [b3] at d3; cases d3; rfl
        subst this
        rw [hh]; simpa using hor
      · rw [Live.upd hgn]
        rintro ⟨b', q, f, h1, h2, h3⟩
        have := (h.hr.block h1 h2).1
        simp only at h3; omega
    · obtain ⟨e, e1, e2, e3, e4, e5, e6⟩ := old (hi.resolve_right c) ho' hop
      refine ⟨e, e2, e4, ?_, ?_⟩
      · rw [hh, Array.getElem?_push, if_neg (by omega)]; exact e5.mono hext
      · rw [Live.upd hgn]; exact e6
  · by_cases c : i = j
    · subst c
      rw [upd_self] at he; cases he
      obtain ⟨f', e1, e2, e3, _⟩ := old (hi'.resolve_right fun e => hii e.symm) ho2 hop'
      rw [e2] at hf; cases hf
      simp only; omega
    · obtain ⟨e', e1, e2, e3, _⟩ := old (hi.resolve_right c) ho1 hop
      rw [e2] at he; cases he
      by_cases c' : i' = j
      · subst c'
        rw [upd_self] at hf; cases hf
        simp only; omega
      · obtain ⟨f', g1, g2, g3, _⟩ := old (hi'.resolve_right c') ho2 hop'
        rw [g2] at hf; cases hf
        exact h.apart i i' o1 o2 (hi.resolve_right c) (hi'.resolve_right c') ho1 ho2 hop hop' hii _ _ e1 g1
end
end
end Go.Sh

/- The shadow machine: regions that draw their order, ninth part: heavy operations. -/
namespace Go.Sh
set_option linter.unusedSimpArgs false
set_option linter.unusedVariables false
set_option linter.unusedSectionVars false
noncomputable section
variable {P : Program} {E : Env} {R : Rec}
section
variable {fid nt : Nat} {l : Option Nat} {ops : Array Oper} {items : List (COp × Nat)} {base : Nat} {s : Nat → DSt} (Γ : Reg P E R fid nt l ops items base s)
    {S : Sites} {kind : CallKind} {cs0 : List Frame} {β0 : Bij} {h0 : Tr SO} {w0 : World} {H : Tr SO} {sds : List SDef} {n : Nat} {rc : RC} {Op D : Nat → Prop} {ds : List Deferred} {cl : List Frame} {w : World} {β : Bij}
include Γ
theorem m_pend (h : MInv S items base s kind cs0 β0 h0 w0 H sds n rc Op D ds cl w β) {j : Nat} (hjl : j ≤ items.length) (hp : ∀ x ∈ (s j).pend, Op x.i) : PendOk S β H w0 w (s j).pend D := by
  obtain ⟨g1, g2⟩ := Γ.pend hjl
  refine ⟨fun x hx hD => ?_, fun x hx y hy hD hD' hne e f he hf => ?_, g2⟩
  · obtain ⟨_, a2, a3⟩ := g1 x hx
    rw [a2]
    exact h.ok x.i x.o hD a3 (hp x hx)
  · obtain ⟨_, a2, a3⟩ := g1 x hx
    obtain ⟨_, b2, b3⟩ := g1 y hy
    rw [a2] at he; rw [b2] at hf
    exact h.apart x.i y.i x.o y.o hD hD' a3 b3 (hp x hx) (hp y hy) hne e f he hf
/-- Blocks are told of. -/
theorem m_commit (h : MInv S items base s kind cs0 β0 h0 w0 H sds n rc Op D ds cl w β) {j : Nat} (hjl : j ≤ items.length) (hp : ∀ x ∈ (s j).pend, Op x.i) {cl' : List Nat} {h' : Tr SO} {pend' : List Pend}
    (hc : CommitR H (s j).pend cl' h' pend') (hcl : ∀ i ∈ cl', D i) {Op' : Nat → Prop} (ho : ∀ i, Op' i → Op i ∧ ∀ x ∈ (s j).pend, x.i ∈ cl' → x.i ≠ i) : MInv S items base s kind cs0 β0 h0 w0 h' sds n rc Op' D ds cl w β := by
  have hpd := m_pend Γ h hjl hp
  obtain ⟨r1, r2, r3, r4, r5⟩ := commit_ok hc hcl h.hr h.fr hpd
  obtain ⟨g1, g2⟩ := Γ.pend hjl
  refine ⟨h.low, h.ghost, h.free, r1, r2, h.ds, h.cs, fun i o hi ha hop => ?_, fun i i' o o' hi hi' ha ha' hop hop' => h.apart i i' o o' hi hi' ha ha' (ho i hop).1 (ho i' hop').1⟩
  obtain ⟨e, f1, f2, f3, f4⟩ := h.ok i o hi ha (ho i hop).1
  refine ⟨e, f1, f2, f3, fun hl => ?_⟩
  rcases r5 e.1 hl with hl | ⟨x, x1, x2, f, g, k⟩
  · exact f4 hl
  · obtain ⟨_, a2, a3⟩ := g1 x x1
    rw [a2] at g
    exact h.apart x.i i x.o o (hcl _ x2) hi a3 ha (hp x x1) (ho i hop).1 ((ho i hop).2 x x1 x2) f e g f1 k
/-- A heavy operation is done. -/
theorem m_run (h : MInv S items base s kind cs0 β0 h0 w0 H sds n rc Op D ds cl w β) {j : Nat} (hj : ∀ o, ¬ AllocAt items s j o) {β' : Bij} {H1 : Tr SO} {sds1 : List SDef} {n1 : Nat} {rc1 : RC} {w1 : World} {ds1 : List Deferred} {cls1 : List Frame}
    (hr1 : HR S β' H1 n1 w1) (hf1 : FR β H w β' H1 w1) (hd1 : DRs β' sds1 ds1) (hc1 : CsR β' kind cs0 rc1 cls1) : MInv S items base s kind cs0 β0 h0 w0 H1 sds1 n1 rc1 Op (fun i => D i ∨ i = j) ds1 cls1 w1 β' := by
  obtain ⟨eg, hg⟩ := h.ghost
  have hD : ∀ {i o}, (D i ∨ i = j) → AllocAt items s i o → D i := fun hi ho => by
    rcases hi with hi | hi
    · exact hi
    · subst hi; exact absurd ho (hj _)
  refine ⟨h.low, ⟨eg, hf1.ext _ _ hg⟩, fun i hi hn => ?_, hr1, h.fr.trans hf1, hd1, hc1, fun i o hi ho hop => ?_, fun i i' o o' hi hi' ho ho' hop hop' hne e f he hf => ?_⟩
  · have hb := h.free i hi fun x => hn (.inl x)
    cases hx : β' (base + i) with
    | none => rfl
    | some e =>
      rcases hf1.fresh _ _ hx with h1 | h1
      · rw [hb] at h1; cases h1
      · have := h1 _ _ hg; omega
  · have hi := hD hi ho
    obtain ⟨e, f1, f2, f3, f4⟩ := h.ok i o hi ho hop
    obtain ⟨y, hy⟩ := f3.there
    have hlt : e.1 < w.heap.size := (Array.getElem?_eq_some_iff.1 hy).1
    refine ⟨e, hf1.ext _ _ f1, f2, ?_, fun hl => f4 (hf1.alv e.1 hlt hl)⟩
    rw [hf1.keep e.1 hlt fun ho => f4 ho.live]
    exact f3.mono hf1.ext
  · have hi := hD hi ho
    have hi' := hD hi' ho'
    obtain ⟨e0, f1, _⟩ := h.ok i o hi ho hop
    obtain ⟨f0, f2, _⟩ := h.ok i' o' hi' ho' hop'
    rw [hf1.ext _ _ f1] at he; cases he
    rw [hf1.ext _ _ f2] at hf; cases hf
    exact h.apart i i' o o' hi hi' ho ho' hop hop' hne _ _ f1 f2
omit Γ in
/-- The same memory by another name. -/
theorem m_same (h : MInv S items base s kind cs0 β0 h0 w0 H sds n rc Op D ds cl w β) {H' : Tr SO} (hg : ∀ q, H'.get q = H.get q) {Op' : Nat → Prop} (ho : ∀ i, Op' i → Op i) : MInv S items base s kind cs0 β0 h0 w0 H' sds n rc Op' D ds cl w β := by
  have hl : ∀ k, Live β H' k → Live β H k := fun k ⟨b, o, e, h1, h2, h3⟩ => ⟨b, o, e, by rw [← hg b]; exact h1, h2, h3⟩
  refine ⟨h.low, h.ghost, h.free, ⟨fun b o hb => h.hr.alive b o (by rw [← hg b]; exact hb), h.hr.dom, fun b b' o o' e e' hb hb' => h.hr.inj b b' o o' e e' (by rw [← hg b]; exact hb) (by rw [← hg b']; exact hb'), h.hr.glob⟩, ?_, h.ds, h.cs, fun i o hi ha hop => ?_, fun i i' o o' hi hi' ha ha' hop hop' => h.apart i i' o o' hi hi' ha ha' (ho i hop) (ho i' hop')⟩
  · exact ⟨h.fr.os, h.fr.tape, h.fr.output, h.fr.size, h.fr.ext, h.fr.keep, fun k hk ⟨b, o, e, h1, h2⟩ => h.fr.own k hk ⟨b, o, e, by rw [← hg b]; exact h1, h2⟩, h.fr.fresh, fun k hk hlv => h.fr.alv k hk (hl k hlv)⟩
  · obtain ⟨e, f1, f2, f3, f4⟩ := h.ok i o hi ha (ho i hop)
    exact ⟨e, f1, f2, f3, fun hlv => f4 (hl _ hlv)⟩
end
end
end Go.Sh
