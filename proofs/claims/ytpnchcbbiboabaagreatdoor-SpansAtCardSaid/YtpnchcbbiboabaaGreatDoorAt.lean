/- The walks of SpansAt's functions. -/
import Derived.Test.YtpnchcbbiboabaaGreatDoorProg
import Derived.WalkKit
import Derived.LoopTactic
import Derived.Lib.Hide
import Derived.Lib.SliceRun
import Derived.OwnWalk
namespace Go.Proofs.YtpnchcbbiboabaaGreatDoor
open Go Go.RowKit Go.Lib
set_option maxHeartbeats 1000000
/-- Spans that lie in memory. -/
structure Spans (w : World) (b off n : Nat) (F T : Nat → Int) : Prop where
  f : ∀ j, j < n → w.cell? ⟨b, off + j * 3, none⟩ = some (.int .i64 (F j))
  t : ∀ j, j < n → w.cell? ⟨b, off + j * 3 + 1, none⟩ = some (.int .i64 (T j))
  c : ∀ j, j < n → ∃ x, w.cell? ⟨b, off + j * 3 + 2, none⟩ = some (.int .i64 x)
theorem Spans.below {w w' : World} {b off n : Nat} {F T : Nat → Int} (h : Spans w b off n F T) (hb : b < w.heap.size) (k : Below w.heap.size w w') : Spans w' b off n F T :=
  ⟨fun j hj => (k.cell (p := ⟨b, off + j * 3, none⟩) hb).trans (h.f j hj), fun j hj => (k.cell (p := ⟨b, off + j * 3 + 1, none⟩) hb).trans (h.t j hj), fun j hj => let ⟨x, hx⟩ := h.c j hj; ⟨x, (k.cell (p := ⟨b, off + j * 3 + 2, none⟩) hb).trans hx⟩⟩
def atB (x F T : Int) : Bool := decide (F ≤ x) && decide (x < T)
theorem at_in (x F T C : Int) (B : Nat) (w : World) (hB : B < w.heap.size) (hc : w.cell? ⟨B, 0, none⟩ = some (.int .i64 x)) :
    Calls Tryz.prog 14 #[.agg #[.int .i64 F, .int .i64 T, .int .i64 C], .pointer (some ⟨B, 0, none⟩)] w fun e w' => e = .returned (.bool (atB x F T)) ∧ Below w.heap.size w w' := by
  have hne : B ≠ w.heap.size := by omega
  go_enter Tryz.func14, Tryz.ntmps14
  go_wp2
  all_goals (go_ret; exact ⟨by simp_all [atB] <;> omega, (Below.refl _ _).alloc (Nat.le_refl _) _⟩)
/-- Where the first span is that holds a place. -/
def FirstAt (x : Int) (F T : Nat → Int) (n : Nat) (r : Int) : Prop := (r = -1 ∧ ∀ j, j < n → atB x (F j) (T j) = false) ∨ ∃ k : Nat, k < n ∧ r = k ∧ atB x (F k) (T k) = true
def Idx (x : Int) (F T : Nat → Int) (n : Nat) (w : World) (e : Ending) (w' : World) : Prop := ∃ r : Int, FirstAt x F T n r ∧ e = .returned (.int .i64 r) ∧ Below w.heap.size w w'
theorem idx_any (b off n c : Nat) (ao : Option Addr) (F T : Nat → Int) (x : Int) (B : Nat) (w : World) (hao : 0 < n → ao = some ⟨b, off, none⟩) (hn : n ≤ 9223372036854775807) (hb : 0 < n → b < w.heap.size) (hs : Spans w b off n F T) (hB : B < w.heap.size)
    (hc : w.cell? ⟨B, 0, none⟩ = some (.int .i64 x)) :
    Calls Tryz.prog 13 #[.slice ao n c, .func (.func 14) #[] #[.pointer (some ⟨B, 0, none⟩)]] w (Idx x F T n w) := by
  go_enter Tryz.func13, Tryz.ntmps13
  go_wp2
  go_loopw [8] (fun i wr => ∃ k : Nat, k ≤ n ∧ i = .int .i64 k ∧ (∀ j, j < k → atB x (F j) (T j) = false) ∧ Below w.heap.size w wr) (fun i _ => n - (intOf i).toNat)
  case atStart => exact ⟨0, Nat.zero_le _, rfl, fun j hj => absurd hj (Nat.not_lt_zero _), Below.refl _ _⟩
  case round =>
    obtain ⟨k, hk, rfl, hno, hbl⟩ := hrel
    have HN := Lib.hid hno; clear hno
    by_cases hlt : k < n
    · obtain rfl := hao (by omega)
      have hs' := hs.below (hb (by omega)) hbl
      have h1 := hs'.f k hlt
      have h2 := hs'.t k hlt
      obtain ⟨z, h3⟩ := hs'.c k hlt
      have hcl := at_in x (F k) (T k) z B wr (Nat.lt_of_lt_of_le hB hbl.size) ((hbl.cell (p := ⟨B, 0, none⟩) hB).trans hc)
      have HC := Lib.hid hcl; clear hcl
      cases hab : atB x (F k) (T k) with
      | true =>
        have HA := Lib.hid hab
        rw [hab] at HC; clear hab
        clear hs'
        go_wp2_with (go_at_call 14; refine HC.out.mono ?_; rintro e w' ⟨rfl, hb'⟩)
        go_ret
        exact ⟨k, .inr ⟨k, hlt, rfl, HA.out⟩, rfl, hbl.trans (hb'.mono hbl.size)⟩
      | false =>
        have HA := Lib.hid hab
        rw [hab] at HC; clear hab
        clear hs'
        go_wp2_with (go_at_call 14; refine HC.out.mono ?_; rintro e w' ⟨rfl, hb'⟩)
        go_roundw
        case rel =>
          refine ⟨k + 1, by omega, by go_num, fun j hj => ?_, hbl.trans (hb'.mono hbl.size)⟩
          rcases Nat.lt_or_ge j k with h | h
          · exact HN.out j h
          · obtain rfl : j = k := by omega
            exact HA.out
        case measure => simp [intOf]; omega
    · go_wp2
      go_ret
      obtain rfl : k = n := by omega
      exact ⟨-1, .inl ⟨rfl, HN.out⟩, rfl, hbl⟩
theorem at_any (b off n c : Nat) (ao : Option Addr) (F T : Nat → Int) (x : Int) (w : World) (hao : 0 < n → ao = some ⟨b, off, none⟩) (hn : n ≤ 9223372036854775807) (hb : 0 < n → b < w.heap.size) (hs : Spans w b off n F T) :
    Calls Tryz.prog 7 #[.slice ao n c, .int .i64 x] w (Idx x F T n w) := by
  have hcon := idx_any b off n c ao F T x w.heap.size (w.alloc (.cells #[.int .i64 x] 3)) hao hn (fun h => by have := hb h; simp; omega)
    (by
      rcases Nat.eq_zero_or_pos n with h | h
      · subst h; exact ⟨fun j hj => absurd hj (Nat.not_lt_zero _), fun j hj => absurd hj (Nat.not_lt_zero _), fun j hj => absurd hj (Nat.not_lt_zero _)⟩
      · exact hs.below (hb h) ((Below.refl _ _).alloc (Nat.le_refl _) _)) (by simp) (by simp)
  have HC := Lib.hid hcon; clear hcon hs
  go_enter Tryz.func7, Tryz.ntmps7
  go_wp2_with (go_at_call 13; refine HC.out.mono ?_; rintro e w' ⟨r, hr, rfl, hb'⟩)
  go_ret
  exact ⟨r, hr, rfl, ((Below.refl _ w).alloc (Nat.le_refl _) _).trans (hb'.mono (by simp))⟩
/-- In order, from the k-th on. -/
def cov (F T : Nat → Int) (x : Int) : Nat → Option Int
  | 0 => some x
  | k + 1 => match cov F T x k with
    | some y => if F k < y ∨ T k < F k then none else some (T k)
    | none => none
def covB (F T : Nat → Int) (x y : Int) (n : Nat) : Bool := match cov F T x n with
  | some z => decide (z ≤ y)
  | none => false
theorem cov_none (F T : Nat → Int) (x : Int) {k : Nat} (h : cov F T x k = none) : ∀ m, cov F T x (k + m) = none
  | 0 => h
  | m + 1 => by rw [show k + (m + 1) = (k + m) + 1 by omega, cov, cov_none F T x h m]
theorem cover_any (b off n c : Nat) (ao : Option Addr) (F T : Nat → Int) (x y : Int) (w : World) (hao : 0 < n → ao = some ⟨b, off, none⟩) (hn : n ≤ 9223372036854775807) (hb : 0 < n → b < w.heap.size) (hs : Spans w b off n F T) :
    Calls Tryz.prog 6 #[.slice ao n c, .int .i64 x, .int .i64 y] w fun e w' => e = .returned (.bool (covB F T x y n)) ∧ Below w.heap.size w w' := by
  go_enter Tryz.func6, Tryz.ntmps6
  go_wp2
  go_loopw [1, 11] (fun v i wr => ∃ (k : Nat) (z : Int), k ≤ n ∧ i = .int .i64 k ∧ v = .int .i64 z ∧ Hid (cov F T x k = some z) ∧ Below w.heap.size w wr) (fun _ i _ => n - (intOf i).toNat)
  case atStart => exact ⟨0, x, Nat.zero_le _, rfl, rfl, Lib.hid rfl, Below.refl _ _⟩
  case round =>
    obtain ⟨k, z, hk, rfl, rfl, hz, hbl⟩ := hrel
    by_cases hlt : k < n
    · obtain rfl := hao (by omega)
      have hs' := hs.below (hb (by omega)) hbl
      have h1 := hs'.f k hlt
      have h2 := hs'.t k hlt
      obtain ⟨q, h3⟩ := hs'.c k hlt
      clear hs'
      have hbw : b < wr.heap.size := Nat.lt_of_lt_of_le (hb (by omega)) hbl.size
      go_wp2
      case roundEnd =>
        rename_i hw
        go_roundw
        case rel => exact ⟨k + 1, T k, by omega, by go_num, rfl, Lib.hid (by rw [cov, hz.out]; simp only; rw [if_neg (by omega)]), (hbl.alloc hbl.size _)⟩
        case measure => simp [intOf]; omega
      all_goals
        go_ret
        refine ⟨?_, hbl.alloc hbl.size _⟩
        have hno : cov F T x (k + 1) = none := by rw [cov, hz.out]; simp only; rw [if_pos (by omega)]
        have := cov_none F T x hno (n - (k + 1))
        rw [show k + 1 + (n - (k + 1)) = n by omega] at this
        simp [covB, this]
    · go_wp2
      go_ret
      obtain rfl : k = n := by omega
      exact ⟨by simp [covB, hz.out], hbl⟩
/-- What it says of spans that they are in order. -/
theorem cov_some {F T : Nat → Int} {x : Int} : ∀ {n : Nat} {z : Int}, cov F T x n = some z → (∀ j, j < n → F j ≤ T j ∧ T j ≤ z) ∧ (∀ i j, i < j → j < n → T i ≤ F j)
  | 0, z, _ => ⟨fun j hj => absurd hj (Nat.not_lt_zero _), fun i j _ hj => absurd hj (Nat.not_lt_zero _)⟩
  | n + 1, z, h => by
    rw [cov] at h
    cases hc : cov F T x n with
    | none => rw [hc] at h; cases h
    | some y =>
      rw [hc] at h
      simp only at h
      split at h
      · cases h
      · rename_i hcond
        cases h
        obtain ⟨h1, h2⟩ := cov_some hc
        refine ⟨fun j hj => ?_, fun i j hi hj => ?_⟩
        · rcases Nat.lt_or_ge j n with c | c
          · have := h1 j c; omega
          · obtain rfl : j = n := by omega
            omega
        · rcases Nat.lt_or_ge j n with c | c
          · exact h2 i j hi c
          · obtain rfl : j = n := by omega
            have := h1 i hi; omega
theorem covB_one {F T : Nat → Int} {x y : Int} {n : Nat} (h : covB F T x y n = true) {p : Int} {i j : Nat} (hi : i < n) (hj : j < n) (hai : atB p (F i) (T i) = true) (haj : atB p (F j) (T j) = true) : i = j := by
  unfold covB at h
  cases hc : cov F T x n with
  | none => rw [hc] at h; cases h
  | some z =>
    obtain ⟨_, h2⟩ := cov_some hc
    simp only [atB, Bool.and_eq_true, decide_eq_true_eq] at hai haj
    rcases Nat.lt_trichotomy i j with c | c | c
    · have := h2 i j c hj; omega
    · exact c
    · have := h2 j i c hi; omega
/-- How many spans have the place, of the first k. -/
def many (r : Int) (k : Nat) : Int := if 0 ≤ r ∧ r < k then 1 else 0
theorem many_last {x : Int} {F T : Nat → Int} {n : Nat} {r : Int} (h : FirstAt x F T n r) : (many r n ≤ 1 ∧ (many r n = 1 ↔ 0 ≤ r)) ∧ r < n := by
  rcases h with ⟨rfl, _⟩ | ⟨k, h1, rfl, _⟩
  · simp [many]; omega
  · simp only [many]; split <;> omega
theorem spansAt_any (b off n c : Nat) (ao : Option Addr) (F T : Nat → Int) (x y p : Int) (w : World) (hao : 0 < n → ao = some ⟨b, off, none⟩) (hn : n ≤ 9223372036854775807) (hb : 0 < n → b < w.heap.size) (hs : Spans w b off n F T)
    (hworks : Calls Tryz.prog 5 #[] w fun e w' => e = .returned (.bool true) ∧ Below w.heap.size w w') :
    Calls Tryz.prog 3 #[.slice ao n c, .int .i64 x, .int .i64 y, .int .i64 p] w fun e w' => e = .returned (.bool true) ∧ Below w.heap.size w w' := by
  have HW := Lib.hid hworks; clear hworks
  have hbel : ∀ w', Below w.heap.size w w' → Spans w' b off n F T := fun w' h => by
    rcases Nat.eq_zero_or_pos n with h0 | h0
    · subst h0; exact ⟨fun j hj => absurd hj (Nat.not_lt_zero _), fun j hj => absurd hj (Nat.not_lt_zero _), fun j hj => absurd hj (Nat.not_lt_zero _)⟩
    · exact hs.below (hb h0) h
  have HS : Hid (∀ w', Below w.heap.size w w' → Spans w' b off n F T) := Lib.hid hbel
  have hbl : ∀ w', Below w.heap.size w w' → 0 < n → b < w'.heap.size := fun w' h h0 => Nat.lt_of_lt_of_le (hb h0) h.size
  have HB : Hid (∀ w', Below w.heap.size w w' → 0 < n → b < w'.heap.size) := Lib.hid hbl
  have HA : Hid (0 < n → ao = some ⟨b, off, none⟩) := Lib.hid hao
  clear hs hbel hbl hb hao
  by_cases hbound : n ≤ 40
  case neg =>
    have hd : decide ((40 : Int) < n) = true := by simpa using by omega
    go_enter Tryz.func3, Tryz.ntmps3
    go_wp2_with (go_at_call 5; refine HW.out.mono ?_; rintro e w' ⟨rfl, hb'⟩)
    all_goals (go_ret; exact ⟨rfl, hb'⟩)
  case pos =>
    cases hcv : covB F T x y n with
    | false =>
      have HC := Lib.hid hcv; clear hcv
      go_enter Tryz.func3, Tryz.ntmps3
      go_wp2_with (first | (go_at_call 5; refine HW.out.mono ?_; rintro e w' ⟨rfl, hb'⟩) | (go_at_call 6; refine (cover_any b off n c ao F T x y _ HA.out hn (HB.out _ hb') (HS.out _ hb')).mono ?_; rw [HC.out]; rintro e w2 ⟨rfl, hb2⟩))
      all_goals (go_ret; exact ⟨rfl, hb'.trans (hb2.mono hb'.size)⟩)
    | true =>
      have HC := Lib.hid hcv; clear hcv
      go_enter Tryz.func3, Tryz.ntmps3
      go_wp2_with (first | (go_at_call 5; refine HW.out.mono ?_; rintro e w' ⟨rfl, hb'⟩) | (go_at_call 6; refine (cover_any b off n c ao F T x y _ HA.out hn (HB.out _ hb') (HS.out _ hb')).mono ?_; rw [HC.out]; rintro e w2 ⟨rfl, hb2⟩) | (go_at_call 7; refine (at_any b off n c ao F T p _ HA.out hn (HB.out _ (hb'.trans (hb2.mono hb'.size))) (HS.out _ (hb'.trans (hb2.mono hb'.size)))).mono ?_; rintro e w3 ⟨r, hr, rfl, hb3⟩))
      have hall : Below w.heap.size w w3 := (hb'.trans (hb2.mono hb'.size)).trans (hb3.mono (Nat.le_trans hb'.size hb2.size))
      have HALL := Lib.hid hall
      go_loop [11, 12] (fun m i => ∃ k : Nat, k ≤ n ∧ i = .int .i64 k ∧ m = .int .i64 (many r k)) (fun _ i => n - (intOf i).toNat)
      case atStart => exact ⟨0, Nat.zero_le _, rfl, by rw [many, if_neg (by omega)]⟩
      case round =>
        obtain ⟨k, hk, rfl, rfl⟩ := hrel
        have hm1 : many r k = 0 ∨ many r k = 1 := by simp only [many]; split <;> simp
        by_cases hlt : k < n
        · obtain rfl := HA.out (by omega)
          have hs' := HS.out _ hall
          have h1 := hs'.f k hlt
          have h2 := hs'.t k hlt
          clear hs'
          have hkr : atB p (F k) (T k) = true → r = k := fun ha => by
            rcases hr with ⟨_, h4⟩ | ⟨i, h3, h4, h5⟩
            · rw [h4 k hlt] at ha; cases ha
            · rw [covB_one HC.out h3 hlt h5 ha] at h4; exact h4
          have hrk : r = k → atB p (F k) (T k) = true := fun e => by
            rcases hr with ⟨h3, _⟩ | ⟨i, _, h4, h5⟩
            · omega
            · have : i = k := by omega
              subst this; exact h5
          simp only [atB, Bool.and_eq_true, decide_eq_true_eq] at hkr hrk
          have HK := Lib.hid hkr
          have HR := Lib.hid hrk
          clear hkr hrk hr hall
          go_wp2
          case roundEnd =>
            have e := HK.out ⟨by assumption, by assumption⟩
            go_round
            case rel => exact ⟨k + 1, by omega, by go_num, by simp only [many]; rw [if_neg (by omega), if_pos (by omega)]; rfl⟩
            case measure => simp [intOf]; omega
          case roundEnd =>
            have e : ¬ r = k := fun e => by have := HR.out e; omega
            go_round
            case rel => exact ⟨k + 1, by omega, by go_num, by simp only [many]; split <;> split <;> first | rfl | omega⟩
            case measure => simp [intOf]; omega
          case roundEnd =>
            have e : ¬ r = k := fun e => by have := HR.out e; omega
            go_round
            case rel => exact ⟨k + 1, by omega, by go_num, by simp only [many]; split <;> split <;> first | rfl | omega⟩
            case measure => simp [intOf]; omega
          have e := HK.out ⟨by assumption, by assumption⟩
          rename_i hbad _
          rw [e] at hbad
          simp at hbad
        · have hml := many_last hr
          obtain rfl : k = n := by omega
          have HM := Lib.hid hml
          clear hml hr hall
          go_wp2
          all_goals
            go_ret
            obtain ⟨⟨q1, q2⟩, q3⟩ := HM.out
            have q4 : (many r k == 1) = decide (0 ≤ r) := by rw [Bool.eq_iff_iff]; simp [q2]
            first
              | exact absurd q4 ‹¬ (many r k == 1) = decide (0 ≤ r)›
              | exact ⟨by simp [q3], HALL.out⟩
end Go.Proofs.YtpnchcbbiboabaaGreatDoor
