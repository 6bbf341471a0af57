/- The five statements of the window's layer over numbers and lists alone. -/
import Derived.Test.YtocchdbmeokmhaaWinPure
namespace Go.Proofs.Ytocchdbmeokmhaa.WinPure
open Go.RowKit Go.Proofs.Ytocchdbmeokmhaa.PWin
set_option linter.unusedVariables false
set_option linter.unusedSimpArgs false

def UOp (x : S27) : Prop := U x.f1 ∧ U x.f2 ∧ U x.f3 ∧ U x.f4 ∧ U x.f5 ∧ U x.f6
theorem plays_f (k : Nat) (x : S27) (h : UOp x) : turnstilelaw05_plays.f (k + 3) x.f0 x.f1 x.f2 x.f3 x.f4 x.f5 x.f6 = some true := by
  obtain ⟨h1, h2, h3, h4, h5, h6⟩ := h
  unfold turnstilelaw05_plays.f
  rw [index_f h2 h5, index_r h2 h5, start_f h2 h3, start_r h2 h3, admit_f _ h1 h2 h4 h5 h6, admit_r _ h1 h2 h3 h4 h5 h6, retry_f _ h1 h2 h3 h4 h5 h6, retry_r _ h1 h2 h3 h4 h5 h6,
    left_f h1 h2 h4 h5, left_r h1 h2 h4 h5]
  simp only [Option.bind_some, beq_self_eq_true, if_true, ite_self]

theorem all_l (l : List S27) (hl : ∀ x ∈ l, UOp x) (hn : (l.length : Int) ≤ 140737488351232) (d : Nat) : ∀ (k : Nat) (i : Int), 0 ≤ i → (l.length : Int) - i ≤ d → turnstilelaw05_WindowAll.l0 (k + d + 4) l true i = some true := by
  induction d with
  | zero =>
    intro k i h0 h1
    simp only [turnstilelaw05_WindowAll.l0]
    rw [if_neg (by omega)]
  | succ d ih =>
    intro k i h0 h1
    rw [show k + (d + 1) + 4 = (k + d + 4) + 1 by omega]
    simp only [turnstilelaw05_WindowAll.l0]
    by_cases hlt : i < (l.length : Int)
    · rw [if_pos hlt, if_pos trivial, if_pos h0]
      have hx : UOp (rd_T27 l i) := by
        unfold rd_T27
        rw [List.getD_eq_getElem?_getD, List.getElem?_eq_getElem (by omega)]
        exact hl _ (List.getElem_mem _)
      rw [plays_f (k + d + 1) _ hx]
      simp only [Option.bind_some]
      rw [show wrap64 (i + 1) = i + 1 by unfold wrap64; omega]
      exact ih k (i + 1) (by omega) (by omega)
    · rw [if_neg hlt]
theorem all_f (l : List S27) (hl : ∀ x ∈ l, UOp x) (hn : (l.length : Int) ≤ 140737488351232) : ∃ k, turnstilelaw05_WindowAll.f k l = some true := by
  refine ⟨l.length + 4, ?_⟩
  unfold turnstilelaw05_WindowAll.f
  rw [show l.length + 4 = (l.length + 3) + 1 by omega, awake_f]
  simp only [Option.bind_some]
  have := all_l l hl hn l.length 0 0 (by omega) (by omega)
  simpa using this

theorem admits_f {L s i c n u : Int} (k : Nat) (x0 x5 : Int) (hL : U L) (hs : U s) (hc : U c) (hu : U u) (hn : U n) : turnstilelaw05_admits.f (k + 1) x0 L s i c x5 n u = some (adm L s i c u n) := by
  unfold turnstilelaw05_admits.f
  rw [admit_f k hL hs hc hu hn]
  simp only [Option.bind_some, admit_ok]

theorem least_f (x0 L s i c t n u : Int) (hL : U L) (hs : U s) (hi : U i) (hc : U c) (ht : U t) (hn : U n) (hu : U u) : turnstilelaw05_WindowLeast.f 4 x0 L s i c t n u = some true := by
  have hr := retry_U (L := L) (c := c) (n := n) hs hi ht
  obtain ⟨h1, h2, h3⟩ := retry_least hL hs hi hc ht hn
  unfold turnstilelaw05_WindowLeast.f
  rw [awake_f, retry_f _ hL hs hi hc ht hn]
  simp only [Option.bind_some, if_true]
  rw [if_neg (by omega), admits_f _ _ _ hL hs hc hr hn]
  simp only [Option.bind_some]
  generalize retry L s i c t n = r at *
  have hj : turnstilelaw05_WindowLeast.j0 4 u r false x0 L s i c t n = some true := by
    simp only [turnstilelaw05_WindowLeast.j0]
    rw [if_neg (by simp)]
    by_cases e : r = t
    · rw [if_pos e]
    · rw [if_neg e]
      have ht1 := ht.1
      have hr2 := hr.2
      rw [wrapU (x := r - t) (by omega) (by omega), if_neg (by omega), wrapU (x := r - 1) (by omega) (by omega)]
      have hm : 0 ≤ u % (r - t) ∧ u % (r - t) < r - t := ⟨Int.emod_nonneg _ (by omega), Int.emod_lt_of_pos _ (by omega)⟩
      rw [Int.tmod_eq_emod_of_nonneg hu.1, wrapU (x := t + u % (r - t)) (by omega) (by omega)]
      rw [admits_f _ _ _ hL hs hc ⟨by omega, by omega⟩ hn, h3 (r - 1) (by omega) (by omega)]
      simp only [Option.bind_some]
      rw [if_neg (by simp), admits_f _ _ _ hL hs hc ⟨by omega, by omega⟩ hn, h3 _ (by omega) (by omega)]
      simp only [Option.bind_some]
      rw [if_neg (by simp), admits_f _ _ _ hL hs hc ht hn, h3 t (by omega) (by omega)]
      rfl
  cases ha : adm L s i c r n with
  | true => rw [if_pos rfl]; exact hj
  | false =>
    rw [if_neg (by simp)]
    have e : r = 18446744073709551615 := by
      rcases Classical.em (r = 18446744073709551615) with e | e
      · exact e
      · have := h2 e; rw [ha] at this; cases this
    rw [show (r != 18446744073709551615) = false by simp [e]]
    exact hj

theorem most_f (x0 L s i c t n p : Int) (hL : U L) (hs : U s) (hi : U i) (hc : U c) (ht : U t) (hp : U p) : turnstilelaw05_WindowMost.f 3 x0 L s i c t n p = some true := by
  have hl := left_le (L := L) (s := s) (i := i) (c := c) (t := t) hL.1 hc.1
  have hL1 := hL.1
  have hL2 := hL.2
  have hc1 := hc.1
  have hc2 := hc.2
  unfold turnstilelaw05_WindowMost.f
  rw [awake_f, left_f hL hs hc ht]
  simp only [Option.bind_some, if_true]
  have hm : U (left L s i c t) := ⟨by omega, by omega⟩
  rw [admit_f _ hL hs hc ht hm]
  simp only [Option.bind_some, admit_ok]
  have ha : adm L s i c t (left L s i c t) = decide (left L s i c t > 0) := by
    rw [Bool.eq_iff_iff]; simp only [adm, Bool.not_eq_true', Bool.or_eq_false_iff, decide_eq_false_iff_not, decide_eq_true_eq]; omega
  rw [ha]
  simp only [bne_self_eq_false, Bool.false_eq_true, if_false]
  have hj : ∀ n, turnstilelaw05_WindowMost.j0 3 p (left L s i c t) (admit L s i c t (left L s i c t)).1 (admit L s i c t (left L s i c t)).2.1 (decide (left L s i c t > 0)) x0 L s i c t n = some true := by
    intro n
    simp only [turnstilelaw05_WindowMost.j0]
    by_cases h2 : left L s i c t < 2
    · rw [if_pos h2]
      by_cases h3 : left L s i c t > 0
      · rw [if_pos (by simpa using h3)]
      · rw [if_neg (by simpa using h3)]
        rw [show admit L s i c t (left L s i c t) = (i, c, false) by unfold admit; rw [ha, if_pos (by simpa using h3)]]
        simp
    · rw [if_neg h2]
      have hp1 := hp.1
      have hq : 0 ≤ p % (left L s i c t - 1) ∧ p % (left L s i c t - 1) < left L s i c t - 1 := ⟨Int.emod_nonneg _ (by omega), Int.emod_lt_of_pos _ (by omega)⟩
      rw [wrapU (x := left L s i c t - 1) (by omega) (by omega), if_neg (by omega), Int.tmod_eq_emod_of_nonneg hp1, wrapU (x := 1 + _) (by omega) (by omega)]
      generalize p % (left L s i c t - 1) = q at *
      rw [wrapU (x := _ - _) (by omega) (by omega)]
      have hs0 : s ≠ 0 := fun e => by unfold left at h2; rw [if_pos e] at h2; omega
      rw [admit_f _ hL hs hc ht ⟨by omega, by omega⟩]
      simp only [Option.bind_some]
      have a1 : adm L s i c t (1 + q) = true := by simp only [adm, Bool.not_eq_true', Bool.or_eq_false_iff, decide_eq_false_iff_not]; omega
      have a0 : adm L s i c t (left L s i c t) = true := by rw [ha]; simp; omega
      have hsp : 0 < s := by have := hs.1; omega
      have hd := div_facts t s ht.1 hsp
      have ht2 := ht.2
      unfold admit
      rw [a1, a0]
      simp only [Bool.true_eq_false, if_false]
      by_cases h4 : t / s > i
      · have el : left L s i c t = L := by unfold left; rw [if_neg hs0, if_pos h4]
        rw [if_pos h4, if_pos h4]
        have el' : left L s (t / s) (1 + q) t = L - (1 + q) := by unfold left; rw [if_neg hs0, if_neg (by omega), if_pos rfl, if_pos (by omega)]
        simp only []
        rw [admit_f _ hL hs ⟨by omega, by omega⟩ ht ⟨by omega, by omega⟩, left_f hL hs ⟨by omega, by omega⟩ ht, el', el]
        have a2 : adm L s (t / s) (1 + q) t (L - (1 + q)) = true := by simp only [adm, el', Bool.not_eq_true', Bool.or_eq_false_iff, decide_eq_false_iff_not]; omega
        unfold admit
        rw [a2]
        simp only [Option.bind_some, Bool.true_eq_false, if_false, if_true]
        simp only [gt_iff_lt, Int.lt_irrefl, if_false, if_true]; rw [if_pos (by omega)]; simp
      · have h5 : t / s = i := by unfold left at h2; rw [if_neg hs0, if_neg h4] at h2; split at h2 <;> omega
        have h6 : c < L := by unfold left at h2; rw [if_neg hs0, if_neg h4, if_pos h5] at h2; split at h2 <;> omega
        have el : left L s i c t = L - c := by unfold left; rw [if_neg hs0, if_neg h4, if_pos h5, if_pos h6]
        rw [if_neg h4, if_neg h4]
        have el' : left L s i (c + (1 + q)) t = L - c - (1 + q) := by unfold left; rw [if_neg hs0, if_neg (by omega), if_pos h5, if_pos (by omega)]; omega
        simp only []
        rw [admit_f _ hL hs ⟨by omega, by omega⟩ ht ⟨by omega, by omega⟩, left_f hL hs ⟨by omega, by omega⟩ ht, el', el]
        have a2 : adm L s i (c + (1 + q)) t (L - c - (1 + q)) = true := by simp only [adm, el', Bool.not_eq_true', Bool.or_eq_false_iff, decide_eq_false_iff_not]; omega
        unfold admit
        rw [a2]
        simp only [Option.bind_some, Bool.true_eq_false, if_false, if_true]
        rw [if_neg h4]
        simp
        omega
  by_cases h1 : left L s i c t < 18446744073709551615
  · rw [if_pos h1, wrapU (x := left L s i c t + 1) (by omega) (by omega), admit_f _ hL hs hc ht ⟨by omega, by omega⟩]
    simp only [Option.bind_some, admit_ok]
    rw [if_neg]
    · exact hj n
    · simp only [adm, Bool.not_eq_true', Bool.or_eq_false_iff, decide_eq_false_iff_not]; omega
  · rw [if_neg h1]; exact hj n

theorem starts_f (s t w : Int) (hs : U s) (ht : U t) (hw : U w) : turnstilelaw05_WindowStarts.f 1 s t w = some true := by
  have hs1 := hs.1
  have ht1 := ht.1
  have ht2 := ht.2
  have hw1 := hw.1
  have hw2 := hw.2
  unfold turnstilelaw05_WindowStarts.f
  rw [awake_f, index_f hs ht, start_f hs hw]
  simp only [Option.bind_some, if_true]
  by_cases h0 : s = 0
  · subst h0; simp [start]
  · rw [if_neg h0]
    have hsp : 0 < s := by omega
    have hd := div_facts t s ht1 hsp
    rw [start_f hs ⟨hd.1, by omega⟩]
    have e : start s (t / s) = s * (t / s) := by unfold start; rw [if_pos (by omega)]
    rw [e]
    simp only [Option.bind_some]
    have h00 : 0 ≤ s * (t / s) := Int.mul_nonneg hs1 hd.1
    rw [if_neg (by omega), wrapU (by omega) (by omega), show decide (t - s * (t / s) ≥ s) = false by simp; omega]
    simp only [turnstilelaw05_WindowStarts.j0]
    rw [if_neg (by simp), start_f hs hw]
    simp only [Option.bind_some]
    have hsw := mul_nonneg hs hw
    by_cases h1 : start s w = 18446744073709551615
    · rw [if_pos h1, index_f hs ⟨by omega, by omega⟩]
      have h2 : (18446744073709551615 : Int) / s ≤ w := by
        have h3 : 18446744073709551615 ≤ s * w := by unfold start at h1; split at h1 <;> omega
        have h4 := div_facts 18446744073709551615 s (by omega) hsp
        have h5 : s * (18446744073709551615 / s) ≤ s * w := by omega
        exact Int.le_of_mul_le_mul_left h5 hsp
      simp; omega
    · rw [if_neg h1]
      have h2 : s * w < 18446744073709551616 := by
        rcases Classical.em (s * w < 18446744073709551616) with h | h
        · exact h
        · unfold start at h1; rw [if_neg h] at h1; exact absurd rfl h1
      have e2 : start s w = s * w := by unfold start; rw [if_pos h2]
      rw [e2, index_f hs ⟨hsw, h2⟩, mul_div hsp]
      simp only [Option.bind_some, if_true]
      by_cases h3 : s * w = 0
      · rw [if_pos h3]
      · rw [if_neg h3, wrapU (x := s * w - 1) (by omega) (by omega), index_f hs ⟨by omega, by omega⟩]
        have hw0 : w ≠ 0 := fun e => by rw [e] at h3; simp at h3
        rw [wrapU (x := w - 1) (by omega) (by omega)]
        have h4 : s * (w - 1) = s * w - s := by rw [Int.mul_sub]; simp
        have : (s * w - 1) / s = w - 1 := by
          have a : w - 1 ≤ (s * w - 1) / s := (le_div hsp).2 (by omega)
          have b : (s * w - 1) / s < w := (div_lt hsp).2 (by omega)
          omega
        simp [this]

theorem sums_l (L s : Int) (hL : U L) (hs : U s) (l : List S38) (hl : ∀ x ∈ l, U x.f0 ∧ U x.f1) (hn : (l.length : Int) ≤ 140737488351232) (d : Nat) :
    ∀ (k : Nat) (i c p : Int), 0 ≤ p → (l.length : Int) - p ≤ d → U i → 0 ≤ c → c ≤ L → turnstilelaw05_WindowSums.l0 (k + 4 * d + 4) L s l i c c i p = some true := by
  have hL1 := hL.1
  have hL2 := hL.2
  induction d with
  | zero =>
    intro k i c p h0 h1 hi hc hcL
    simp only [turnstilelaw05_WindowSums.l0]
    rw [if_neg (by omega)]
  | succ d ih =>
    intro k i c p h0 h1 hi hc hcL
    rw [show k + 4 * (d + 1) + 4 = (k + 4 * d + 4) + 4 by omega]
    simp only [turnstilelaw05_WindowSums.l0]
    by_cases hlt : p < (l.length : Int)
    · rw [if_pos hlt, if_pos h0]
      obtain ⟨ht, hN⟩ : U (rd_T38 l p).f0 ∧ U (rd_T38 l p).f1 := by
        unfold rd_T38
        rw [List.getD_eq_getElem?_getD, List.getElem?_eq_getElem (by omega)]
        exact hl _ (List.getElem_mem _)
      generalize (rd_T38 l p).f0 = t at *
      generalize (rd_T38 l p).f1 = n at *
      have hcU : U c := ⟨by omega, by omega⟩
      rw [admit_f _ hL hs hcU ht hN]
      simp only [Option.bind_some, admit_ok]
      have hw : wrap64 (p + 1) = p + 1 := by unfold wrap64; omega
      cases ha : adm L s i c t n with
      | false =>
        rw [if_neg (by simp)]
        rw [show admit L s i c t n = (i, c, false) by unfold admit; rw [ha, if_pos rfl]]
        simp only [if_true]
        rw [hw]
        have := ih (k + 3) i c (p + 1) (by omega) (by omega) hi hc hcL
        rw [show k + 3 + 4 * d + 4 = k + 4 * d + 4 + 3 by omega] at this
        exact this
      | true =>
        rw [if_pos rfl]
        have hn1 := hN.1
        obtain ⟨hs0, hn0, hnl⟩ := adm_span ha hn1
        have hsp : 0 < s := by have := hs.1; omega
        have hnp : 0 < n := by omega
        have hcases := (adm_iff' hs0 hnp).1 ha
        have hd := div_facts t s ht.1 hsp
        have ht2 := ht.2
        rw [if_neg hs0, if_neg hn0, tdiv_wrap ht hs]
        have key : ∀ (j c' sum : Int), U j → i ≤ j → c' = sum + n → 0 ≤ sum → sum + n ≤ L → (if j > i then sum = 0 else sum = c) →
            turnstilelaw05_WindowSums.j1 (k + 4 * d + 4 + 3) L s l c i p j c' (decide (j < i)) t n = some true := by
          intro j c' sum hj hij hc' hs0' hsn hcond
          simp only [turnstilelaw05_WindowSums.j1]
          rw [if_neg (by simp; omega)]
          have j2 : turnstilelaw05_WindowSums.j2 (k + 4 * d + 4 + 2) L s l sum j p j c' t n = some true := by
            simp only [turnstilelaw05_WindowSums.j2]
            rw [if_neg (by omega), wrapU (x := L - n) (by omega) (by omega), show decide (sum > L - n) = false by simp; omega]
            simp only [turnstilelaw05_WindowSums.j3]
            rw [if_neg (by simp), wrapU (x := sum + n) (by omega) (by omega), if_pos hc', hw, hc']
            exact ih k j (sum + n) (p + 1) (by omega) (by omega) hj (by omega) (by omega)
          by_cases h2 : j > i
          · rw [if_pos h2] at hcond ⊢
            subst hcond
            exact j2
          · rw [if_neg h2] at hcond ⊢
            have e : i = j := by omega
            subst e
            subst hcond
            exact j2
        unfold admit
        rw [ha]
        simp only [Bool.true_eq_false, if_false]
        by_cases h2 : t / s > i
        · rw [if_pos h2]
          simp only [if_true]
          exact key (t / s) n 0 ⟨by omega, by omega⟩ (by omega) (by omega) (by omega) (by omega) (by rw [if_pos h2])
        · rw [if_neg h2]
          have h3 : t / s = i := by omega
          simp only []
          rw [if_pos h3]
          exact key i (c + n) c hi (by omega) rfl hc (by omega) (by rw [if_neg (by omega)])
    · rw [if_neg hlt]
theorem sums_f (L s : Int) (hL : U L) (hs : U s) (l : List S38) (hl : ∀ x ∈ l, U x.f0 ∧ U x.f1) (hn : (l.length : Int) ≤ 140737488351232) : ∃ k, turnstilelaw05_WindowSums.f k L s l = some true := by
  refine ⟨0 + 4 * l.length + 4, ?_⟩
  unfold turnstilelaw05_WindowSums.f
  rw [show 0 + 4 * l.length + 4 = (4 * l.length + 3) + 1 by omega, awake_f]
  simp only [Option.bind_some, if_true]
  have := sums_l L s hL hs l hl hn l.length 0 0 0 0 (by omega) (by omega) ⟨by omega, by omega⟩ (by omega) hL.1
  rw [show (4 * l.length + 3) + 1 = 0 + 4 * l.length + 4 by omega]
  exact this
end Go.Proofs.Ytocchdbmeokmhaa.WinPure
