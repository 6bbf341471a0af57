/- The plain laws of the window's rule: what the printed functions answer, for numbers of 64 bits without a sign. -/
import Derived.Test.YtocchdbmeokmhaaPWinx
namespace Go.Proofs.Ytocchdbmeokmhaa.WinPure
open Go.RowKit Go.Proofs.Ytocchdbmeokmhaa.PWin
set_option linter.unusedVariables false
set_option linter.unusedSimpArgs false

def U (x : Int) : Prop := 0 ≤ x ∧ x < 18446744073709551616
theorem wrapU {x : Int} (h0 : 0 ≤ x) (h1 : x < 18446744073709551616) : IntKind.u64.wrap x = x := by
  simp only [IntKind.wrap_u64]; omega

theorem div_facts (t s : Int) (ht : 0 ≤ t) (hs : 0 < s) : 0 ≤ t / s ∧ t / s ≤ t ∧ s * (t / s) ≤ t ∧ t < s * (t / s) + s := by
  refine ⟨Int.ediv_nonneg ht (by omega), Int.ediv_le_self s ht, Int.mul_ediv_self_le (by omega), ?_⟩
  have := Int.lt_mul_ediv_self_add (x := t) hs
  exact this
theorem tdiv_wrap {t s : Int} (ht : U t) (hs : U s) : IntKind.u64.wrap (Int.tdiv t s) = t / s := by
  rw [Int.tdiv_eq_ediv_of_nonneg ht.1]
  rcases Int.lt_or_eq_of_le hs.1 with h | h
  · have := div_facts t s ht.1 h
    have := ht.2
    exact wrapU (by omega) (by omega)
  · rw [← h]; simp [IntKind.wrap_u64]
theorem le_div {w t s : Int} (hs : 0 < s) : w ≤ t / s ↔ s * w ≤ t := by
  rw [Int.le_ediv_iff_mul_le hs, Int.mul_comm]
theorem div_lt {w t s : Int} (hs : 0 < s) : t / s < w ↔ t < s * w := by
  rw [Int.ediv_lt_iff_lt_mul hs, Int.mul_comm]
theorem mul_div {w s : Int} (hs : 0 < s) : s * w / s = w := Int.mul_ediv_cancel_left w (by omega)

/-- Left -/
def left (L s i c t : Int) : Int := if s = 0 then 0 else if t / s > i then L else if t / s = i then (if c < L then L - c else 0) else 0
theorem left_le {L s i c t : Int} (hL : 0 ≤ L) (hc : 0 ≤ c) : 0 ≤ left L s i c t ∧ left L s i c t ≤ L := by
  unfold left; repeat' split
  all_goals omega
theorem left_f {L s i c t : Int} (hL : U L) (hs : U s) (hc : U c) (ht : U t) : window_Left.f L s i c t = some (left L s i c t) := by
  unfold window_Left.f left
  rw [tdiv_wrap ht hs]
  have := hL.2; have := hc.1
  repeat' split
  all_goals first | rfl | (rw [wrapU (by omega) (by omega)])
theorem left_r {L s i c t : Int} (hL : U L) (hs : U s) (hc : U c) (ht : U t) : turnstileref05_Left.f L s i c t = some (left L s i c t) := by
  unfold turnstileref05_Left.f left
  rw [tdiv_wrap ht hs]
  have := hL.2; have := hc.1
  repeat' split
  all_goals first | rfl | omega | (rw [wrapU (by omega) (by omega)])

/-- Admit -/
def adm (L s i c t n : Int) : Bool := !(decide (n = 0) || decide (n > left L s i c t))
def admit (L s i c t n : Int) : Int × Int × Bool := if adm L s i c t n = false then (i, c, false) else if t / s > i then (t / s, n, true) else (i, c + n, true)
theorem admit_ok (L s i c t n : Int) : (admit L s i c t n).2.2 = adm L s i c t n := by
  unfold admit; cases h : adm L s i c t n <;> simp; split <;> rfl
theorem adm_span {L s i c t n : Int} (h : adm L s i c t n = true) (hn : 0 ≤ n) : s ≠ 0 ∧ n ≠ 0 ∧ n ≤ left L s i c t := by
  simp only [adm, Bool.not_eq_true', Bool.or_eq_false_iff, decide_eq_false_iff_not] at h
  refine ⟨fun e => ?_, h.1, by omega⟩
  have : left L s i c t = 0 := by unfold left; rw [if_pos e]
  omega
theorem admit_f {L s i c t n : Int} (k : Nat) (hL : U L) (hs : U s) (hc : U c) (ht : U t) (hn : U n) : window_Admit.f (k + 1) L s i c t n = some (admit L s i c t n) := by
  unfold window_Admit.f
  by_cases h0 : n = 0
  · rw [if_pos h0]; simp only [window_Admit.j0, if_true]; simp [admit, adm, h0]
  · rw [if_neg h0, left_f hL hs hc ht]
    simp only [Option.bind_some, window_Admit.j0]
    by_cases h1 : n > left L s i c t
    · rw [if_pos (by simpa using h1)]; simp [admit, adm, h1]
    · rw [if_neg (by simpa using h1)]
      have ha : adm L s i c t n = true := by simp [adm, h0]; omega
      obtain ⟨hs0, _, hl⟩ := adm_span ha hn.1
      rw [if_neg hs0, tdiv_wrap ht hs]
      unfold admit
      rw [ha]
      simp only [Bool.true_eq_false, if_false]
      by_cases h2 : t / s > i
      · rw [if_pos h2, if_pos h2]
      · rw [if_neg h2, if_neg h2, wrapU]
        · have := hc.1; have := hn.1; omega
        · unfold left at hl
          rw [if_neg hs0, if_neg h2] at hl
          have := hL.2; have := hn.1
          split at hl
          · split at hl <;> omega
          · omega
theorem admit_r {L s i c t n : Int} (k : Nat) (hL : U L) (hs : U s) (hi : U i) (hc : U c) (ht : U t) (hn : U n) : turnstileref05_Admit.f (k + 1) L s i c t n = some (admit L s i c t n) := by
  unfold turnstileref05_Admit.f
  by_cases h0 : n = 0
  · rw [if_pos h0]; simp only [turnstileref05_Admit.j0, if_true]; simp [admit, adm, h0]
  · rw [if_neg h0, left_r hL hs hc ht]
    simp only [Option.bind_some, turnstileref05_Admit.j0]
    by_cases h1 : n > left L s i c t
    · rw [if_pos (by simpa using h1)]; simp [admit, adm, h1]
    · rw [if_neg (by simpa using h1)]
      have ha : adm L s i c t n = true := by simp [adm, h0]; omega
      obtain ⟨hs0, _, hl⟩ := adm_span ha hn.1
      rw [if_neg hs0, tdiv_wrap ht hs]
      unfold admit
      rw [ha]
      simp only [Bool.true_eq_false, if_false]
      have hl' := hl
      unfold left at hl
      rw [if_neg hs0] at hl
      have := hL.2; have := hn.1; have := hc.1
      by_cases h2 : t / s > i
      · rw [if_pos h2, if_neg (by omega)]
      · rw [if_neg h2] at hl
        rw [if_neg h2]
        by_cases h3 : t / s = i
        · rw [if_pos h3] at hl
          rw [if_pos h3, wrapU (by omega) (by split at hl <;> omega)]
        · rw [if_neg h3] at hl; omega

/-- Mul64 -/
theorem mul_f {a b : Int} (ha : U a) (hb : U b) : bits_Mul64.f a b = some (a * b / 18446744073709551616, IntKind.u64.wrap (a * b)) := by
  unfold bits_Mul64.f
  have h := mul64_arith a b ha.1 ha.2 hb.1 hb.2
  rw [and_low32 _ ha.1 ha.2, and_low32 _ hb.1 hb.2, and_low32 _ (by simp only [IntKind.wrap_u64]; omega) (by simp only [IntKind.wrap_u64]; omega)]
  simp only [IntKind.wrap_u64] at h ⊢
  rw [h]
theorem mul_nonneg {a b : Int} (ha : U a) (hb : U b) : 0 ≤ a * b := Int.mul_nonneg ha.1 hb.1

theorem start_in {s w : Int} (hs : U s) (hw : U w) : window_start.f s w = some (IntKind.u64.wrap (s * w), decide (s * w < 18446744073709551616)) := by
  unfold window_start.f
  rw [mul_f hs hw]
  simp only [Option.bind_some]
  have h0 := mul_nonneg hs hw
  have e : ((s * w / 18446744073709551616 == 0) : Bool) = decide (s * w < 18446744073709551616) := by
    rw [Bool.eq_iff_iff]; simp only [beq_iff_eq, decide_eq_true_eq]; omega
  rw [e]
def start (s w : Int) : Int := if s * w < 18446744073709551616 then s * w else 18446744073709551615
theorem start_U {s w : Int} (hs : U s) (hw : U w) : U (start s w) := by
  have h0 := mul_nonneg hs hw
  unfold start U; split <;> omega
theorem start_f {s w : Int} (hs : U s) (hw : U w) : window_Start.f s w = some (start s w) := by
  unfold window_Start.f start
  rw [start_in hs hw]
  simp only [Option.bind_some, decide_eq_true_eq]
  have h0 := mul_nonneg hs hw
  split
  · rename_i h; rw [wrapU h0 h]
  · rfl
theorem start_r {s w : Int} (hs : U s) (hw : U w) : turnstileref05_Start.f s w = some (start s w) := by
  have h0 := mul_nonneg hs hw
  unfold turnstileref05_Start.f turnstileref05_fits.f start
  by_cases e : s = 0
  · subst e; simp [IntKind.wrap_u64]
  · have hp : 0 < s := by have := hs.1; omega
    rw [if_neg e]
    simp only [Option.bind_some, decide_eq_true_eq]
    have hd := div_facts 18446744073709551615 s (by omega) hp
    have hl := le_div (w := w) (t := 18446744073709551615) hp
    rw [wrapU hd.1 (by omega)]
    by_cases h : s * w < 18446744073709551616
    · rw [if_pos (hl.2 (by omega)), if_pos h, wrapU h0 h]
    · rw [if_neg (fun h' => h (by have := hl.1 h'; omega)), if_neg h]

/-- Retry -/
def retry (L s i c t n : Int) : Int :=
  if n = 0 ∨ n > L ∨ s = 0 then 18446744073709551615 else
  if adm L s i c t n = true then t else
  if t / s < i ∧ n ≤ L - c then start s i else
  if i = 18446744073709551615 then 18446744073709551615 else start s (i + 1)

theorem adm_none {L s i c t n : Int} (hL : 0 ≤ L) (hc : 0 ≤ c) (h : n = 0 ∨ n > L ∨ s = 0) (hn : 0 ≤ n) : adm L s i c t n = false := by
  cases e : adm L s i c t n
  · rfl
  · obtain ⟨h1, h2, h3⟩ := adm_span e hn
    have := left_le (L := L) (s := s) (i := i) (c := c) (t := t) hL hc
    omega
theorem adm_iff {L s i c t n : Int} (hs : s ≠ 0) (hn : n ≠ 0) : adm L s i c t n = true ↔ (t / s > i ∧ n ≤ L) ∨ (t / s = i ∧ c < L ∧ n ≤ L - c) ∨ (n ≤ 0 ∧ n ≤ left L s i c t) := by
  simp only [adm, Bool.not_eq_true', Bool.or_eq_false_iff, decide_eq_false_iff_not]
  unfold left
  rw [if_neg hs]
  by_cases h1 : t / s > i
  · rw [if_pos h1]; omega
  · rw [if_neg h1]
    by_cases h2 : t / s = i
    · rw [if_pos h2]
      by_cases h3 : c < L
      · rw [if_pos h3]; omega
      · rw [if_neg h3]; omega
    · rw [if_neg h2]; omega
theorem adm_iff' {L s i c t n : Int} (hs : s ≠ 0) (hn : 0 < n) : adm L s i c t n = true ↔ (t / s > i ∧ n ≤ L) ∨ (t / s = i ∧ c < L ∧ n ≤ L - c) := by
  rw [adm_iff hs (by omega)]; omega

theorem step_f {L s i c t n x z : Int} (k : Nat) (hL : U L) (hs : U s) (hc : U c) (hn : U n) (hx : U x) :
    window_Retry.step (k + 1) L s i c t n x (some z) = some (if s * x < 18446744073709551616 ∧ i ≤ x ∧ t ≤ s * x ∧ adm L s i c (s * x) n = true then s * x else z) := by
  have h0 := mul_nonneg hs hx
  unfold window_Retry.step
  rw [start_in hs hx]
  simp only [Option.bind_some, decide_eq_false_iff_not]
  by_cases h1 : s * x < 18446744073709551616
  · rw [if_neg (by omega), wrapU h0 h1]
    by_cases h2 : x < i
    · rw [if_pos h2, if_neg (by omega)]
    · rw [if_neg h2]
      by_cases h3 : s * x < t
      · rw [if_pos h3, if_neg (by omega)]
      · rw [if_neg h3, admit_f k hL hs hc ⟨h0, h1⟩ hn]
        simp only [Option.bind_some, admit_ok]
        cases h4 : adm L s i c (s * x) n
        · simp
        · rw [if_pos rfl, if_pos ⟨h1, by omega, by omega, rfl⟩]
  · rw [if_pos (by omega), if_neg (by omega)]

theorem retry_f {L s i c t n : Int} (k : Nat) (hL : U L) (hs : U s) (hi : U i) (hc : U c) (ht : U t) (hn : U n) : window_Retry.f (k + 1) L s i c t n = some (retry L s i c t n) := by
  unfold window_Retry.f
  rw [admit_f k hL hs hc ht hn]
  simp only [Option.bind_some, admit_ok]
  have hw : U (IntKind.u64.wrap (i + 1)) := by simp only [U, IntKind.wrap_u64]; omega
  unfold retry
  by_cases hz : n = 0 ∨ n > L ∨ s = 0
  · rw [if_pos hz]
    have hno : ∀ t, adm L s i c t n = false := fun t => adm_none hL.1 hc.1 hz hn.1
    rw [hno]
    simp only [Bool.false_eq_true, if_false]
    by_cases hs0 : s = 0
    · rw [if_pos hs0]
    · rw [if_neg hs0, step_f k hL hs hc hn hw, step_f k hL hs hc hn hi, hno, hno]
      simp
  · rw [if_neg hz]
    have hs0 : s ≠ 0 := by omega
    have hsp : 0 < s := by have := hs.1; omega
    have hn0 : 0 < n := by have := hn.1; omega
    cases ha : adm L s i c t n with
    | true => simp
    | false =>
      have hna : ¬ ((t / s > i ∧ n ≤ L) ∨ (t / s = i ∧ c < L ∧ n ≤ L - c)) := by
        rw [← adm_iff' hs0 hn0, ha]; simp
      simp only [Bool.false_eq_true, if_false]
      rw [if_neg hs0, step_f k hL hs hc hn hw, step_f k hL hs hc hn hi]
      have a1 : adm L s i c (s * i) n = true ↔ c < L ∧ n ≤ L - c := by rw [adm_iff' hs0 hn0, mul_div hsp]; omega
      have hd := div_facts t s ht.1 hsp
      by_cases h1 : t / s < i ∧ n ≤ L - c
      · rw [if_pos h1]
        have h2 : t < s * i := (div_lt hsp).1 h1.1
        unfold start
        by_cases h3 : s * i < 18446744073709551616
        · rw [if_pos ⟨h3, Int.le_refl _, by omega, a1.2 ⟨by omega, h1.2⟩⟩, if_pos h3]
        · rw [if_neg (by omega), if_neg h3, if_neg]
          rintro ⟨h4, h5, _⟩
          have : s * i ≤ s * IntKind.u64.wrap (i + 1) := Int.mul_le_mul_of_nonneg_left h5 hs.1
          omega
      · rw [if_neg h1, if_neg]
        · by_cases h2 : i = 18446744073709551615
          · rw [if_pos h2, if_neg]
            rintro ⟨_, h5, _⟩
            subst h2
            simp only [IntKind.wrap_u64] at h5; omega
          · have hi1 := hi.1
            have hi2 := hi.2
            have e : IntKind.u64.wrap (i + 1) = i + 1 := wrapU (by omega) (by omega)
            rw [if_neg h2, e]
            have a2 : adm L s i c (s * (i + 1)) n = true := by rw [adm_iff' hs0 hn0, mul_div hsp]; omega
            have h6 : t < s * (i + 1) := (div_lt hsp).1 (by omega)
            unfold start
            by_cases h3 : s * (i + 1) < 18446744073709551616
            · rw [if_pos h3, if_pos ⟨h3, by omega, by omega, a2⟩]
            · rw [if_neg h3, if_neg (by omega)]
        · rintro ⟨_, _, h4, h5⟩
          have h6 := a1.1 h5
          have h7 : ¬ t / s < i := fun h => h1 ⟨h, h6.2⟩
          omega

theorem retry_r {L s i c t n : Int} (k : Nat) (hL : U L) (hs : U s) (hi : U i) (hc : U c) (ht : U t) (hn : U n) : turnstileref05_Retry.f (k + 3) L s i c t n = some (retry L s i c t n) := by
  unfold turnstileref05_Retry.f retry
  have hL1 := hL.1
  have hL2 := hL.2
  have hc1 := hc.1
  have hi1 := hi.1
  have hi2 := hi.2
  by_cases h0 : n = 0
  · rw [if_pos h0, if_pos (by omega)]; simp [turnstileref05_Retry.j0]
  · rw [if_neg h0]
    by_cases h1 : n > L
    · rw [if_pos h1, if_pos (by omega)]; simp [turnstileref05_Retry.j0]
    · rw [if_neg h1]
      by_cases h2 : s = 0
      · rw [if_pos (by omega)]; simp [turnstileref05_Retry.j0, h2]
      · rw [if_neg (by omega)]
        simp only [turnstileref05_Retry.j0, beq_iff_eq]
        rw [if_neg h2, admit_r (k + 1) hL hs hi hc ht hn]
        simp only [Option.bind_some, admit_ok]
        cases ha : adm L s i c t n with
        | true => simp
        | false =>
          simp only [Bool.false_eq_true, if_false]
          rw [if_neg h2, tdiv_wrap ht hs]
          have j1 : ∀ b, turnstileref05_Retry.j1 (k + 2) s i b = some (if b = true then start s i else if i = 18446744073709551615 then 18446744073709551615 else start s (i + 1)) := by
            intro b
            simp only [turnstileref05_Retry.j1]
            cases b with
            | true => simp [start_r hs hi]
            | false =>
              simp only [Bool.false_eq_true, if_false]
              by_cases h5 : i = 18446744073709551615
              · rw [if_pos h5, if_pos h5]
              · rw [if_neg h5, if_neg h5, wrapU (by omega) (by omega), start_r hs ⟨by omega, by omega⟩]; rfl
          by_cases h3 : t / s < i
          · rw [if_pos h3]
            by_cases h4 : c ≤ L
            · rw [if_pos h4, j1, wrapU (by omega) (by omega)]
              by_cases h5 : n ≤ L - c
              · rw [if_pos (by simpa using h5), if_pos ⟨h3, h5⟩]
              · rw [if_neg (by simpa using h5), if_neg (show ¬ (t / s < i ∧ n ≤ L - c) by omega)]
            · rw [if_neg h4, j1, if_neg (by simp), if_neg (show ¬ (t / s < i ∧ n ≤ L - c) by have := hn.1; omega)]
          · rw [if_neg h3, j1, if_neg (by simp), if_neg (show ¬ (t / s < i ∧ n ≤ L - c) by omega)]

theorem retry_U {L s i c t n : Int} (hs : U s) (hi : U i) (ht : U t) : U (retry L s i c t n) := by
  have hi1 := hi.1
  have hi2 := hi.2
  unfold retry; repeat' split
  · unfold U; omega
  · exact ht
  · exact start_U hs hi
  · unfold U; omega
  · exact start_U hs ⟨by omega, by omega⟩

/-- Retry's time is the least. -/
theorem retry_least {L s i c t n : Int} (hL : U L) (hs : U s) (hi : U i) (hc : U c) (ht : U t) (hn : U n) :
    t ≤ retry L s i c t n ∧ (retry L s i c t n ≠ 18446744073709551615 → adm L s i c (retry L s i c t n) n = true) ∧ ∀ u, t ≤ u → u < retry L s i c t n → adm L s i c u n = false := by
  have hL1 := hL.1
  have hc1 := hc.1
  have hn1 := hn.1
  have ht1 := ht.1
  have ht2 := ht.2
  have hi1 := hi.1
  have hi2 := hi.2
  have hs1 := hs.1
  unfold retry
  by_cases hz : n = 0 ∨ n > L ∨ s = 0
  · rw [if_pos hz]
    exact ⟨by omega, fun h => absurd rfl h, fun u _ _ => adm_none hL1 hc1 hz hn1⟩
  · rw [if_neg hz]
    have hs0 : s ≠ 0 := by omega
    have hsp : 0 < s := by omega
    have hn0 : 0 < n := by omega
    cases ha : adm L s i c t n with
    | true => exact ⟨Int.le_refl _, fun _ => ha, fun u h1 h2 => by rw [if_pos rfl] at h2; omega⟩
    | false =>
      have hna : ¬ ((t / s > i ∧ n ≤ L) ∨ (t / s = i ∧ c < L ∧ n ≤ L - c)) := by
        rw [← adm_iff' hs0 hn0, ha]; simp
      simp only [Bool.false_eq_true, if_false]
      have hfalse : ∀ u, ¬ ((u / s > i ∧ n ≤ L) ∨ (u / s = i ∧ c < L ∧ n ≤ L - c)) → adm L s i c u n = false := by
        intro u h
        rw [← adm_iff' hs0 hn0] at h
        simpa using h
      by_cases h1 : t / s < i ∧ n ≤ L - c
      · rw [if_pos h1]
        have h2 : t < s * i := (div_lt hsp).1 h1.1
        unfold start
        by_cases h3 : s * i < 18446744073709551616
        · rw [if_pos h3]
          refine ⟨by omega, fun _ => ?_, fun u hu1 hu2 => hfalse u ?_⟩
          · rw [adm_iff' hs0 hn0, mul_div hsp]; omega
          · have := (div_lt hsp).2 hu2; omega
        · rw [if_neg h3]
          refine ⟨by omega, fun h => absurd rfl h, fun u hu1 hu2 => hfalse u ?_⟩
          have := (div_lt (w := i) (t := u) hsp).2 (by omega); omega
      · rw [if_neg h1]
        by_cases h2 : i = 18446744073709551615
        · rw [if_pos h2]
          refine ⟨by omega, fun h => absurd rfl h, fun u hu1 hu2 => hfalse u ?_⟩
          have hd := div_facts u s (by omega) hsp
          have := Int.ediv_le_ediv hsp hu1
          omega
        · rw [if_neg h2]
          have h6 : t < s * (i + 1) := (div_lt hsp).1 (by omega)
          unfold start
          by_cases h3 : s * (i + 1) < 18446744073709551616
          · rw [if_pos h3]
            refine ⟨by omega, fun _ => ?_, fun u hu1 hu2 => hfalse u ?_⟩
            · rw [adm_iff' hs0 hn0, mul_div hsp]; omega
            · have := (div_lt hsp).2 hu2
              have := Int.ediv_le_ediv hsp hu1
              omega
          · rw [if_neg h3]
            refine ⟨by omega, fun h => absurd rfl h, fun u hu1 hu2 => hfalse u ?_⟩
            have := (div_lt (w := i + 1) (t := u) hsp).2 (by omega)
            have := Int.ediv_le_ediv hsp hu1
            omega

theorem index_f {s t : Int} (hs : U s) (ht : U t) : window_Index.f s t = some (t / s) := by
  unfold window_Index.f
  split
  · rename_i h; subst h; simp
  · rw [tdiv_wrap ht hs]
theorem index_r {s t : Int} (hs : U s) (ht : U t) : turnstileref05_Index.f s t = some (t / s) := by
  unfold turnstileref05_Index.f
  split
  · rename_i h; subst h; simp
  · rw [tdiv_wrap ht hs]

theorem awake_f (k : Nat) : turnstilelaw05_awake.f (k + 1) = some true := by
  unfold turnstilelaw05_awake.f
  rw [admit_f k ⟨by omega, by omega⟩ ⟨by omega, by omega⟩ ⟨by omega, by omega⟩ ⟨by omega, by omega⟩ ⟨by omega, by omega⟩]
  rw [retry_f k ⟨by omega, by omega⟩ ⟨by omega, by omega⟩ ⟨by omega, by omega⟩ ⟨by omega, by omega⟩ ⟨by omega, by omega⟩ ⟨by omega, by omega⟩]
  rw [index_f ⟨by omega, by omega⟩ ⟨by omega, by omega⟩, start_f ⟨by omega, by omega⟩ ⟨by omega, by omega⟩, left_f ⟨by omega, by omega⟩ ⟨by omega, by omega⟩ ⟨by omega, by omega⟩ ⟨by omega, by omega⟩]
  decide
end Go.Proofs.Ytocchdbmeokmhaa.WinPure
