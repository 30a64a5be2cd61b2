/- Layers 5 and 6 (civil, week) in plain Lean: days, months, years, weeks. No program in sight. -/
import Derived.WalkKit
set_option linter.unusedVariables false
namespace Go.Proofs.YtbeciinkecmbaaaDoor

/-- One more day, in a leap year. -/
def lp (y : Int) : Int := if y % 4 = 0 ∧ (y % 100 ≠ 0 ∨ y % 400 = 0) then 1 else 0
def leapB (y : Int) : Bool := decide (1600 ≤ y ∧ y ≤ 9999 ∧ lp y = 1)
theorem lp_01 (y : Int) : lp y = 0 ∨ lp y = 1 := by unfold lp; split <;> simp
/-- How many days are ahead of a year. -/
def yd (y : Int) : Int := (y - 1600) * 365 + ((y - 1600 + 3) / 4 - (y - 1600 + 99) / 100 + (y - 1600 + 399) / 400)
theorem yd_succ (y : Int) (h : 1600 ≤ y) : yd (y + 1) = yd y + 365 + lp y := by
  unfold yd lp
  split <;> omega
theorem yd_400 (y : Int) : yd (y + 400) = yd y + 146097 := by unfold yd; omega
theorem yd_first : yd 1600 = 0 := by decide
theorem yd_last : yd 10000 = 3068037 := by decide
theorem yd_bd (y : Int) (h : 1600 ≤ y) (h2 : y ≤ 10000) : 0 ≤ yd y ∧ yd y ≤ 3068037 := by unfold yd; omega
theorem yd_mono (a b : Int) (h : 1600 ≤ a) (hab : a ≤ b) : yd a ≤ yd b := by unfold yd; omega
theorem yd_lt (a b : Int) (h : 1600 ≤ a) (hab : a < b) : yd a + 365 ≤ yd b := by
  have h1 := yd_mono (a + 1) b (by omega) (by omega)
  have h2 := yd_succ a h
  have h3 := lp_01 a
  omega

/-- How long a month is. -/
def dim (y m : Int) : Int := if m = 2 then 28 + lp y else if m = 4 ∨ m = 6 ∨ m = 9 ∨ m = 11 then 30 else 31
/-- How many days of a year are ahead of a month. -/
def cumT (m : Int) : Int :=
  if m = 1 then 0 else if m = 2 then 31 else if m = 3 then 59 else if m = 4 then 90 else if m = 5 then 120 else if m = 6 then 151 else if m = 7 then 181
  else if m = 8 then 212 else if m = 9 then 243 else if m = 10 then 273 else if m = 11 then 304 else if m = 12 then 334 else 365
def cum (y m : Int) : Int := cumT m + if 2 < m then lp y else 0
theorem m_cases (m : Int) (h : 1 ≤ m) (h2 : m ≤ 12) : m = 1 ∨ m = 2 ∨ m = 3 ∨ m = 4 ∨ m = 5 ∨ m = 6 ∨ m = 7 ∨ m = 8 ∨ m = 9 ∨ m = 10 ∨ m = 11 ∨ m = 12 := by omega
theorem cum_succ (y m : Int) (h : 1 ≤ m) (h2 : m ≤ 12) : cum y (m + 1) = cum y m + dim y m := by
  rcases m_cases m h h2 with rfl | rfl | rfl | rfl | rfl | rfl | rfl | rfl | rfl | rfl | rfl | rfl <;> simp [cum, cumT, dim] <;> omega
theorem cum_one (y : Int) : cum y 1 = 0 := by simp [cum, cumT]
theorem cum_end (y : Int) : cum y 13 = 365 + lp y := by simp [cum, cumT]
theorem dim_bd (y m : Int) : 28 ≤ dim y m ∧ dim y m ≤ 31 := by
  have := lp_01 y
  unfold dim
  repeat' split
  all_goals omega
theorem cum_bd (y m : Int) (h : 1 ≤ m) (h2 : m ≤ 13) : 0 ≤ cum y m ∧ cum y m ≤ 366 := by
  have := lp_01 y
  by_cases h13 : m = 13
  · subst h13; rw [cum_end]; omega
  · rcases m_cases m h (by omega) with rfl | rfl | rfl | rfl | rfl | rfl | rfl | rfl | rfl | rfl | rfl | rfl <;> simp [cum, cumT] <;> omega
theorem cum_lt (y a b : Int) (h : 1 ≤ a) (hab : a < b) (hb : b ≤ 13) : cum y a + dim y a ≤ cum y b := by
  have hd : ∀ k : Nat, a + 1 + k ≤ 13 → cum y a + dim y a ≤ cum y (a + 1 + k) := by
    intro k
    induction k with
    | zero => intro _; rw [Int.natCast_zero, Int.add_zero, cum_succ y a h (by omega)]; omega
    | succ k ih =>
      intro hk
      have h1 := ih (by omega)
      have h2 := cum_succ y (a + 1 + k) (by omega) (by omega)
      have h3 := dim_bd y (a + 1 + k)
      have e : a + 1 + ((k + 1 : Nat) : Int) = a + 1 + k + 1 := by omega
      rw [e, h2]; omega
  have := hd (b - (a + 1)).toNat (by omega)
  have e : a + 1 + ((b - (a + 1)).toNat : Int) = b := by omega
  rwa [e] at this

/-- Is there such a day? -/
def vld (y m d : Int) : Prop := 1600 ≤ y ∧ y ≤ 9999 ∧ 1 ≤ m ∧ m ≤ 12 ∧ 1 ≤ d ∧ d ≤ dim y m
def vldB (y m d : Int) : Bool := decide (1600 ≤ y) && decide (y ≤ 9999) && decide (1 ≤ m) && decide (m ≤ 12) && decide (1 ≤ d) && decide (d ≤ dim y m)
theorem vldB_iff (y m d : Int) : vldB y m d = true ↔ vld y m d := by
  unfold vldB vld
  simp only [Bool.and_eq_true, decide_eq_true_eq]
  constructor
  · rintro ⟨⟨⟨⟨⟨a, b⟩, c⟩, d⟩, e⟩, f⟩; exact ⟨a, b, c, d, e, f⟩
  · rintro ⟨a, b, c, d, e, f⟩; exact ⟨⟨⟨⟨⟨a, b⟩, c⟩, d⟩, e⟩, f⟩
/-- A day's number. -/
def num (y m d : Int) : Int := yd y + cum y m + d - 1
theorem num_in_year (y m d : Int) (h : vld y m d) : yd y ≤ num y m d ∧ num y m d < yd (y + 1) := by
  obtain ⟨h1, h2, h3, h4, h5, h6⟩ := h
  have a := cum_bd y m h3 (by omega)
  have b := yd_succ y h1
  have c := cum_succ y m h3 h4
  have e := cum_bd y (m + 1) (by omega) (by omega)
  have f := cum_end y
  unfold num
  refine ⟨by omega, ?_⟩
  by_cases h12 : m = 12
  · subst h12
    have : cum y (12 + 1) = 365 + lp y := cum_end y
    omega
  · have := cum_lt y (m + 1) 13 (by omega) (by omega) (by omega)
    have := dim_bd y (m + 1)
    omega
theorem num_range (y m d : Int) (h : vld y m d) : 0 ≤ num y m d ∧ num y m d < 3068037 := by
  have h1 := num_in_year y m d h
  obtain ⟨a, b, _⟩ := h
  have h2 := yd_bd y a (by omega)
  have h3 := yd_bd (y + 1) (by omega) (by omega)
  omega
/-- Two days of one number are one. -/
theorem num_inj (y m d y' m' d' : Int) (h : vld y m d) (h' : vld y' m' d') (he : num y m d = num y' m' d') : y = y' ∧ m = m' ∧ d = d' := by
  have i := num_in_year y m d h
  have i' := num_in_year y' m' d' h'
  obtain ⟨h1, h2, h3, h4, h5, h6⟩ := h
  obtain ⟨h1', h2', h3', h4', h5', h6'⟩ := h'
  have hy : y = y' := by
    rcases Int.lt_trichotomy y y' with hlt | heq | hgt
    · have := yd_mono (y + 1) y' (by omega) (by omega); omega
    · exact heq
    · have := yd_mono (y' + 1) y (by omega) (by omega); omega
  subst hy
  unfold num at he
  have hm : m = m' := by
    rcases Int.lt_trichotomy m m' with hlt | heq | hgt
    · have := cum_lt y m m' h3 hlt (by omega); omega
    · exact heq
    · have := cum_lt y m' m h3' hgt (by omega); omega
  subst hm
  exact ⟨rfl, rfl, by omega⟩
theorem num_lt (y m d y' m' d' : Int) (h : vld y m d) (h' : vld y' m' d') : num y m d < num y' m' d' ↔ y < y' ∨ y = y' ∧ (m < m' ∨ m = m' ∧ d < d') := by
  have i := num_in_year y m d h
  have i' := num_in_year y' m' d' h'
  obtain ⟨h1, h2, h3, h4, h5, h6⟩ := h
  obtain ⟨h1', h2', h3', h4', h5', h6'⟩ := h'
  rcases Int.lt_trichotomy y y' with hlt | heq | hgt
  · have := yd_mono (y + 1) y' (by omega) (by omega); omega
  · subst heq
    unfold num
    rcases Int.lt_trichotomy m m' with hlt | heq | hgt
    · have := cum_lt y m m' h3 hlt (by omega); omega
    · subst heq; omega
    · have := cum_lt y m' m h3' hgt (by omega); omega
  · have := yd_mono (y' + 1) y (by omega) (by omega); omega

/-- The guess is never one too few. -/
theorem guess (n : Int) (h0 : 0 ≤ n) (h1 : n < 3068037) : n < yd (1600 + n / 146097 * 400 + n % 146097 / 36524 * 100 + n % 146097 % 36524 / 1461 * 4 + n % 146097 % 36524 % 1461 / 365 + 1) := by
  obtain ⟨a, ha⟩ : ∃ a, a = n / 146097 := ⟨_, rfl⟩
  obtain ⟨r1, hr1⟩ : ∃ a, a = n % 146097 := ⟨_, rfl⟩
  obtain ⟨b, hb⟩ : ∃ a, a = r1 / 36524 := ⟨_, rfl⟩
  obtain ⟨r2, hr2⟩ : ∃ a, a = r1 % 36524 := ⟨_, rfl⟩
  obtain ⟨c, hc⟩ : ∃ a, a = r2 / 1461 := ⟨_, rfl⟩
  obtain ⟨r3, hr3⟩ : ∃ a, a = r2 % 1461 := ⟨_, rfl⟩
  obtain ⟨d, hd⟩ : ∃ a, a = r3 / 365 := ⟨_, rfl⟩
  rw [← ha, ← hr1, ← hb, ← hr2, ← hc, ← hr3, ← hd]
  have b4 : b ≤ 4 := by omega
  have c24 : c ≤ 24 := by omega
  have d4 : d ≤ 4 := by omega
  unfold yd
  have e1 : (1600 + a * 400 + b * 100 + c * 4 + d + 1 - 1600 + 3) / 4 = a * 100 + b * 25 + c + (d + 4) / 4 := by omega
  have e2 : (1600 + a * 400 + b * 100 + c * 4 + d + 1 - 1600 + 99) / 100 = a * 4 + b + (c * 4 + d + 100) / 100 := by omega
  have e3 : (1600 + a * 400 + b * 100 + c * 4 + d + 1 - 1600 + 399) / 400 = a + (b * 100 + c * 4 + d + 400) / 400 := by omega
  rw [e1, e2, e3]
  omega
theorem guess_bd (n : Int) (h0 : 0 ≤ n) (h1 : n < 3068037) : 1600 ≤ 1600 + n / 146097 * 400 + n % 146097 / 36524 * 100 + n % 146097 % 36524 / 1461 * 4 + n % 146097 % 36524 % 1461 / 365 ∧
    1600 + n / 146097 * 400 + n % 146097 / 36524 * 100 + n % 146097 % 36524 / 1461 * 4 + n % 146097 % 36524 % 1461 / 365 ≤ 10400 := by omega

/-! ### Weeks -/
def wdOf (n : Int) : Int := (n + 5) % 7 + 1
theorem wdOf_bd (n : Int) : 1 ≤ wdOf n ∧ wdOf n ≤ 7 := by unfold wdOf; omega
/-- The first Monday of an ISO year. -/
def fst (y : Int) : Int := yd y + 4 - wdOf (yd y + 3)
theorem fst_bd (y : Int) : yd y - 3 ≤ fst y ∧ fst y ≤ yd y + 3 := by unfold fst wdOf; omega
theorem fst_mod (y : Int) : (fst y + 5) % 7 = 0 := by unfold fst wdOf; omega

/-- An ISO day of a day's number: y is its Thursday's year. -/
def IsoIs (n y w d : Int) : Prop := d = wdOf n ∧
  ((n + 4 - wdOf n < 0 ∧ y = 1599 ∧ w = 52) ∨ (0 ≤ n + 4 - wdOf n ∧ 1600 ≤ y ∧ y ≤ 9999 ∧ yd y ≤ n + 4 - wdOf n ∧ n + 4 - wdOf n < yd (y + 1) ∧ w = (n + 4 - wdOf n - yd y) / 7 + 1))
theorem iso_div (n y : Int) (h : yd y ≤ n + 4 - wdOf n) : (n + 1 - wdOf n - fst y) / 7 = (n + 4 - wdOf n - yd y) / 7 ∧ 0 ≤ n + 1 - wdOf n - fst y := by
  unfold fst wdOf at *
  omega
theorem year_of (n : Int) (h0 : 0 ≤ n) (h1 : n < 3068037) : ∀ k : Nat, ∀ y : Int, 1600 ≤ y → y ≤ 9999 → n < yd (y + 1) → (y - 1600).toNat = k → ∃ z, 1600 ≤ z ∧ z ≤ 9999 ∧ yd z ≤ n ∧ n < yd (z + 1) := by
  intro k
  induction k with
  | zero =>
    intro y hy hy2 hn hk
    obtain rfl : y = 1600 := by omega
    exact ⟨1600, by omega, by omega, by rw [yd_first]; omega, hn⟩
  | succ k ih =>
    intro y hy hy2 hn hk
    by_cases hle : yd y ≤ n
    · exact ⟨y, hy, hy2, hle, hn⟩
    · have e : y - 1 + 1 = y := by omega
      exact ih (y - 1) (by omega) (by omega) (by rw [e]; omega) (by omega)
theorem year_ex (n : Int) (h0 : 0 ≤ n) (h1 : n < 3068037) : ∃ z, 1600 ≤ z ∧ z ≤ 9999 ∧ yd z ≤ n ∧ n < yd (z + 1) :=
  year_of n h0 h1 _ 9999 (by omega) (by omega) (by rw [show (9999 : Int) + 1 = 10000 from rfl, yd_last]; omega) rfl
theorem year_uniq (n y z : Int) (h1 : 1600 ≤ y) (h2 : 1600 ≤ z) (a : yd y ≤ n) (b : n < yd (y + 1)) (c : yd z ≤ n) (d : n < yd (z + 1)) : y = z := by
  rcases Int.lt_trichotomy y z with hlt | heq | hgt
  · have := yd_mono (y + 1) z (by omega) (by omega); omega
  · exact heq
  · have := yd_mono (z + 1) y (by omega) (by omega); omega
theorem thu_hi (n : Int) (h : n < 3068037) (h0 : 0 ≤ n) : n + 4 - wdOf n < 3068037 := by unfold wdOf; omega
theorem iso_ex (n : Int) (h0 : 0 ≤ n) (h1 : n < 3068037) : ∃ y w d, IsoIs n y w d := by
  by_cases ht : n + 4 - wdOf n < 0
  · exact ⟨1599, 52, wdOf n, rfl, .inl ⟨ht, rfl, rfl⟩⟩
  · obtain ⟨z, a, b, c, d⟩ := year_ex (n + 4 - wdOf n) (by omega) (thu_hi n h1 h0)
    exact ⟨z, _, wdOf n, rfl, .inr ⟨by omega, a, b, c, d, rfl⟩⟩
theorem iso_uniq (n y w d y' w' d' : Int) (h : IsoIs n y w d) (h' : IsoIs n y' w' d') : y = y' ∧ w = w' ∧ d = d' := by
  obtain ⟨rfl, h⟩ := h
  obtain ⟨rfl, h'⟩ := h'
  rcases h with ⟨a, rfl, rfl⟩ | ⟨a, b, c, e, f, rfl⟩ <;> rcases h' with ⟨a', rfl, rfl⟩ | ⟨a', b', c', e', f', rfl⟩
  · exact ⟨rfl, rfl, rfl⟩
  · omega
  · omega
  · have := year_uniq _ y y' b b' e f e' f'
    subst this
    exact ⟨rfl, rfl, rfl⟩
theorem iso_bd (n y w d : Int) (h0 : 0 ≤ n) (h1 : n < 3068037) (h : IsoIs n y w d) : 1599 ≤ y ∧ y ≤ 9999 ∧ 1 ≤ w ∧ w ≤ 53 ∧ 1 ≤ d ∧ d ≤ 7 := by
  obtain ⟨rfl, h⟩ := h
  have hw := wdOf_bd n
  rcases h with ⟨a, rfl, rfl⟩ | ⟨a, b, c, e, f, rfl⟩
  · omega
  · have h2 := yd_succ y b
    have h3 := lp_01 y
    omega
/-- The first day of an ISO year, that ahead of the first one too. -/
def fst' (y : Int) : Int := if y < 1600 then fst 1600 - 364 else fst y
/-- The day of an ISO day. -/
theorem iso_day (n y w d : Int) (h0 : 0 ≤ n) (h1 : n < 3068037) (h : IsoIs n y w d) : n = fst' y + 7 * (w - 1) + d - 1 := by
  obtain ⟨rfl, h⟩ := h
  rcases h with ⟨a, rfl, rfl⟩ | ⟨a, b, c, e, f, rfl⟩
  · unfold fst'
    rw [if_pos (by omega)]
    have : fst 1600 = 2 := by decide
    rw [this]
    unfold wdOf at *
    omega
  · unfold fst'
    rw [if_neg (by omega)]
    have h2 := iso_div n y e
    have h3 := fst_mod y
    have h4 : (n + 1 - wdOf n + 5) % 7 = 0 := by unfold wdOf; omega
    omega
theorem iso_order (n n' y w d y' w' d' : Int) (h0 : 0 ≤ n) (h1 : n < 3068037) (h0' : 0 ≤ n') (h1' : n' < 3068037) (h : IsoIs n y w d) (h' : IsoIs n' y' w' d') :
    n < n' ↔ y < y' ∨ y = y' ∧ (w < w' ∨ w = w' ∧ d < d') := by
  have a := iso_day n y w d h0 h1 h
  have a' := iso_day n' y' w' d' h0' h1' h'
  have b := iso_bd n y w d h0 h1 h
  have b' := iso_bd n' y' w' d' h0' h1' h'
  rcases Int.lt_trichotomy y y' with hlt | heq | hgt
  · have : n < n' := by
      obtain ⟨rfl, h⟩ := h
      obtain ⟨rfl, h'⟩ := h'
      rcases h with ⟨p, rfl, rfl⟩ | ⟨p, q, r, s, t, rfl⟩ <;> rcases h' with ⟨p', rfl, rfl⟩ | ⟨p', q', r', s', t', rfl⟩
      · omega
      · unfold wdOf at *; omega
      · omega
      · have := yd_mono (y + 1) y' (by omega) (by omega)
        unfold wdOf at *; omega
    omega
  · subst heq
    omega
  · have : n' < n := by
      obtain ⟨rfl, h⟩ := h
      obtain ⟨rfl, h'⟩ := h'
      rcases h with ⟨p, rfl, rfl⟩ | ⟨p, q, r, s, t, rfl⟩ <;> rcases h' with ⟨p', rfl, rfl⟩ | ⟨p', q', r', s', t', rfl⟩
      · omega
      · omega
      · unfold wdOf at *; omega
      · have := yd_mono (y' + 1) y (by omega) (by omega)
        unfold wdOf at *; omega
    omega

end Go.Proofs.YtbeciinkecmbaaaDoor
