/- The month of a day, in numbers as the program computes them; the arithmetic about them. Plain definitions and theorems, no program in sight. -/
import GoSem.Core.View
set_option linter.unusedVariables false
set_option linter.unusedSimpArgs false
namespace Go.Proofs.YtldanodmjilfaaaDoor
open Go
theorem wrap_id {x : Int} (h : -9223372036854775808 ≤ x ∧ x < 9223372036854775808) : IntKind.i64.wrap x = x := by
  unfold IntKind.wrap
  have e1 : (2 : Int) ^ IntKind.i64.bits = 18446744073709551616 := by decide
  have e2 : (2 : Int) ^ (IntKind.i64.bits - 1) = 9223372036854775808 := by decide
  have e3 : IntKind.i64.signed = true := rfl
  simp only [e1, e2, e3, Bool.true_and, decide_eq_true_eq]
  split <;> omega
theorem yr0 {d s c4 b a c Y : Int} (hc4 : c4 = 0 ∨ c4 = 1 ∨ c4 = 2 ∨ c4 = 3) (hd : d = 36524 * c4 + s) (h0 : 0 ≤ s) (h1 : s ≤ 36524) (h2 : s = 36524 → c4 = 3) (ha : a = d / 1460) (hb : b = d / 36524) (hc : c = d / 146096) (hY : Y = (d - a + b - c) / 365) :
    0 ≤ d - (365 * Y + Y / 4 - Y / 100) ∧ d - (365 * Y + Y / 4 - Y / 100) ≤ 365 ∧ 0 ≤ Y ∧ Y ≤ 399 := by
  have hbc : b - c = c4 := by rcases hc4 with rfl | rfl | rfl | rfl <;> omega
  obtain ⟨k, hk⟩ : ∃ k, k = s / 1461 := ⟨_, rfl⟩
  obtain ⟨t, ht⟩ : ∃ t, t = s - 1461 * k := ⟨_, rfl⟩
  have hk0 : 0 ≤ k ∧ k ≤ 24 := by omega
  have ht0 : 0 ≤ t ∧ t ≤ 1460 := by omega
  obtain ⟨q, hq⟩ : ∃ q, q = (24 * c4 + k + t) / 1460 := ⟨_, rfl⟩
  have hq0 : q = 0 ∨ q = 1 := by rcases hc4 with rfl | rfl | rfl | rfl <;> omega
  have haq : a = 25 * c4 + k + q := by
    have e : d = 1460 * (25 * c4 + k) + (24 * c4 + k + t) := by omega
    rw [ha, e, Int.mul_add_ediv_left _ _ (by decide), hq]
  have hj : Y = 100 * c4 + 4 * k + (t - q) / 365 := by
    have e : d - a + b - c = 365 * (100 * c4 + 4 * k) + (t - q) := by omega
    rw [hY, e, Int.mul_add_ediv_left _ _ (by decide)]
  obtain ⟨j, hj2⟩ : ∃ j, j = (t - q) / 365 := ⟨_, rfl⟩
  have hj0 : j = 0 ∨ j = 1 ∨ j = 2 ∨ j = 3 := by omega
  have hY4 : Y / 4 = 25 * c4 + k := by rcases hj0 with rfl | rfl | rfl | rfl <;> omega
  have hY100 : Y / 100 = c4 := by rcases hj0 with rfl | rfl | rfl | rfl <;> omega
  rw [hY4, hY100]
  rcases hj0 with rfl | rfl | rfl | rfl <;> rcases hq0 with rfl | rfl <;> omega
theorem yr {d a b c Y : Int} (h0 : 0 ≤ d) (h1 : d ≤ 146096) (ha : a = d / 1460) (hb : b = d / 36524) (hc : c = d / 146096) (hY : Y = (d - a + b - c) / 365) :
    0 ≤ d - (365 * Y + Y / 4 - Y / 100) ∧ d - (365 * Y + Y / 4 - Y / 100) ≤ 365 ∧ 0 ≤ Y ∧ Y ≤ 399 := by
  have hb4 : (b = 0 ∨ b = 1 ∨ b = 2 ∨ b = 3) ∨ b = 4 := by omega
  rcases hb4 with h | h
  · exact yr0 (c4 := b) (s := d - 36524 * b) h (by omega) (by omega) (by omega) (by omega) ha hb hc hY
  · exact yr0 (c4 := 3) (s := d - 36524 * 3) (by omega) (by omega) (by omega) (by omega) (by omega) ha hb hc hY
/-- A day's month, in whole numbers: era e, year y of the era, day r of the year. -/
structure Cal (z e y r v : Int) : Prop where
  n : z + 719468 = 146097 * e + 365 * y + y / 4 - y / 100 + r
  y0 : 0 ≤ y ∧ y ≤ 399
  r0 : 0 ≤ r ∧ r ≤ 365
  er : e = (z + 719468) / 146097
  v : v = 12 * (400 * e + y) + (5 * r + 2) / 153 - 23638
theorem f_mono {y y' : Int} (h : y ≤ y') : y / 4 - y / 100 ≤ y' / 4 - y' / 100 := by
  have e1 : y / 100 = (y / 4) / 25 := by omega
  have e2 : y' / 100 = (y' / 4) / 25 := by omega
  rw [e1, e2]
  have h1 : y / 4 ≤ y' / 4 := by omega
  generalize y / 4 = u at *
  generalize y' / 4 = u' at *
  have : u = u' ∨ u + 1 ≤ u' := by omega
  rcases this with rfl | h2
  · omega
  · omega
theorem cal_step {z e y r v k e' y' r' v' : Int} (h : Cal z e y r v) (h' : Cal (z + k) e' y' r' v') (hk : 1 ≤ k ∧ k ≤ 31) :
    (k = 1 → v' = v ∨ v' = v + 1) ∧ (k = 28 → v' ≤ v + 1) ∧ (k = 31 → v < v' ∧ v' ≤ v + 2) := by
  obtain ⟨hn, hy, hr, he, hv⟩ := h
  obtain ⟨hn', hy', hr', he', hv'⟩ := h'
  have hee : e' = e ∨ e' = e + 1 := by omega
  have m1 := fun h : y ≤ y' => f_mono h
  have m2 := fun h : y' ≤ y => f_mono h
  have m3 : y' = y + 1 → y' / 4 - y' / 100 ≤ y / 4 - y / 100 + 1 := by rintro rfl; omega
  have m4 : y = 399 → y / 4 - y / 100 = 96 := by rintro rfl; rfl
  have m5 : y' = 0 → y' / 4 - y' / 100 = 0 := by rintro rfl; rfl
  have m6 : 0 ≤ y' / 4 - y' / 100 := f_mono (y := 0) hy'.1
  have m7 : y / 4 - y / 100 ≤ 96 := f_mono (y' := 399) hy.2
  obtain ⟨F, hF⟩ : ∃ F, F = y / 4 - y / 100 := ⟨_, rfl⟩
  obtain ⟨F', hF'⟩ : ∃ F', F' = y' / 4 - y' / 100 := ⟨_, rfl⟩
  rw [← hF, ← hF'] at m1 m2 m3
  rw [← hF] at m4 m7
  rw [← hF'] at m5 m6
  have hn2 : z + 719468 = 146097 * e + 365 * y + F + r := by omega
  have hn2' : z + k + 719468 = 146097 * e' + 365 * y' + F' + r' := by omega
  clear hn hn' hF hF'
  obtain ⟨M, hM⟩ : ∃ M, M = (5 * r + 2) / 153 := ⟨_, rfl⟩
  obtain ⟨M', hM'⟩ : ∃ M', M' = (5 * r' + 2) / 153 := ⟨_, rfl⟩
  rw [← hM] at hv
  rw [← hM'] at hv'
  rcases hee with rfl | rfl
  · have hyy : y' = y ∨ y' = y + 1 := by
      rcases Int.lt_or_le y' y with h | h
      · have := m2 (by omega); omega
      · have := m1 h; omega
    rcases hyy with hyy | hyy
    · have a1 := m1 (by omega)
      have a2 := m2 (by omega)
      have : r' = r + k := by omega
      subst this
      refine ⟨?_, ?_, ?_⟩ <;> (rintro rfl; omega)
    · have a1 := m1 (by omega)
      have a2 := m3 hyy
      have : r' = r + k - 365 ∨ r' = r + k - 366 := by omega
      rcases this with rfl | rfl <;> refine ⟨?_, ?_, ?_⟩ <;> (rintro rfl; omega)
  · have hy0 : y' = 0 := by omega
    have hy1 : y = 399 := by omega
    have a1 := m4 hy1
    have a2 := m5 hy0
    have : r' = r + k - 366 := by omega
    subst this
    refine ⟨?_, ?_, ?_⟩ <;> (rintro rfl; omega)
theorem cal_sign {z e y r v : Int} (h : Cal z e y r v) : z < 0 ↔ v < 0 := by
  obtain ⟨hn, hy, hr, he, hv⟩ := h
  have h3 : e ≤ 3 ∨ e = 4 ∨ 5 ≤ e := by omega
  rcases h3 with h3 | rfl | h3
  · omega
  · have : y < 369 ∨ y = 369 ∨ 369 < y := by omega
    rcases this with h4 | rfl | h4 <;> omega
  · omega
def mC (z : Int) : Int := (if 1000000 < (if (-1000000) > z then (-1000000) else z) then 1000000 else (if (-1000000) > z then (-1000000) else z))
def mN (z : Int) : Int := IntKind.i64.wrap (mC z + 719468)
def mE0 (z : Int) : Int := IntKind.i64.wrap (Int.tdiv (mN z) 146097)
def mE1 (z : Int) : Int := IntKind.i64.wrap (Int.tdiv (IntKind.i64.wrap (mN z - 146096)) 146097)
def mDay (z e : Int) : Int := IntKind.i64.wrap (mN z - IntKind.i64.wrap (e * 146097))
def mYear (d : Int) : Int := IntKind.i64.wrap (Int.tdiv (IntKind.i64.wrap (IntKind.i64.wrap (IntKind.i64.wrap (d - IntKind.i64.wrap (Int.tdiv d 1460)) + IntKind.i64.wrap (Int.tdiv d 36524)) - IntKind.i64.wrap (Int.tdiv d 146096))) 365)
def mRest (d y : Int) : Int := IntKind.i64.wrap (d - IntKind.i64.wrap (IntKind.i64.wrap (IntKind.i64.wrap (365 * y) + IntKind.i64.wrap (Int.tdiv y 4)) - IntKind.i64.wrap (Int.tdiv y 100)))
def mMon (r : Int) : Int := IntKind.i64.wrap (Int.tdiv (IntKind.i64.wrap (IntKind.i64.wrap (5 * r) + 2)) 153)
def mOut (e y m : Int) : Int := IntKind.i64.wrap (IntKind.i64.wrap (IntKind.i64.wrap (IntKind.i64.wrap (IntKind.i64.wrap (IntKind.i64.wrap (e * 400) + y) * 12) + m) + 2) - 23640)
def mAll (z e : Int) : Int := mOut e (mYear (mDay z e)) (mMon (mRest (mDay z e) (mYear (mDay z e))))
def monthZ (z : Int) : Int := if mN z < 0 then mAll z (mE1 z) else mAll z (mE0 z)
theorem monthZ_neg {z : Int} (h : mN z < 0) : monthZ z = mOut (mE1 z) (mYear (mDay z (mE1 z))) (mMon (mRest (mDay z (mE1 z)) (mYear (mDay z (mE1 z))))) := by unfold monthZ; rw [if_pos h]; rfl
theorem monthZ_pos {z : Int} (h : ¬ mN z < 0) : monthZ z = mOut (mE0 z) (mYear (mDay z (mE0 z))) (mMon (mRest (mDay z (mE0 z)) (mYear (mDay z (mE0 z))))) := by unfold monthZ; rw [if_neg h]; rfl
theorem mN_eq {z : Int} (h : -1000000 ≤ z ∧ z ≤ 1000000) : mN z = z + 719468 := by
  have e : mC z = z := by unfold mC; rw [if_neg (by omega), if_neg (by omega)]
  unfold mN
  rw [e, wrap_id (by omega)]
theorem mYear_eq {d : Int} (h : 0 ≤ d ∧ d ≤ 146096) : mYear d = (d - d / 1460 + d / 36524 - d / 146096) / 365 := by
  unfold mYear
  rw [Int.tdiv_eq_ediv_of_nonneg h.1, Int.tdiv_eq_ediv_of_nonneg h.1, Int.tdiv_eq_ediv_of_nonneg h.1]
  rw [wrap_id (x := d / 1460) (by omega), wrap_id (x := d / 36524) (by omega), wrap_id (x := d / 146096) (by omega), wrap_id (x := d - d / 1460) (by omega), wrap_id (x := d - d / 1460 + d / 36524) (by omega), wrap_id (x := d - d / 1460 + d / 36524 - d / 146096) (by omega)]
  rw [Int.tdiv_eq_ediv_of_nonneg (by omega), wrap_id (by omega)]
theorem mRest_eq {d y : Int} (hd : 0 ≤ d ∧ d ≤ 146096) (h : 0 ≤ y ∧ y ≤ 399) : mRest d y = d - (365 * y + y / 4 - y / 100) := by
  unfold mRest
  rw [Int.tdiv_eq_ediv_of_nonneg h.1, Int.tdiv_eq_ediv_of_nonneg h.1]
  rw [wrap_id (x := 365 * y) (by omega), wrap_id (x := y / 4) (by omega), wrap_id (x := y / 100) (by omega), wrap_id (x := 365 * y + y / 4) (by omega), wrap_id (x := 365 * y + y / 4 - y / 100) (by omega), wrap_id (by omega)]
theorem mMon_eq {r : Int} (h : 0 ≤ r ∧ r ≤ 365) : mMon r = (5 * r + 2) / 153 := by
  unfold mMon
  rw [wrap_id (x := 5 * r) (by omega), wrap_id (x := 5 * r + 2) (by omega), Int.tdiv_eq_ediv_of_nonneg (by omega), wrap_id (by omega)]
theorem mOut_eq {e y m : Int} (he : -1000 ≤ e ∧ e ≤ 1000) (hy : 0 ≤ y ∧ y ≤ 399) (hm : 0 ≤ m ∧ m ≤ 20) : mOut e y m = 12 * (400 * e + y) + m - 23638 := by
  unfold mOut
  rw [wrap_id (x := e * 400) (by omega), wrap_id (x := e * 400 + y) (by omega), wrap_id (x := (e * 400 + y) * 12) (by omega), wrap_id (x := (e * 400 + y) * 12 + m) (by omega), wrap_id (x := (e * 400 + y) * 12 + m + 2) (by omega), wrap_id (by omega)]
  omega
theorem mE_neg {z : Int} (h : -1000000 ≤ z ∧ z ≤ 1000000) (hn : mN z < 0) : mE1 z = (z + 719468) / 146097 := by
  unfold mE1
  rw [mN_eq h] at hn ⊢
  rw [wrap_id (x := z + 719468 - 146096) (by omega)]
  have e : z + 719468 - 146096 = -(146096 - (z + 719468)) := by omega
  rw [e, Int.neg_tdiv, Int.tdiv_eq_ediv_of_nonneg (by omega), wrap_id (by omega)]
  omega
theorem mE_pos {z : Int} (h : -1000000 ≤ z ∧ z ≤ 1000000) (hn : ¬ mN z < 0) : mE0 z = (z + 719468) / 146097 := by
  unfold mE0
  rw [mN_eq h] at hn ⊢
  rw [Int.tdiv_eq_ediv_of_nonneg (by omega), wrap_id (by omega)]
theorem mAll_cal {z e : Int} (h : -1000000 ≤ z ∧ z ≤ 1000000) (he : e = (z + 719468) / 146097) : ∃ y r, Cal z e y r (mAll z e) := by
  have hd : mDay z e = z + 719468 - e * 146097 := by
    unfold mDay
    rw [mN_eq h, wrap_id (x := e * 146097) (by omega), wrap_id (by omega)]
  have hd0 : 0 ≤ mDay z e ∧ mDay z e ≤ 146096 := by rw [hd]; omega
  have hy := yr hd0.1 hd0.2 rfl rfl rfl rfl
  have ey := mYear_eq hd0
  rw [← ey] at hy
  obtain ⟨y1, y2, y3, y4⟩ := hy
  have er := mRest_eq hd0 ⟨y3, y4⟩
  have em := mMon_eq (r := mRest (mDay z e) (mYear (mDay z e))) (by rw [er]; exact ⟨y1, y2⟩)
  refine ⟨mYear (mDay z e), mRest (mDay z e) (mYear (mDay z e)), ?_, ⟨y3, y4⟩, by rw [er]; exact ⟨y1, y2⟩, he, ?_⟩
  · rw [er]
    generalize mYear (mDay z e) = y at *
    omega
  · unfold mAll
    rw [em]
    refine mOut_eq (by omega) ⟨y3, y4⟩ ?_
    rw [er]
    omega
theorem month_cal {z : Int} (h : -1000000 ≤ z ∧ z ≤ 1000000) : ∃ e y r, Cal z e y r (monthZ z) := by
  unfold monthZ
  split
  · rename_i hn
    exact ⟨_, mAll_cal h (mE_neg h hn)⟩
  · rename_i hn
    exact ⟨_, mAll_cal h (mE_pos h hn)⟩
def dayOf (n : Int) : Int := Int.tmod (IntKind.i64.wrap n) 850000
theorem dayOf_range {n : Int} (h : -2147483648 ≤ n ∧ n < 2147483648) : -850000 < dayOf n ∧ dayOf n < 850000 := by
  unfold dayOf
  rw [wrap_id (by omega)]
  have h1 := Int.tmod_lt_of_pos n (b := 850000) (by decide)
  refine ⟨?_, h1⟩
  have h2 := Int.tmod_lt_of_pos (-n) (b := 850000) (by decide)
  rw [Int.neg_tmod] at h2
  omega
section
variable {z0 : Int} (hz : -2147483648 ≤ z0 ∧ z0 < 2147483648)
include hz
theorem day_step (k : Int) (hk : 1 ≤ k ∧ k ≤ 31) : (k = 1 → monthZ (IntKind.i64.wrap (dayOf z0 + k)) = monthZ (dayOf z0) ∨ monthZ (IntKind.i64.wrap (dayOf z0 + k)) = monthZ (dayOf z0) + 1) ∧ (k = 28 → monthZ (IntKind.i64.wrap (dayOf z0 + k)) ≤ monthZ (dayOf z0) + 1) ∧ (k = 31 → monthZ (dayOf z0) < monthZ (IntKind.i64.wrap (dayOf z0 + k)) ∧ monthZ (IntKind.i64.wrap (dayOf z0 + k)) ≤ monthZ (dayOf z0) + 2) := by
  have hd := dayOf_range hz
  rw [wrap_id (by omega)]
  obtain ⟨e, y, r, h⟩ := month_cal (z := dayOf z0) (by omega)
  obtain ⟨e', y', r', h'⟩ := month_cal (z := dayOf z0 + k) (by omega)
  exact cal_step h h' hk
theorem month_small : -1000000 ≤ monthZ (dayOf z0) ∧ monthZ (dayOf z0) ≤ 1000000 := by
  have hd := dayOf_range hz
  obtain ⟨e, y, r, h⟩ := month_cal (z := dayOf z0) (by omega)
  obtain ⟨hn, hy, hr, he, hv⟩ := h
  omega
theorem law_b (h : ¬ monthZ (IntKind.i64.wrap (dayOf z0 + 1)) = monthZ (dayOf z0)) : (monthZ (IntKind.i64.wrap (dayOf z0 + 1)) == IntKind.i64.wrap (monthZ (dayOf z0) + 1)) = true := by
  have hs := month_small hz
  rw [wrap_id (x := monthZ (dayOf z0) + 1) (by omega), beq_iff_eq]
  rcases (day_step hz 1 (by omega)).1 rfl with h1 | h1
  · exact absurd h1 h
  · exact h1
theorem law_hc1 : decide (monthZ (IntKind.i64.wrap (dayOf z0 + 31)) > monthZ (dayOf z0)) = true := decide_eq_true ((day_step hz 31 (by omega)).2.2 rfl).1
theorem law_hc2 : decide (monthZ (IntKind.i64.wrap (dayOf z0 + 31)) ≤ IntKind.i64.wrap (monthZ (dayOf z0) + 2)) = true := by
  have hs := month_small hz
  rw [wrap_id (x := monthZ (dayOf z0) + 2) (by omega)]
  exact decide_eq_true ((day_step hz 31 (by omega)).2.2 rfl).2
theorem law_he : decide (monthZ (IntKind.i64.wrap (dayOf z0 + 28)) ≤ IntKind.i64.wrap (monthZ (dayOf z0) + 1)) = true := by
  have hs := month_small hz
  rw [wrap_id (x := monthZ (dayOf z0) + 1) (by omega)]
  exact decide_eq_true ((day_step hz 28 (by omega)).2.1 rfl)
theorem law_hd : (monthZ (IntKind.i64.wrap (dayOf z0 + 146097)) == IntKind.i64.wrap (monthZ (dayOf z0) + 4800)) = true := by
  have hs := month_small hz
  have hd := dayOf_range hz
  rw [wrap_id (x := monthZ (dayOf z0) + 4800) (by omega), wrap_id (x := dayOf z0 + 146097) (by omega), beq_iff_eq]
  have key : ∀ z e, -1000000 ≤ z ∧ z + 146097 ≤ 1000000 → e = (z + 719468) / 146097 → mAll (z + 146097) (e + 1) = mAll z e + 4800 := by
    intro z e h he
    have d1 : mDay (z + 146097) (e + 1) = mDay z e := by
      unfold mDay
      rw [mN_eq (by omega), mN_eq (by omega), wrap_id (x := e * 146097) (by omega), wrap_id (x := (e + 1) * 146097) (by omega)]
      congr 1
      omega
    have hd0 : mDay z e = z + 719468 - e * 146097 := by
      unfold mDay
      rw [mN_eq (by omega), wrap_id (x := e * 146097) (by omega), wrap_id (by omega)]
    have hd1 : 0 ≤ mDay z e ∧ mDay z e ≤ 146096 := by rw [hd0]; omega
    have hy := yr hd1.1 hd1.2 rfl rfl rfl rfl
    rw [← mYear_eq hd1] at hy
    obtain ⟨y1, y2, y3, y4⟩ := hy
    have er := mRest_eq hd1 ⟨y3, y4⟩
    have em := mMon_eq (r := mRest (mDay z e) (mYear (mDay z e))) (by rw [er]; exact ⟨y1, y2⟩)
    have hm : 0 ≤ mMon (mRest (mDay z e) (mYear (mDay z e))) ∧ mMon (mRest (mDay z e) (mYear (mDay z e))) ≤ 20 := by rw [em, er]; omega
    unfold mAll
    rw [d1, mOut_eq (by omega) ⟨y3, y4⟩ hm, mOut_eq (by omega) ⟨y3, y4⟩ hm]
    omega
  have hE : ∀ z, -1000000 ≤ z ∧ z ≤ 1000000 → monthZ z = mAll z ((z + 719468) / 146097) := by
    intro z h
    unfold monthZ
    split
    · rename_i hn
      rw [mE_neg h hn]
    · rename_i hn
      rw [mE_pos h hn]
  rw [hE _ (by omega), hE _ (by omega)]
  have e1 : (dayOf z0 + 146097 + 719468) / 146097 = (dayOf z0 + 719468) / 146097 + 1 := by omega
  rw [e1]
  exact key _ _ (by omega) rfl
theorem law_s : (decide (dayOf z0 < 0) == decide (monthZ (dayOf z0) < 0)) = true := by
  have hd := dayOf_range hz
  obtain ⟨e, y, r, h⟩ := month_cal (z := dayOf z0) (by omega)
  have := cal_sign h
  rw [beq_iff_eq]
  exact decide_eq_decide.2 this
end
end Go.Proofs.YtldanodmjilfaaaDoor
