/- Plain: rows of granules, one behind the other; months and years. -/
import Derived.Test.YtainibnjpkbfpaaCalM3
import Derived.Test.YtainibnjpkbfpaaCivM
import Derived.Test.YtainibnjpkbfpaaCivM2
namespace Go.Proofs.Ytainibnjpkbfpaa.Cv
set_option linter.unusedVariables false
set_option linter.unusedSimpArgs false

/-- The spans between the values of a function. -/
def sp (f : Nat → Int) (n : Nat) : List (Int × Int) := (List.range n).map fun i => (f i, f (i + 1))
section
variable {f : Nat → Int} {n : Nat}
theorem sp_len : (sp f n).length = n := by simp [sp]
theorem sp_gt {i : Nat} (h : i < n) : gt (sp f n) i = (f i, f (i + 1)) := gt_of (by simp [sp, h])
theorem sp_succ : sp f (n + 1) = sp f n ++ [(f n, f (n + 1))] := by simp [sp, List.range_succ]
structure Inc (f : Nat → Int) (n : Nat) : Prop where
  z : f 0 = 0
  lt : ∀ i, i < n → f i < f (i + 1)
  up : f n ≤ 12622780800
theorem Inc.mono (h : Inc f n) : ∀ (j i : Nat), i + j ≤ n → f i + j ≤ f (i + j)
  | 0, i, _ => by simp
  | j + 1, i, hi => by
    have h1 := h.mono j i (by omega)
    have h2 := h.lt (i + j) (by omega)
    rw [show i + (j + 1) = i + j + 1 by omega]
    push_cast; omega
theorem Inc.le (h : Inc f n) {i j : Nat} (hij : i ≤ j) (hj : j ≤ n) : f i ≤ f j := by
  have := h.mono (j - i) i (by omega)
  rw [show i + (j - i) = j by omega] at this; omega
theorem Inc.bd (h : Inc f n) {i : Nat} (hi : i ≤ n) : 0 ≤ f i ∧ f i ≤ 12622780800 := by
  have h1 := h.le (Nat.zero_le i) hi
  have h2 := h.le hi (Nat.le_refl n)
  have := h.z
  have := h.up
  omega
theorem Inc.asc (h : Inc f n) (h0 : 0 < n) : ascB (sp f n) = true := by
  unfold ascB
  refine decide_eq_true ⟨by rw [sp_len]; exact h0, fun i hi => ?_⟩
  rw [sp_len] at hi
  have b1 := h.bd (i := i) (by omega)
  have b2 := h.bd (i := i + 1) (by omega)
  have b3 := h.lt i hi
  have hs : svld (gt (sp f n) i) = true := by
    rw [sp_gt hi]; unfold svld; exact decide_eq_true (by dsimp only; omega)
  unfold okAt
  rw [hs, Bool.true_and]
  rcases i with _ | i
  · rfl
  · have : decide ((gt (sp f n) (i + 1 - 1)).2 ≤ (gt (sp f n) (i + 1)).1) = true := by
      rw [Nat.add_sub_cancel, sp_gt hi, sp_gt (by omega)]; simp
    rw [this]; simp
theorem Inc.vld (h : Inc f n) {o : Int} (h0 : 0 < n) (h1 : n ≤ 5000) (ho : half o = true) (hl : lst (f n) (sp f n) = n) : vld ⟨o, f n, sp f n⟩ = true := by
  have b0 := h.bd (Nat.le_refl n)
  have b1 := h.mono n 0 (by omega)
  rw [Nat.zero_add, h.z] at b1
  unfold Cv.vld
  refine decide_eq_true ⟨by show 1 ≤ (sp f n).length; rw [sp_len]; omega, by show (sp f n).length ≤ 5000; rw [sp_len]; omega, by show 1 ≤ f n; omega, by show f n ≤ _; omega, ho, h.asc h0, ?_, ?_, ?_⟩
  · show (gt (sp f n) 0).1 = 0
    rw [sp_gt h0]; exact h.z
  · show (gt (sp f n) ((sp f n).length - 1)).2 ≤ f n
    rw [sp_len, sp_gt (by omega)]
    show f (n - 1 + 1) ≤ _
    rw [show n - 1 + 1 = n by omega]; exact Int.le_refl _
  · show lst (f n) (sp f n) = (sp f n).length
    rw [hl, sp_len]
theorem lst_sp (h : ∀ k, 1 ≤ k → k < n → n % k = 0 → f n % ((n / k : Nat) : Int) = 0 → ∃ i, i < n - k ∧ f (i + k) ≠ f i + f n / ((n / k : Nat) : Int)) : lst (f n) (sp f n) = n := by
  have := lst_all (p := f n) (l := sp f n) fun k k1 k2 => ?_
  · rw [this, sp_len]
  · rw [sp_len] at k2
    unfold repB
    rw [decide_eq_false_iff_not, sp_len]
    rintro ⟨a1, a2, a3⟩
    obtain ⟨i, hi, hne⟩ := h k k1 k2 a1 a2
    have := a3 i hi
    unfold shiftAt at this
    rw [decide_eq_true_iff, sp_gt (by omega), sp_gt (by omega)] at this
    injection this with e _
    exact hne e
end
/-- Where the months and the years from 1970 on begin. -/
def mst (i : Nat) : Int := M.cnt (1970 + ((i / 12 : Nat) : Int)) (((i % 12 : Nat) : Int) + 1) 1
def yst (i : Nat) : Int := M.cnt (1970 + (i : Int)) 1 1
theorem mst_at (y m : Nat) (h : m < 12) : mst (12 * y + m) = M.cnt (1970 + (y : Int)) ((m : Int) + 1) 1 := by
  unfold mst
  rw [show (12 * y + m) / 12 = y by omega, show (12 * y + m) % 12 = m by omega]
theorem mst_next (y m : Nat) (h : m < 12) (hy : y < 8000) : mst (12 * y + m + 1) = mst (12 * y + m) + M.len (1970 + (y : Int)) ((m : Int) + 1) := by
  rw [mst_at y m h]
  rcases Nat.lt_or_ge (m + 1) 12 with h1 | h1
  · rw [show 12 * y + m + 1 = 12 * y + (m + 1) by omega, mst_at y (m + 1) h1]
    have := M.cnt_succ (y := 1970 + (y : Int)) (m := (m : Int) + 1) (by omega) (by omega) 1
    push_cast
    exact this
  · rw [show 12 * y + m + 1 = 12 * (y + 1) + 0 by omega, mst_at (y + 1) 0 (by omega)]
    have := M.cnt_year (y := 1970 + (y : Int)) (by omega) 1
    have e : M.len (1970 + (y : Int)) ((m : Int) + 1) = 31 := by
      rw [show (m : Int) + 1 = 12 by omega, M.len_of (by omega) (by omega) (by omega) (by omega)]; simp
    rw [e, show (m : Int) + 1 = 12 by omega]
    push_cast
    rw [show (1970 : Int) + ((y : Int) + 1) = 1970 + (y : Int) + 1 by omega]
    exact this
theorem mst_y (y : Nat) : mst (12 * y) = yst y := by
  have := mst_at y 0 (by omega)
  simpa [yst] using this
theorem mst_split (i : Nat) : ∃ y m, m < 12 ∧ i = 12 * y + m ∧ y = i / 12 := ⟨i / 12, i % 12, by omega, by omega, rfl⟩
theorem mInc : Inc mst 4800 := by
  refine ⟨by decide, fun i hi => ?_, by decide⟩
  obtain ⟨y, m, hm, rfl, _⟩ := mst_split i
  rw [mst_next y m hm (by omega)]
  have := M.len_lo (y := 1970 + (y : Int)) (m := (m : Int) + 1) (by omega) (by omega)
  omega
theorem yst_next (y : Nat) (hy : y < 8000) : yst y + 365 ≤ yst (y + 1) ∧ yst (y + 1) ≤ yst y + 366 := by
  unfold yst
  rw [M.cnt_11, M.cnt_11]
  push_cast; omega
theorem yInc : Inc yst 400 := ⟨by decide, fun i hi => by have := (yst_next i (by omega)).1; omega, by decide⟩
theorem mst_top : mst 4800 = 146097 := by decide
theorem yst_top : yst 400 = 146097 := by decide
theorem dvd_of {n k : Nat} {p : Nat} (h1 : n % k = 0) (h2 : (p : Int) % ((n / k : Nat) : Int) = 0) : n / k ∣ Nat.gcd n p ∧ n = k * (n / k) := by
  have e : n = k * (n / k) := by have := Nat.div_add_mod n k; omega
  have h2' : p % (n / k) = 0 := by
    have : ((p % (n / k) : Nat) : Int) = 0 := by push_cast at h2 ⊢; exact h2
    omega
  exact ⟨Nat.dvd_gcd (Nat.dvd_of_mod_eq_zero (by
    have : n = (n / k) * k := by rw [Nat.mul_comm]; exact e
    rw (occs := .pos [1]) [this]; exact Nat.mul_mod_right _ _)) (Nat.dvd_of_mod_eq_zero h2'), e⟩
theorem m_lst : lst 146097 (sp mst 4800) = 4800 := by
  have := lst_sp (f := mst) (n := 4800) fun k k1 k2 h1 h2 => ?_
  · rw [mst_top] at this; exact this
  · rw [mst_top] at h2 ⊢
    obtain ⟨a, b⟩ := dvd_of (p := 146097) h1 h2
    have g : Nat.gcd 4800 146097 = 3 := by decide
    rw [g] at a
    have hd := Nat.le_of_dvd (by omega) a
    obtain ⟨d, hdd⟩ : ∃ d, 4800 / k = d := ⟨_, rfl⟩
    rw [hdd] at a b hd ⊢
    have : d = 1 ∨ d = 2 ∨ d = 3 ∨ d = 0 := by omega
    rcases this with e | e | e | e
    · rw [e] at b; omega
    · rw [e] at a; exact absurd a (by decide)
    · rw [e] at b
      obtain rfl : k = 1600 := by omega
      rw [e]
      exact ⟨0, by omega, by decide⟩
    · rw [e] at b; omega
theorem y_lst : lst 146097 (sp yst 400) = 400 := by
  have := lst_sp (f := yst) (n := 400) fun k k1 k2 h1 h2 => ?_
  · rw [yst_top] at this; exact this
  · exfalso
    rw [yst_top] at h2
    obtain ⟨a, b⟩ := dvd_of (p := 146097) h1 h2
    have g : Nat.gcd 400 146097 = 1 := by decide
    rw [g] at a
    have hd := Nat.le_of_dvd (by omega) a
    obtain ⟨d, hdd⟩ : ∃ d, 400 / k = d := ⟨_, rfl⟩
    rw [hdd] at b hd
    have : d = 1 ∨ d = 0 := by omega
    rcases this with e | e <;> rw [e] at b <;> omega
def mc : Cal := ⟨0, 146097, sp mst 4800⟩
def yc : Cal := ⟨0, 146097, sp yst 400⟩
theorem m_vld : vld mc = true := by
  have := mInc.vld (o := 0) (by omega) (by omega) (by decide) (by rw [mst_top]; exact m_lst)
  rw [mst_top] at this; exact this
theorem y_vld : vld yc = true := by
  have := yInc.vld (o := 0) (by omega) (by omega) (by decide) (by rw [yst_top]; exact y_lst)
  rw [yst_top] at this; exact this
theorem sp_cal_len {f : Nat → Int} {n : Nat} (o p : Int) : (⟨o, p, sp f n⟩ : Cal).l.length = n := sp_len
theorem sp_pl {f : Nat → Int} {n : Nat} (o p q : Int) {i : Nat} (hi : i < n) : pl ⟨o, p, sp f n⟩ ((n : Int) * q + i) = (f i + (o + p * q), f (i + 1) + (o + p * q)) := by
  have := pl_at (c := ⟨o, p, sp f n⟩) (by rw [sp_cal_len]; omega) q (i := i) (by rw [sp_cal_len]; exact hi)
  rw [sp_cal_len] at this
  rw [this]
  show ((gt (sp f n) i).1 + _, (gt (sp f n) i).2 + _) = _
  rw [sp_gt hi]
theorem mc_len : mc.l.length = 4800 := sp_cal_len (f := mst) (n := 4800) 0 146097
theorem yc_len : yc.l.length = 400 := sp_cal_len (f := yst) (n := 400) 0 146097
theorem mc_pl (q : Int) {i : Nat} (hi : i < 4800) : pl mc (4800 * q + i) = (mst i + 146097 * q, mst (i + 1) + 146097 * q) := by
  have := sp_pl (f := mst) (n := 4800) 0 146097 q hi
  rw [Int.zero_add] at this
  exact this
theorem yc_pl (q : Int) {i : Nat} (hi : i < 400) : pl yc (400 * q + i) = (yst i + 146097 * q, yst (i + 1) + 146097 * q) := by
  have := sp_pl (f := yst) (n := 400) 0 146097 q hi
  rw [Int.zero_add] at this
  exact this
theorem aw1 : rch yc 0 = true ∧ ins mc (pl yc 0) = (0, 12) := by
  have V := vc m_vld
  have p0 : pl yc 0 = (0, 365) := by
    have := yc_pl 0 (i := 0) (by omega)
    rw [show (400 : Int) * 0 + ((0 : Nat) : Int) = 0 from rfl, show yst 0 + 146097 * 0 = 0 by decide, show yst (0 + 1) + 146097 * 0 = 365 by decide] at this
    exact this
  have pm1 : pl mc (-1) = (-31, 0) := by
    have := mc_pl (-1) (i := 4799) (by omega)
    rw [show (4800 : Int) * (-1) + ((4799 : Nat) : Int) = -1 by decide, show mst 4799 + 146097 * -1 = -31 by decide, show mst (4799 + 1) + 146097 * -1 = 0 by decide] at this
    exact this
  have pm0 : pl mc 0 = (0, 31) := by
    have := mc_pl 0 (i := 0) (by omega)
    rw [show (4800 : Int) * 0 + ((0 : Nat) : Int) = 0 from rfl, show mst 0 + 146097 * 0 = 0 by decide, show mst (0 + 1) + 146097 * 0 = 31 by decide] at this
    exact this
  have pm11 : pl mc 11 = (334, 365) := by
    have := mc_pl 0 (i := 11) (by omega)
    rw [show (4800 : Int) * 0 + ((11 : Nat) : Int) = 11 from rfl, show mst 11 + 146097 * 0 = 334 by decide, show mst (11 + 1) + 146097 * 0 = 365 by decide] at this
    exact this
  have pm12 : pl mc 12 = (365, 396) := by
    have := mc_pl 0 (i := 12) (by omega)
    rw [show (4800 : Int) * 0 + ((12 : Nat) : Int) = 12 from rfl, show mst 12 + 146097 * 0 = 365 by decide, show mst (12 + 1) + 146097 * 0 = 396 by decide] at this
    exact this
  have n1 : nr mc (-1) = -1 := V.near_eq (by rw [pm1]; decide) (by rw [show (-1 : Int) + 1 = 0 from rfl, pm0]; decide)
  have e1 : en mc 365 = 11 := V.ends_eq (by rw [pm11]; decide) (by rw [show (11 : Int) + 1 = 12 from rfl, pm12]; decide)
  refine ⟨by unfold rch; rw [p0]; decide, ?_⟩
  rw [p0]
  unfold ins
  dsimp only
  rw [show (0 : Int) - 1 = -1 from rfl, n1, e1]
  decide
theorem aw2 : adp mc 30 1 = (58, 0) := by
  have V := vc m_vld
  have pm0 : pl mc 0 = (0, 31) := by
    have := mc_pl 0 (i := 0) (by omega)
    rw [show (4800 : Int) * 0 + ((0 : Nat) : Int) = 0 from rfl, show mst 0 + 146097 * 0 = 0 by decide, show mst (0 + 1) + 146097 * 0 = 31 by decide] at this
    exact this
  have pm1 : pl mc 1 = (31, 59) := by
    have := mc_pl 0 (i := 1) (by omega)
    rw [show (4800 : Int) * 0 + ((1 : Nat) : Int) = 1 from rfl, show mst 1 + 146097 * 0 = 31 by decide, show mst (1 + 1) + 146097 * 0 = 59 by decide] at this
    exact this
  have n1 : nr mc 30 = 0 := V.near_eq (by rw [pm0]; decide) (by rw [show (0 : Int) + 1 = 1 from rfl, pm1]; decide)
  unfold adp
  rw [if_pos (by decide), n1, pm0, if_pos (by decide), show (0 : Int) + 1 = 1 from rfl, pm1, if_pos (by unfold rch; rw [pm1]; decide)]
  decide
end Go.Proofs.Ytainibnjpkbfpaa.Cv
