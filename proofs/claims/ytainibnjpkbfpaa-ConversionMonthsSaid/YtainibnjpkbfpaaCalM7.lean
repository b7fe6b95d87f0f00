/- Plain: months, years and days agree with dates. -/
import Derived.Test.YtainibnjpkbfpaaCalM4
namespace Go.Proofs.Ytainibnjpkbfpaa.Cv
set_option linter.unusedVariables false
set_option linter.unusedSimpArgs false

def idf (i : Nat) : Int := i
def dc : Cal := ⟨0, 1, sp idf 1⟩
theorem dInc : Inc idf 1 := ⟨rfl, fun i _ => by show (i : Int) < ((i + 1 : Nat) : Int); omega, by decide⟩
theorem d_lst : lst 1 (sp idf 1) = 1 := by decide
theorem d_vld : vld dc = true := dInc.vld (o := 0) (by omega) (by omega) (by decide) d_lst
theorem dc_pl (k : Int) : pl dc k = (k, k + 1) := by
  have := sp_pl (f := idf) (n := 1) 0 1 k (i := 0) (by omega)
  have e : ((1 : Nat) : Int) * k + ((0 : Nat) : Int) = k := by omega
  rw [e] at this
  have e2 : idf 0 = 0 := rfl
  have e3 : idf (0 + 1) = 1 := rfl
  rw [e2, e3] at this
  show pl ⟨0, 1, sp idf 1⟩ k = _
  rw [this]
  ext <;> dsimp only <;> omega
theorem cnt_shift (y m d q : Int) : M.cnt (y + 400 * q) m d = M.cnt y m d + 146097 * q := by unfold M.cnt; split <;> omega
theorem mon {y m : Int} (h1 : 1 ≤ y) (h2 : y ≤ 9999) (m1 : 1 ≤ m) (m2 : m ≤ 12) : pl mc (12 * (y - 1970) + (m - 1)) = (M.cnt y m 1, M.cnt y m 1 + M.len y m) := by
  obtain ⟨q, hq⟩ : ∃ q, (y - 1970) / 400 = q := ⟨_, rfl⟩
  obtain ⟨yy, hy⟩ : ∃ yy : Nat, y - 1970 = 400 * q + (yy : Int) ∧ yy < 400 := ⟨((y - 1970) % 400).toNat, by omega, by omega⟩
  obtain ⟨mm, hm⟩ : ∃ mm : Nat, m = (mm : Int) + 1 ∧ mm < 12 := ⟨(m - 1).toNat, by omega, by omega⟩
  obtain ⟨hy, hyy⟩ := hy
  obtain ⟨rfl, hmm⟩ := hm
  have e : 12 * (y - 1970) + ((mm : Int) + 1 - 1) = 4800 * q + ((12 * yy + mm : Nat) : Int) := by push_cast; omega
  rw [e, mc_pl q (by omega), mst_at yy mm hmm]
  have ey : y = 1970 + (yy : Int) + 400 * q := by omega
  have c1 : M.cnt (1970 + (yy : Int)) ((mm : Int) + 1) 1 + 146097 * q = M.cnt y ((mm : Int) + 1) 1 := by rw [ey, cnt_shift]
  have c2 : mst (12 * yy + mm + 1) + 146097 * q = M.cnt y ((mm : Int) + 1) 1 + M.len y ((mm : Int) + 1) := by
    rcases Nat.lt_or_ge (mm + 1) 12 with h | h
    · have := M.cnt_succ (y := y) (m := (mm : Int) + 1) ⟨h1, h2⟩ (by omega) 1
      rw [← this, show 12 * yy + mm + 1 = 12 * yy + (mm + 1) by omega, mst_at yy (mm + 1) h, ey, cnt_shift]
      push_cast; rfl
    · have hm11 : mm = 11 := by omega
      subst hm11
      have := M.cnt_year (y := y) ⟨h1, h2⟩ 1
      have l : M.len y (((11 : Nat) : Int) + 1) = 31 := by
        rw [show ((11 : Nat) : Int) + 1 = 12 from rfl, M.len_of ⟨h1, h2⟩ (by omega) (by omega) (by omega)]; rfl
      rw [l, show ((11 : Nat) : Int) + 1 = 12 from rfl, ← this, show 12 * yy + 11 + 1 = 12 * (yy + 1) + 0 by omega, mst_at (yy + 1) 0 (by omega), ey]
      rw [show 1970 + (yy : Int) + 400 * q + 1 = 1970 + ((yy + 1 : Nat) : Int) + 400 * q by push_cast; omega, cnt_shift]
      rfl
  rw [c1, c2]
theorem yea {y : Int} (h1 : 1 ≤ y) (h2 : y ≤ 9999) : pl yc (y - 1970) = (M.cnt y 1 1, M.cnt (y + 1) 1 1) := by
  obtain ⟨q, hq⟩ : ∃ q, (y - 1970) / 400 = q := ⟨_, rfl⟩
  obtain ⟨yy, hy⟩ : ∃ yy : Nat, y - 1970 = 400 * q + (yy : Int) ∧ yy < 400 := ⟨((y - 1970) % 400).toNat, by omega, by omega⟩
  obtain ⟨hy, hyy⟩ := hy
  rw [hy, yc_pl q hyy]
  have ey : y = 1970 + (yy : Int) + 400 * q := by omega
  have c1 : yst yy + 146097 * q = M.cnt y 1 1 := by rw [ey, cnt_shift]; rfl
  have c2 : yst (yy + 1) + 146097 * q = M.cnt (y + 1) 1 1 := by
    rw [ey, show 1970 + (yy : Int) + 400 * q + 1 = 1970 + ((yy + 1 : Nat) : Int) + 400 * q by push_cast; omega, cnt_shift]; rfl
  rw [c1, c2]
/-- What the law asks of a day. -/
structure Mf (x y m d k : Int) : Prop where
  v : M.vld y m d = true
  dt : M.dtx x = ((y, m, d), 0)
  kk : 12 * (y - 1970) + m - 1 = k
  y1 : 1 ≤ y
  y2 : y ≤ 9999
  m1 : 1 ≤ m
  m2 : m ≤ 12
  d1 : 1 ≤ d
  d2 : d ≤ 31
  f : fnd mc x = (k, true)
  pp : plc mc yc k = (y - 1970, m, true)
  ry : rch yc (y - 1970) = true
  iy : ins mc (Cv.pl yc (y - 1970)) = (12 * (y - 1970), 12)
  rm : rch mc k = true
  im : ins dc (Cv.pl mc k) = (x - d + 1, M.len y m)
theorem mf_of {x : Int} (h1 : -719162 ≤ x) (h2 : x < 2932897) : ∃ y m d k, Mf x y m d k ∧ M.cnt y m d = x := by
  obtain ⟨y, m, d, hv, hx, hd⟩ := M.date_ex ⟨h1, h2⟩
  obtain ⟨y1, y2, m1, m2, d1, d2⟩ := M.vld_bd hv
  have VM := vc m_vld
  have VY := vc y_vld
  have VD := vc d_vld
  have hl := M.vld_iff.1 hv
  have cd := M.cnt_d y m d
  have cd1 := M.cnt_d y m 1
  have hpk := mon (y := y) (m := m) y1 y2 m1 m2
  have hpy := yea (y := y) y1 y2
  have hp1 := mon (y := y) (m := 1) y1 y2 (by omega) (by omega)
  have hp12 := mon (y := y) (m := 12) y1 y2 (by omega) (by omega)
  have l12 : M.len y 12 = 31 := by rw [M.len_of ⟨y1, y2⟩ (by omega) (by omega) (by omega)]; rfl
  have cy := M.cnt_year (y := y) ⟨y1, y2⟩ 1
  have lb := M.len_bd y m
  obtain ⟨k, hk⟩ : ∃ k, 12 * (y - 1970) + (m - 1) = k := ⟨_, rfl⟩
  rw [hk] at hpk
  -- the month lies in its year
  have in1 : M.cnt y 1 1 ≤ M.cnt y m 1 := by
    have hv1 : M.vld y m 1 = true := M.vld_t ⟨by omega, by omega⟩
    exact (M.cnt_in_year hv1).1
  have in2 : M.cnt y m 1 + M.len y m ≤ M.cnt (y + 1) 1 1 := by
    have hv1 : M.vld y m (M.len y m) = true := M.vld_t ⟨by omega, by omega⟩
    have := (M.cnt_in_year hv1).2
    have e := M.cnt_d y m (M.len y m)
    omega
  have cyb := M.cnt_11 y
  have cyb1 := M.cnt_11 (y + 1)
  have rk : rch mc k = true := by unfold rch; rw [hpk]; exact decide_eq_true (by dsimp only; omega)
  have ry : rch yc (y - 1970) = true := by unfold rch; rw [hpy]; exact decide_eq_true (by dsimp only; omega)
  have nk : nr mc x = k := VM.near_eq (by rw [hpk]; dsimp only; omega) (by have := VM.pl_nx k; rw [hpk] at this; dsimp only at this; omega)
  have ny : nr yc (M.cnt y m 1) = y - 1970 := VY.near_eq (by rw [hpy]; exact in1) (by have := VY.pl_nx (y - 1970); rw [hpy] at this; dsimp only at this; omega)
  have hup : upv mc yc k = (y - 1970, true) := by
    unfold upv
    rw [hpk]
    dsimp only
    rw [ny, hpy, if_pos ⟨rk, in2⟩]
  have n1 : nr mc (M.cnt y 1 1 - 1) = 12 * (y - 1970) - 1 := by
    refine VM.near_eq ?_ ?_
    · have := VM.pl_lt1 (show 12 * (y - 1970) - 1 < 12 * (y - 1970) + (1 - 1) by omega)
      rw [hp1] at this; dsimp only at this; omega
    · rw [show 12 * (y - 1970) - 1 + 1 = 12 * (y - 1970) + (1 - 1) by omega, hp1]; dsimp only; omega
  have e1 : en mc (M.cnt (y + 1) 1 1) = 12 * (y - 1970) + (12 - 1) := by
    refine VM.ends_eq ?_ ?_
    · rw [hp12]; dsimp only; omega
    · have := VM.pl_nx (12 * (y - 1970) + (12 - 1))
      have := VM.pl_lt (12 * (y - 1970) + (12 - 1) + 1)
      rw [hp12] at *; dsimp only at *; omega
  have dn : ∀ z, nr dc z = z := fun z => VD.near_eq (by rw [dc_pl]; exact Int.le_refl _) (by rw [dc_pl]; dsimp only; omega)
  have de : ∀ z, en dc z = z - 1 := fun z => VD.ends_eq (by rw [dc_pl]; dsimp only; omega) (by rw [dc_pl]; dsimp only; omega)
  refine ⟨y, m, d, k, ⟨hv, hd, by omega, y1, y2, m1, m2, d1, d2, ?_, ?_, ry, ?_, rk, ?_⟩, hx⟩
  · unfold fnd; rw [nk, hpk, if_pos ⟨line_i (by omega) (by omega), by dsimp only; omega⟩]
  · unfold plc; rw [hup]; dsimp only; rw [hpy]; dsimp only; rw [n1]
    have e : k - (12 * (y - 1970) - 1 + 1) + 1 = m := by omega
    rw [if_pos rfl, e]
  · rw [hpy]; unfold ins; dsimp only; rw [n1, e1]
    unfold cnt2; rw [if_neg (by omega)]
    ext <;> dsimp only <;> omega
  · rw [hpk]; unfold ins; dsimp only; rw [dn, de]
    unfold cnt2; rw [if_neg (by omega)]
    ext <;> dsimp only <;> omega
/-- Adding months, where dates can. -/
theorem mf_add {x y m d k n y2 m2 d2 : Int} (h1 : -719162 ≤ x) (h2 : x < 2932897) (n1 : -100000 ≤ n) (n2 : n ≤ 100000) (h : Mf x y m d k) (hx : M.cnt y m d = x) (ha : M.am y m d n = ((y2, m2, d2), 0)) :
    adp mc x n = (M.cnt y2 m2 d2, 0) ∧ M.vld y2 m2 d2 = true := by
  have VM := vc m_vld
  have hk := h.kk
  have hl := M.vld_iff.1 h.v
  unfold M.am at ha
  rw [if_pos h.v] at ha
  by_cases hr : 12 ≤ 12 * y + m - 1 + n ∧ 12 * y + m - 1 + n < 120000
  · rw [if_pos hr] at ha
    injection ha with ha _
    injection ha with e1 ha
    injection ha with e2 e3
    have y1' : 1 ≤ y2 := by omega
    have y2' : y2 ≤ 9999 := by omega
    have m1' : 1 ≤ m2 := by omega
    have m2' : m2 ≤ 12 := by omega
    rw [e1, e2] at e3
    have hp := mon (y := y2) (m := m2) y1' y2' m1' m2'
    have hpk := mon (y := y) (m := m) h.y1 h.y2 h.m1 h.m2
    have ek : 12 * (y2 - 1970) + (m2 - 1) = k + n := by omega
    have ek0 : 12 * (y - 1970) + (m - 1) = k := by omega
    rw [ek] at hp
    rw [ek0] at hpk
    have hl2 := M.len_lo (y := y2) (m := m2) ⟨y1', y2'⟩ ⟨m1', m2'⟩
    have hl3 := M.len_bd y2 m2
    have cb := M.cnt_bd (y := y2) (m := m2) (d := 1) (by omega) (by omega)
    have ed : d2 = M.mn d (M.len y2 m2) := e3.symm
    have mnd : M.mn d (M.len y2 m2) = min d (M.len y2 m2) := by unfold M.mn; split <;> omega
    have hv2 : M.vld y2 m2 d2 = true := M.vld_t ⟨by omega, by omega⟩
    refine ⟨?_, hv2⟩
    obtain ⟨f1, f2, f3⟩ := fnd_t (c := mc) (x := x) (by rw [h.f])
    rw [h.f] at f3
    dsimp only at f3
    rw [← f3] at f2
    have rk : rch mc (k + n) = true := by unfold rch; rw [hp]; exact decide_eq_true (by dsimp only; omega)
    unfold adp
    rw [if_pos ⟨f1, line_i (by omega) (by omega)⟩, ← f3, if_pos f2, if_pos rk, hp, hpk]
    dsimp only
    have c0 := M.cnt_d y m d
    have c1 := M.cnt_d y m 1
    have c2 := M.cnt_d y2 m2 d2
    have c3 := M.cnt_d y2 m2 1
    have e : min (M.cnt y2 m2 1 + x - M.cnt y m 1) (M.cnt y2 m2 1 + M.len y2 m2 - 1) = M.cnt y2 m2 d2 := by omega
    rw [e]
  · rw [if_neg hr] at ha
    injection ha with _ ha
    cases ha
end Go.Proofs.Ytainibnjpkbfpaa.Cv
