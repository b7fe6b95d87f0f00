/- Plain: what Finer, Divides and Common return; granules that fill another one. -/
import Derived.Test.YtainibnjpkbfpaaCalM5
namespace Go.Proofs.Ytainibnjpkbfpaa.Cv
set_option linter.unusedVariables false
set_option linter.unusedSimpArgs false

def fnr (a b : Cal) : Bool × Int := if (vld a && vld b) = true then (if (prr a b).2 = 0 then (finB a b ((prr a b).1 / a.p * a.l.length).toNat, 0) else (false, (prr a b).2)) else (false, 1)
def dvr (a b : Cal) : Bool × Int := if (vld a && vld b) = true then (if (prr a b).2 = 0 then (divB a b ((prr a b).1 / b.p * b.l.length).toNat, 0) else (false, (prr a b).2)) else (false, 1)
def cmn (a b : Cal) : Int × Int := if (vld a && vld b) = true then (if (prr a b).2 = 9 then (0, 9) else ((prr a b).1, 0)) else (0, 1)
section
variable {a b : Cal}
theorem prr_self (h : Vc a) : prr a a = (a.p, 0) := by
  have p1 := h.p1
  have p2 := h.p2
  have n2 := h.n2
  obtain ⟨P, hP⟩ := Int.eq_ofNat_of_zero_le (show 0 ≤ a.p by omega)
  have g : M.gc a.p a.p = a.p := by
    rw [M.gc_ok (by rw [hP]; simp only [Int.natAbs_natCast, Nat.gcd_self]; omega), hP]
    simp only [Int.natAbs_natCast, Nat.gcd_self]
  have e1 : a.p / a.p = 1 := Int.ediv_self (by omega)
  have l : M.lc a.p a.p = (a.p, 0) := by
    rw [M.lc_ok (by omega), g, e1, M.ml_ok (by omega), Int.mul_one]
  unfold prr
  rw [l, if_neg (by dsimp only; omega), if_neg (by dsimp only; rw [e1]; omega)]
theorem fnr_self (h : vld a = true) : fnr a a = (true, 0) := by
  have V := vc h
  unfold fnr
  rw [h, if_pos (by rfl : (true && true) = true), prr_self V, if_pos rfl, finB_t fun k _ => V.lies_self k]
theorem dvr_self (h : vld a = true) : dvr a a = (true, 0) := by
  have V := vc h
  unfold dvr
  rw [h, if_pos (by rfl : (true && true) = true), prr_self V, if_pos rfl, divB_t fun k _ => V.fil_self k]
theorem fnr_bad (h : (vld a && vld b) = false) : fnr a b = (false, 1) := by unfold fnr; rw [h]; rfl
theorem dvr_bad (h : (vld a && vld b) = false) : dvr a b = (false, 1) := by unfold dvr; rw [h]; rfl
theorem cmn_bad (h : (vld a && vld b) = false) : cmn a b = (0, 1) := by unfold cmn; rw [h]; rfl
/-- Granules that fill a granule that is in reach. -/
theorem dv_facts (ha : Vc a) (hb : Vc b) {k x y : Int} (hp : pl b k = (x, y)) (hr : rch b k = true) (hf : fil a x y = true) :
    ∃ (j : Nat) (n0 : Int), 1 ≤ j ∧ -1125899906842624 ≤ n0 ∧ n0 ≤ 1125899906842624 ∧ ins a (x, y) = (n0, (j : Int)) ∧ cvr a (x, y) = (n0, (j : Int)) ∧ (∀ i : Nat, i < j → spn a (n0 + i) = ((atj a x n0 i, atj a x n0 (i + 1)), 0)) ∧ atj a x n0 j = y := by
  have rr := rch_p hr
  have xy := hb.pl_lt k
  rw [hp] at rr xy
  dsimp only at rr xy
  obtain ⟨j, hj, he⟩ := fil_ex hf
  obtain ⟨n0, hn⟩ : ∃ n0, nr a x = n0 := ⟨_, rfl⟩
  rw [hn] at hj he
  have nb : -1125899906842624 ≤ n0 ∧ n0 ≤ 1125899906842624 := by
    have := ha.bk_nr (x := x) (by omega) (by omega)
    rw [hn] at this
    exact ⟨this.k1, this.k2⟩
  obtain ⟨j, rfl⟩ : ∃ i, j = i + 1 := by
    rcases j with _ | j
    · simp [atj] at he; omega
    · exact ⟨j, rfl⟩
  have h0 := hj 0 (by omega)
  have h0' : (pl a n0).1 = x := by simpa [atj] using h0.2
  have hlast : (pl a (n0 + j)).2 = y := he
  have hl2 := hj j (by omega)
  have lt0 := ha.pl_lt n0
  have ltj := ha.pl_lt (n0 + j)
  have i1 : nr a (x - 1) = n0 - 1 := ha.near_eq (by have := ha.pl_lt1 (show n0 - 1 < n0 by omega); omega) (by rw [show n0 - 1 + 1 = n0 by omega]; omega)
  have i2 : en a y = n0 + j := ha.ends_eq (by omega) (by have := ha.pl_le (show n0 + j < n0 + j + 1 by omega); have := ha.pl_lt (n0 + j + 1); omega)
  have i3 : en a x = n0 - 1 := ha.ends_eq (by have := ha.pl_le (show n0 - 1 < n0 by omega); omega) (by rw [show n0 - 1 + 1 = n0 by omega]; omega)
  have i4 : nr a (y - 1) = n0 + j := ha.near_eq (by omega) (by have := ha.pl_le (show n0 + j < n0 + j + 1 by omega); omega)
  refine ⟨j + 1, n0, by omega, nb.1, nb.2, ?_, ?_, fun i hi => ?_, he⟩
  · unfold ins; dsimp only; rw [i1, i2]
    unfold cnt2; rw [if_neg (by omega)]
    ext <;> dsimp only <;> (push_cast; omega)
  · unfold cvr; dsimp only; rw [i3, i4]
    unfold cnt2; rw [if_neg (by omega)]
    ext <;> dsimp only <;> (push_cast; omega)
  · have hi' := hj i hi
    have gr := Fok.grow ha (j := i) fun k hk => hj k (by omega)
    have up : (pl a (n0 + i)).2 ≤ y := by
      rcases Nat.lt_or_ge i j with h | h
      · have := (hj (i + 1) (by omega)).1
        have e : atj a x n0 (i + 1) = (pl a (n0 + i)).2 := rfl
        omega
      · rw [show i = j by omega]; omega
    have on : onl a (n0 + i) = true := by unfold onl; exact decide_eq_true (by omega)
    unfold spn
    rw [if_pos on]
    have e1 : pl a (n0 + i) = (atj a x n0 i, atj a x n0 (i + 1)) := by
      ext
      · exact hi'.2
      · rfl
    rw [e1]
end
end Go.Proofs.Ytainibnjpkbfpaa.Cv
