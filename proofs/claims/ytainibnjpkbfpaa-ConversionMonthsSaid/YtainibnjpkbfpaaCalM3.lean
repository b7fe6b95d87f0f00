/- Plain: what the conversions return. -/
import Derived.Test.YtainibnjpkbfpaaCalM2
namespace Go.Proofs.Ytainibnjpkbfpaa.Cv
set_option linter.unusedVariables false
set_option linter.unusedSimpArgs false

section
variable (c a b : Cal)
/-- The granule k, if it is on the line. -/
def spn (k : Int) : (Int × Int) × Int := if onl c k = true then (pl c k, 0) else ((0, 0), 2)
/-- The granule that contains x. -/
def fnd (x : Int) : Int × Bool := if line x = true ∧ x < (pl c (nr c x)).2 then (nr c x, true) else (0, false)
def upv (k : Int) : Int × Bool := if rch a k = true ∧ (pl a k).2 ≤ (pl b (nr b (pl a k).1)).2 then (nr b (pl a k).1, true) else (0, false)
def cnt2 (f n : Int) : Int × Int := if n ≤ 0 then (0, 0) else (f, n)
def ins (s : Int × Int) : Int × Int := cnt2 (nr c (s.1 - 1) + 1) (en c s.2 - (nr c (s.1 - 1) + 1) + 1)
def cvr (s : Int × Int) : Int × Int := cnt2 (en c s.1 + 1) (nr c (s.2 - 1) - (en c s.1 + 1) + 1)
def plc (k : Int) : Int × Int × Bool := if (upv a b k).2 = true then ((upv a b k).1, k - (nr a ((pl b (upv a b k).1).1 - 1) + 1) + 1, true) else (0, 0, false)
def adp (x n : Int) : Int × Int :=
  if line x = true ∧ line n = true then
    if x < (pl c (nr c x)).2 then
      if rch c (nr c x + n) = true then (min ((pl c (nr c x + n)).1 + x - (pl c (nr c x)).1) ((pl c (nr c x + n)).2 - 1), 0) else (0, 2)
    else (0, 7)
  else (0, 2)
end
section
variable {c a b : Cal}
theorem Vc.fnd_at (h : Vc c) {x k : Int} (hx : line x = true) (h1 : (pl c k).1 ≤ x) (h2 : x < (pl c k).2) : fnd c x = (k, true) := by
  have := h.pl_nx k
  have e := h.near_eq (x := x) (k := k) h1 (by omega)
  unfold fnd
  rw [e, if_pos ⟨hx, h2⟩]
theorem fnd_t {x : Int} (h : (fnd c x).2 = true) : line x = true ∧ x < (pl c (nr c x)).2 ∧ (fnd c x).1 = nr c x := by
  unfold fnd at h ⊢
  split at h
  · rename_i h1; rw [if_pos h1]; exact ⟨h1.1, h1.2, rfl⟩
  · cases h
/-- What the law of Add asks, of the program's answers. -/
def lawAdd (c : Cal) (x n : Int) : Bool :=
  !((adp c x n).2 == 0) || ((fnd c x).2 && (fnd c (adp c x n).1).2 && (fnd c (adp c x n).1).1 == (fnd c x).1 + n &&
    (if (adp c (adp c x n).1 (-n)).2 == 0 then (spn c (fnd c (adp c x n).1).1).2 == 0 && ((adp c (adp c x n).1 (-n)).1 == x || (decide ((adp c (adp c x n).1 (-n)).1 < x) && (adp c x n).1 == (spn c (fnd c (adp c x n).1).1).1.2 - 1)) else (adp c (adp c x n).1 (-n)).2 == 2))
theorem line_i {x : Int} (h1 : -4398046511104 ≤ x) (h2 : x ≤ 4398046511104) : line x = true := by unfold line; exact decide_eq_true ⟨h1, h2⟩
theorem line_p {x : Int} (h : line x = true) : -4398046511104 ≤ x ∧ x ≤ 4398046511104 := by unfold line at h; exact decide_eq_true_iff.1 h
theorem lawAdd_t (h : Vc c) (x n : Int) : lawAdd c x n = true := by
  unfold lawAdd
  by_cases hx : line x = true ∧ line n = true
  · obtain ⟨hx, hn⟩ := hx
    by_cases hf : x < (pl c (nr c x)).2
    · have hs : (pl c (nr c x)).1 ≤ x := (h.near x).1
      by_cases hr : rch c (nr c x + n) = true
      · obtain ⟨k, hk⟩ : ∃ k, nr c x = k := ⟨_, rfl⟩
        rw [hk] at hf hs hr
        obtain ⟨y, hy⟩ : ∃ y, min ((pl c (k + n)).1 + x - (pl c k).1) ((pl c (k + n)).2 - 1) = y := ⟨_, rfl⟩
        have ha : adp c x n = (y, 0) := by unfold adp; rw [hk, if_pos ⟨hx, hn⟩, if_pos hf, if_pos hr, hy]
        have hl := h.pl_lt (k + n)
        have hp := rch_p hr
        have y1 : (pl c (k + n)).1 ≤ y := by omega
        have y2 : y < (pl c (k + n)).2 := by omega
        have yl : line y = true := line_i (by omega) (by omega)
        have f1 := h.fnd_at hx hs hf
        have f2 := h.fnd_at yl y1 y2
        have hky : nr c y = k + n := by have := fnd_t (c := c) (x := y) (by rw [f2]); rw [f2] at this; exact this.2.2.symm
        have hmn : line (-n) = true := by have := line_p hn; exact line_i (by omega) (by omega)
        have hsp : spn c (k + n) = (pl c (k + n), 0) := by unfold spn; rw [if_pos (rch_onl hr)]
        rw [ha, f1]
        dsimp only
        rw [f2, hsp]
        dsimp only
        by_cases hr2 : rch c k = true
        · have hb : adp c y (-n) = (min ((pl c k).1 + y - (pl c (k + n)).1) ((pl c k).2 - 1), 0) := by
            unfold adp
            rw [hky, if_pos ⟨yl, hmn⟩, if_pos y2, show k + n + -n = k by omega, if_pos hr2]
          rw [hb]
          dsimp only
          by_cases he : y = (pl c (k + n)).1 + x - (pl c k).1
          · have : min ((pl c k).1 + y - (pl c (k + n)).1) ((pl c k).2 - 1) = x := by omega
            rw [this]; simp
          · have e1 : y = (pl c (k + n)).2 - 1 := by omega
            have e2 : min ((pl c k).1 + y - (pl c (k + n)).1) ((pl c k).2 - 1) < x := by omega
            simp [e2, e1]
            right; rw [← e1]; exact e2
        · have hb : adp c y (-n) = (0, 2) := by
            unfold adp
            rw [hky, if_pos ⟨yl, hmn⟩, if_pos y2, show k + n + -n = k by omega, if_neg hr2]
          rw [hb]; simp
      · have ha : adp c x n = (0, 2) := by unfold adp; rw [if_pos ⟨hx, hn⟩, if_pos hf, if_neg hr]
        rw [ha]; rfl
    · have ha : adp c x n = (0, 7) := by unfold adp; rw [if_pos ⟨hx, hn⟩, if_neg hf]
      rw [ha]; rfl
  · have ha : adp c x n = (0, 2) := by unfold adp; rw [if_neg hx]
    rw [ha]; rfl
end
end Go.Proofs.Ytainibnjpkbfpaa.Cv
