/- Plain mathematics of the texts of dates: no program in sight. -/
import Derived.Test.YtplgladflhglaaaTextM
import Derived.Test.YtplgladflhglaaaCivM
namespace Go.Proofs.Ytplgladflhglaaa.M
set_option linter.unusedVariables false
set_option linter.unusedSimpArgs false

/-- The codes of the last k digits. -/
def dg : Nat → Nat → List Int
  | 0, _ => []
  | k + 1, n => dg k (n / 10) ++ [48 + (n : Int) % 10]
theorem digs_dg : ∀ (k f n : Nat), n < 10 ^ k → k ≤ f → digs f n k = dg k n
  | 0, f, n, h, _ => by obtain rfl : n = 0 := by simpa using h
                        exact digs_nil f
  | k + 1, 0, _, _, h => by omega
  | k + 1, f + 1, n, h, hf => by
    rw [digs_step (by omega), dg, Nat.add_sub_cancel, digs_dg k f (n / 10) (by rw [Nat.pow_succ, Nat.mul_comm] at h; exact Nat.div_lt_of_lt_mul h) (by omega)]
theorem dg_len : ∀ (k n : Nat), (dg k n).length = k
  | 0, _ => rfl
  | k + 1, n => by rw [dg, List.length_append, dg_len k]; rfl
theorem txt_dg {n k : Int} (hn : 0 ≤ n) (hk : 1 ≤ k) (hk2 : k ≤ 20) (h : n.toNat < 10 ^ k.toNat) : txt n k = dg k.toNat n.toNat := by
  rw [txt_pos (by omega) (by omega), show (max k 1).toNat = k.toNat by omega, show n.natAbs = n.toNat by omega]
  exact digs_dg _ _ _ h (by omega)

/-- The codes of a date's text. -/
def dtext (y m d : Int) : List Int := if vld y m d = true then dg 4 y.toNat ++ 45 :: (dg 2 m.toNat ++ 45 :: dg 2 d.toNat) else []
theorem dtext_t {y m d : Int} (h : vld y m d = true) : dtext y m d = dg 4 y.toNat ++ 45 :: (dg 2 m.toNat ++ 45 :: dg 2 d.toNat) := by simp only [dtext, if_pos h]
theorem dtext_f {y m d : Int} (h : vld y m d = false) : dtext y m d = [] := by simp [dtext, h]

end Go.Proofs.Ytplgladflhglaaa.M
