/- Bits of numbers of 32 bits. -/
import Derived.Test.YtphiblmkgbkdmaaDoorProg
import Derived.Test.YtphiblmkgbkdmaaDoorWalMem
import Derived.LoopTactic
import Derived.Outline
import Derived.Deep.QuietTactic
import Derived.BigQuiet
import Derived.Laws.BitsAllLaws
namespace Go.Proofs.YtphiblmkgbkdmaaDoor.Pg
set_option linter.unusedVariables false
set_option linter.unusedSimpArgs false
open Go.RowKit Wl
theorem or_2 (a b n : Nat) (ha : a % 2 ^ n = 0) (hb : b < 2 ^ n) (h1 : a < 4294967296) (h2 : b < 4294967296) : bits .or .u32 (a : Int) (b : Int) = ((a + b : Nat) : Int) := by
  rw [u32_or_nat a b h1 h2, nat_join n a b ha hb]
theorem or_4 (a b c d : Nat) (ha : a < 256) (hb : b < 256) (hc : c < 256) (hd : d < 256) : bits .or .u32 (bits .or .u32 (bits .or .u32 ((a : Int) * 16777216) ((b : Int) * 65536)) ((c : Int) * 256)) (d : Int) =
    ((((a * 256 + b) * 256 + c) * 256 + d : Nat) : Int) := by
  have e1 := or_2 (a * 16777216) (b * 65536) 24 (by omega) (by omega) (by omega) (by omega)
  have e2 := or_2 (a * 16777216 + b * 65536) (c * 256) 16 (by omega) (by omega) (by omega) (by omega)
  have e3 := or_2 (a * 16777216 + b * 65536 + c * 256) d 8 (by omega) (by omega) (by omega) (by omega)
  simp only [Int.natCast_mul, Int.natCast_add, Int.cast_ofNat_Int] at e1 e2 e3 ⊢
  rw [e1, e2, e3]; omega
theorem or_four (x0 x1 x2 x3 : UInt8) : bits .or .u32 (bits .or .u32 (bits .or .u32 ((x0.toNat : Int) * 16777216) ((x1.toNat : Int) * 65536)) ((x2.toNat : Int) * 256)) (x3.toNat : Int) =
    ((((x0.toNat * 256 + x1.toNat) * 256 + x2.toNat) * 256 + x3.toNat : Nat) : Int) :=
  or_4 _ _ _ _ x0.toNat_lt x1.toNat_lt x2.toNat_lt x3.toNat_lt
theorem nat_flip (a : Nat) (h : a < 4294967296) : a ^^^ 4294967295 = 4294967295 - a := by
  have h1 : (BitVec.ofNat 32 a ^^^ BitVec.allOnes 32).toNat = (~~~ BitVec.ofNat 32 a).toNat := by rw [BitVec.xor_allOnes]
  simp only [BitVec.toNat_xor, BitVec.toNat_not, BitVec.toNat_ofNat, BitVec.toNat_allOnes] at h1
  rw [Nat.mod_eq_of_lt (by omega)] at h1
  omega
theorem u32_not (a : Nat) (h : a < 4294967296) : bits .xor .u32 IntKind.u32.max (a : Int) = ((4294967295 - a : Nat) : Int) := by
  have := u32_xor_nat 4294967295 a (by omega) h
  rw [Nat.xor_comm, nat_flip a h] at this
  exact this
theorem u32_flip (a : Nat) (h : a < 4294967296) : bits .xor .u32 (a : Int) 4294967295 = ((4294967295 - a : Nat) : Int) := by
  have := u32_xor_nat a 4294967295 h (by omega)
  rw [nat_flip a h] at this
  exact this
end Go.Proofs.YtphiblmkgbkdmaaDoor.Pg
