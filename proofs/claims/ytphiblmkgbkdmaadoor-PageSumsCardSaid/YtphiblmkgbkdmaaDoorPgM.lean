/- Pages as lists of bytes: the sum, and that it tells a changed byte. -/
import Derived.Test.YtphiblmkgbkdmaaDoorWalM
namespace Go.Proofs.YtphiblmkgbkdmaaDoor.Pg
set_option linter.unusedVariables false
set_option linter.unusedSimpArgs false

/-- A step of the sum by one bit. -/
def cs (c : Nat) : Nat := if c % 2 = 1 then (c / 2) ^^^ 3988292384 else c / 2
def csN : Nat → Nat → Nat
  | 0, c => c
  | n + 1, c => csN n (cs c)
theorem csN_succ (n c : Nat) : csN (n + 1) c = cs (csN n c) := by
  induction n generalizing c with
  | zero => rfl
  | succ n ih => show csN (n + 1) (cs c) = cs (csN (n + 1) c); rw [ih]; rfl
/-- A step of the sum by one byte. -/
def cb (c : Nat) (u : UInt8) : Nat := csN 8 (c ^^^ u.toNat)
def cf (c : Nat) (l : List UInt8) : Nat := l.foldl cb c
def crc (l : List UInt8) : Nat := 4294967295 - cf 4294967295 l

theorem cs_lt {c : Nat} (h : c < 4294967296) : cs c < 4294967296 := by
  unfold cs
  split
  · exact Nat.xor_lt_two_pow (n := 32) (by omega) (by omega)
  · omega
theorem csN_lt (n : Nat) {c : Nat} (h : c < 4294967296) : csN n c < 4294967296 := by
  induction n generalizing c with
  | zero => exact h
  | succ n ih => exact ih (cs_lt h)
theorem xr_lt {c : Nat} (h : c < 4294967296) (u : UInt8) : c ^^^ u.toNat < 4294967296 :=
  Nat.xor_lt_two_pow (n := 32) h (by have := u.toNat_lt; omega)
theorem cb_lt {c : Nat} (h : c < 4294967296) (u : UInt8) : cb c u < 4294967296 := csN_lt 8 (xr_lt h u)
theorem cf_lt {c : Nat} (h : c < 4294967296) (l : List UInt8) : cf c l < 4294967296 := by
  induction l generalizing c with
  | nil => exact h
  | cons u l ih => exact ih (cb_lt h u)
theorem cf_snoc (c : Nat) (l : List UInt8) (u : UInt8) : cf c (l ++ [u]) = cb (cf c l) u := by simp [cf]
theorem crc_lt (l : List UInt8) : crc l < 4294967296 := by unfold crc; omega

theorem xor_top {a : Nat} (h : a < 2147483648) : 2147483648 ≤ a ^^^ 3988292384 := by
  have : (a ^^^ 3988292384).testBit 31 = true := by
    rw [Nat.testBit_xor, Nat.testBit_lt_two_pow (show a < 2 ^ 31 by omega)]
    decide
  have := Nat.ge_two_pow_of_testBit this
  omega
theorem xor_inj {a b c : Nat} (h : a ^^^ c = b ^^^ c) : a = b := by
  have h2 : (a ^^^ c) ^^^ c = (b ^^^ c) ^^^ c := by rw [h]
  rwa [Nat.xor_assoc, Nat.xor_self, Nat.xor_zero, Nat.xor_assoc, Nat.xor_self, Nat.xor_zero] at h2
theorem cs_inj {a b : Nat} (ha : a < 4294967296) (hb : b < 4294967296) (h : cs a = cs b) : a = b := by
  unfold cs at h
  split at h <;> split at h
  · have := xor_inj h; omega
  · have := xor_top (a := a / 2) (by omega); omega
  · have := xor_top (a := b / 2) (by omega); omega
  · omega
theorem csN_inj (n : Nat) {a b : Nat} (ha : a < 4294967296) (hb : b < 4294967296) (h : csN n a = csN n b) : a = b := by
  induction n generalizing a b with
  | zero => exact h
  | succ n ih => exact cs_inj ha hb (ih (cs_lt ha) (cs_lt hb) h)
theorem cb_inj {a b : Nat} (ha : a < 4294967296) (hb : b < 4294967296) (u : UInt8) (h : cb a u = cb b u) : a = b :=
  xor_inj (csN_inj 8 (xr_lt ha u) (xr_lt hb u) h)
theorem cb_byte {a : Nat} (ha : a < 4294967296) {u v : UInt8} (h : cb a u = cb a v) : u = v := by
  have := csN_inj 8 (xr_lt ha u) (xr_lt ha v) h
  rw [Nat.xor_comm a, Nat.xor_comm a] at this
  exact UInt8.toNat_inj.1 (xor_inj this)
theorem cf_inj (l : List UInt8) {a b : Nat} (ha : a < 4294967296) (hb : b < 4294967296) (h : cf a l = cf b l) : a = b := by
  induction l generalizing a b with
  | nil => exact h
  | cons u l ih => exact cb_inj ha hb u (ih (cb_lt ha u) (cb_lt hb u) h)
theorem cf_app (c : Nat) (l m : List UInt8) : cf c (l ++ m) = cf (cf c l) m := by simp [cf]
/-- One byte changed changes the sum. -/
theorem crc_set {l : List UInt8} {k : Nat} {u v : UInt8} (hk : l[k]? = some u) (hne : v ≠ u) : crc (l.set k v) ≠ crc l := by
  have hl : k < l.length := (List.getElem?_eq_some_iff.1 hk).1
  have e1 : l = l.take k ++ u :: l.drop (k + 1) := by
    have h3 := (List.getElem?_eq_some_iff.1 hk).2
    rw [← h3, List.getElem_cons_drop, List.take_append_drop]
  have e2 : l.set k v = l.take k ++ v :: l.drop (k + 1) := List.set_eq_take_append_cons_drop ▸ by rw [if_pos hl]
  intro h
  have c1 := cf_lt (c := 4294967295) (by omega) l
  have c2 := cf_lt (c := 4294967295) (by omega) (l.set k v)
  have h2 : cf 4294967295 (l.set k v) = cf 4294967295 l := by unfold crc at h; omega
  rw [e2] at h2
  rw [e1] at h2
  simp only [cf_app] at h2
  have e3 : (l.take k ++ u :: l.drop (k + 1)).take k = l.take k := by
    rw [List.take_append_of_le_length (by simp; omega), List.take_take, Nat.min_self]
  have e4 : (l.take k ++ u :: l.drop (k + 1)).drop (k + 1) = l.drop (k + 1) := by rw [← e1]
  rw [e3, e4] at h2
  have c3 := cf_lt (c := 4294967295) (by omega) (l.take k)
  have h5 : cb (cf 4294967295 (l.take k)) v = cb (cf 4294967295 (l.take k)) u := cf_inj _ (cb_lt c3 v) (cb_lt c3 u) h2
  exact hne (cb_byte c3 h5)
end Go.Proofs.YtphiblmkgbkdmaaDoor.Pg
