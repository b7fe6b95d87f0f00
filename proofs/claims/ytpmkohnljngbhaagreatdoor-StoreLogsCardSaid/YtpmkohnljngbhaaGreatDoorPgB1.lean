/- Pages as lists of bytes: the sum, and that it tells a changed byte. -/
import Derived.Test.YtpmkohnljngbhaaGreatDoorWalM
import Derived.Test.YtpmkohnljngbhaaGreatDoorWalA
import Derived.Lib.Bytealg
import Derived.Test.YtpmkohnljngbhaaGreatDoorProg
import Derived.LoopTactic
import Derived.Outline
import Derived.Deep.QuietTactic
import Derived.BigQuiet
import Derived.Laws.BytesArg
import Derived.WalkLawsBesides
import Derived.Lib.SliceRun
import Derived.Lib.BytesEntry
set_option linter.all false
namespace Go.Proofs.YtpmkohnljngbhaaGreatDoor.Pg
set_option linter.unusedVariables false
set_option linter.unusedSimpArgs false
set_option maxRecDepth 1000000

/-- A step of the sum by one bit. -/
def cs (c : Nat) : Nat := if c % 2 = 1 then (c / 2) ^^^ 3988292384 else c / 2
def csN : Nat → Nat → Nat
  | 0, c => c
  | n + 1, c => csN n (cs c)
theorem csN_succ (n c : Nat) : csN (n + 1) c = cs (csN n c) := by
  induction n generalizing c with
  | zero => rfl
  | succ n ih => show csN (n + 1) (cs c) = cs (csN (n + 1) c); rw [ih]; rfl
/-- A step of the sum by one byte. -/
def cb (c : Nat) (u : UInt8) : Nat := csN 8 (c ^^^ u.toNat)
def cf (c : Nat) (l : List UInt8) : Nat := l.foldl cb c
def crc (l : List UInt8) : Nat := 4294967295 - cf 4294967295 l

theorem cs_lt {c : Nat} (h : c < 4294967296) : cs c < 4294967296 := by
  unfold cs
  split
  · exact Nat.xor_lt_two_pow (n := 32) (by omega) (by omega)
  · omega
theorem csN_lt (n : Nat) {c : Nat} (h : c < 4294967296) : csN n c < 4294967296 := by
  induction n generalizing c with
  | zero => exact h
  | succ n ih => exact ih (cs_lt h)
theorem xr_lt {c : Nat} (h : c < 4294967296) (u : UInt8) : c ^^^ u.toNat < 4294967296 :=
  Nat.xor_lt_two_pow (n := 32) h (by have := u.toNat_lt; omega)
theorem cb_lt {c : Nat} (h : c < 4294967296) (u : UInt8) : cb c u < 4294967296 := csN_lt 8 (xr_lt h u)
theorem cf_lt {c : Nat} (h : c < 4294967296) (l : List UInt8) : cf c l < 4294967296 := by
  induction l generalizing c with
  | nil => exact h
  | cons u l ih => exact ih (cb_lt h u)
theorem cf_snoc (c : Nat) (l : List UInt8) (u : UInt8) : cf c (l ++ [u]) = cb (cf c l) u := by simp [cf]
theorem crc_lt (l : List UInt8) : crc l < 4294967296 := by unfold crc; omega

theorem xor_top {a : Nat} (h : a < 2147483648) : 2147483648 ≤ a ^^^ 3988292384 := by
  have : (a ^^^ 3988292384).testBit 31 = true := by
    rw [Nat.testBit_xor, Nat.testBit_lt_two_pow (show a < 2 ^ 31 by omega)]
    decide
  have := Nat.ge_two_pow_of_testBit this
  omega
theorem xor_inj {a b c : Nat} (h : a ^^^ c = b ^^^ c) : a = b := by
  have h2 : (a ^^^ c) ^^^ c = (b ^^^ c) ^^^ c := by rw [h]
  rwa [Nat.xor_assoc, Nat.xor_self, Nat.xor_zero, Nat.xor_assoc, Nat.xor_self, Nat.xor_zero] at h2
theorem cs_inj {a b : Nat} (ha : a < 4294967296) (hb : b < 4294967296) (h : cs a = cs b) : a = b := by
  unfold cs at h
  split at h <;> split at h
  · have := xor_inj h; omega
  · have := xor_top (a := a / 2) (by omega); omega
  · have := xor_top (a := b / 2) (by omega); omega
  · omega
theorem csN_inj (n : Nat) {a b : Nat} (ha : a < 4294967296) (hb : b < 4294967296) (h : csN n a = csN n b) : a = b := by
  induction n generalizing a b with
  | zero => exact h
  | succ n ih => exact cs_inj ha hb (ih (cs_lt ha) (cs_lt hb) h)
theorem cb_inj {a b : Nat} (ha : a < 4294967296) (hb : b < 4294967296) (u : UInt8) (h : cb a u = cb b u) : a = b :=
  xor_inj (csN_inj 8 (xr_lt ha u) (xr_lt hb u) h)
theorem cb_byte {a : Nat} (ha : a < 4294967296) {u v : UInt8} (h : cb a u = cb a v) : u = v := by
  have := csN_inj 8 (xr_lt ha u) (xr_lt ha v) h
  rw [Nat.xor_comm a, Nat.xor_comm a] at this
  exact UInt8.toNat_inj.1 (xor_inj this)
theorem cf_inj (l : List UInt8) {a b : Nat} (ha : a < 4294967296) (hb : b < 4294967296) (h : cf a l = cf b l) : a = b := by
  induction l generalizing a b with
  | nil => exact h
  | cons u l ih => exact cb_inj ha hb u (ih (cb_lt ha u) (cb_lt hb u) h)
theorem cf_app (c : Nat) (l m : List UInt8) : cf c (l ++ m) = cf (cf c l) m := by simp [cf]
/-- One byte changed changes the sum. -/
theorem crc_set {l : List UInt8} {k : Nat} {u v : UInt8} (hk : l[k]? = some u) (hne : v ≠ u) : crc (l.set k v) ≠ crc l := by
  have hl : k < l.length := (List.getElem?_eq_some_iff.1 hk).1
  have e1 : l = l.take k ++ u :: l.drop (k + 1) := by
    have h3 := (List.getElem?_eq_some_iff.1 hk).2
    rw [← h3, List.getElem_cons_drop, List.take_append_drop]
  have e2 : l.set k v = l.take k ++ v :: l.drop (k + 1) := List.set_eq_take_append_cons_drop ▸ by rw [if_pos hl]
  intro h
  have c1 := cf_lt (c := 4294967295) (by omega) l
  have c2 := cf_lt (c := 4294967295) (by omega) (l.set k v)
  have h2 : cf 4294967295 (l.set k v) = cf 4294967295 l := by unfold crc at h; omega
  rw [e2] at h2
  rw [e1] at h2
  simp only [cf_app] at h2
  have e3 : (l.take k ++ u :: l.drop (k + 1)).take k = l.take k := by
    rw [List.take_append_of_le_length (by simp; omega), List.take_take, Nat.min_self]
  have e4 : (l.take k ++ u :: l.drop (k + 1)).drop (k + 1) = l.drop (k + 1) := by rw [← e1]
  rw [e3, e4] at h2
  have c3 := cf_lt (c := 4294967295) (by omega) (l.take k)
  have h5 : cb (cf 4294967295 (l.take k)) v = cb (cf 4294967295 (l.take k)) u := cf_inj _ (cb_lt c3 v) (cb_lt c3 u) h2
  exact hne (cb_byte c3 h5)
end Go.Proofs.YtpmkohnljngbhaaGreatDoor.Pg
/- Pages as lists of items: what is written is read. -/
namespace Go.Proofs.YtpmkohnljngbhaaGreatDoor.Pg
set_option maxRecDepth 1000000
open Wl (be val be_len)

theorem val_inj {a b : List UInt8} (hl : a.length = b.length) (h : val a = val b) : a = b := by
  have h1 := Wl.be_val a
  rw [h, hl, Wl.be_val b] at h1
  exact h1.symm

structure It where
  k : List UInt8
  v : List UInt8
  ch : Nat
def isz (kind : Nat) (x : It) : Nat := if kind = 1 then 2 + x.k.length + x.v.length else 3 + x.k.length
def hdr (kind : Nat) (x : It) : List UInt8 :=
  if kind = 1 then [UInt8.ofNat x.k.length, UInt8.ofNat x.v.length] else [UInt8.ofNat (x.ch / 256), UInt8.ofNat x.ch, UInt8.ofNat x.k.length]
def itb (kind : Nat) (x : It) : List UInt8 := hdr kind x ++ (x.k ++ x.v)
def bdy (kind : Nat) : List It → List UInt8
  | [] => []
  | x :: l => itb kind x ++ bdy kind l
def tot (kind : Nat) : List It → Nat
  | [] => 0
  | x :: l => isz kind x + tot kind l
def rst (kind : Nat) (l : List It) : List UInt8 := UInt8.ofNat kind :: UInt8.ofNat l.length :: (bdy kind l ++ List.replicate (250 - (bdy kind l).length) 0)
def enc (kind : Nat) (l : List It) : List UInt8 := be 4 (crc (rst kind l)) ++ rst kind l
structure ItOk (kind : Nat) (x : It) : Prop where
  k1 : 1 ≤ x.k.length
  k2 : x.k.length ≤ 40
  v2 : x.v.length ≤ 120
  lf : kind = 1 → x.ch = 0
  fk : kind ≠ 1 → x.v = [] ∧ x.ch < 65536
def di (kind : Nat) (r : List UInt8) : Option (It × List UInt8) :=
  if kind = 1 then
    match r with
    | a :: b :: r' => if 1 ≤ a.toNat ∧ a.toNat ≤ 40 ∧ b.toNat ≤ 120 ∧ a.toNat + b.toNat ≤ r'.length then
        some (⟨r'.take a.toNat, (r'.drop a.toNat).take b.toNat, 0⟩, (r'.drop a.toNat).drop b.toNat) else none
    | _ => none
  else
    match r with
    | a :: b :: c :: r' => if 1 ≤ c.toNat ∧ c.toNat ≤ 40 ∧ c.toNat ≤ r'.length then some (⟨r'.take c.toNat, [], a.toNat * 256 + b.toNat⟩, r'.drop c.toNat) else none
    | _ => none
def dn (kind : Nat) : Nat → List UInt8 → Option (List It × List UInt8)
  | 0, r => some ([], r)
  | n + 1, r => match dn kind n r with
    | none => none
    | some (l, r') => match di kind r' with
      | none => none
      | some (x, r'') => some (l ++ [x], r'')
def dec (p : List UInt8) : Option (Nat × List It) :=
  if val (p.take 4) = crc (p.drop 4) ∧ ((p.getD 4 0).toNat = 1 ∨ (p.getD 4 0).toNat = 2) ∧ (p.getD 4 0).toNat ≤ (p.getD 5 0).toNat then
    match dn (p.getD 4 0).toNat (p.getD 5 0).toNat (p.drop 6) with
    | some (l, r) => if r.all (· == 0) then some ((p.getD 4 0).toNat, l) else none
    | none => none
  else none

theorem itb_len (kind : Nat) {x : It} (h : ItOk kind x) : (itb kind x).length = isz kind x := by
  unfold itb isz hdr
  by_cases e : kind = 1
  · rw [if_pos e, if_pos e]; simp; omega
  · rw [if_neg e, if_neg e, (h.fk e).1]; simp; omega
theorem bdy_len (kind : Nat) {l : List It} (h : ∀ x ∈ l, ItOk kind x) : (bdy kind l).length = tot kind l := by
  induction l with
  | nil => rfl
  | cons x l ih => simp only [bdy, tot, List.length_append, itb_len kind (h x (by simp)), ih fun y hy => h y (by simp [hy])]
theorem bdy_app (kind : Nat) (l m : List It) : bdy kind (l ++ m) = bdy kind l ++ bdy kind m := by
  induction l with
  | nil => rfl
  | cons x l ih => simp [bdy, ih]
theorem tot_app (kind : Nat) (l m : List It) : tot kind (l ++ m) = tot kind l + tot kind m := by
  induction l with
  | nil => simp [tot]
  | cons x l ih => simp [tot, ih]; omega
theorem isz_ge (kind : Nat) {x : It} (h : ItOk kind x) : 3 ≤ isz kind x := by
  have := h.k1; unfold isz; split <;> omega
theorem isz_le1 {x : It} (h : ItOk 1 x) : isz 1 x ≤ 162 := by
  have := h.k2; have := h.v2; simp [isz]; omega
theorem isz_le2 {kind : Nat} {x : It} (h : ItOk kind x) (hk : kind ≠ 1) : isz kind x ≤ 43 := by
  have := h.k2; simp [isz, hk]; omega
theorem isz_le {kind : Nat} {x : It} (h : ItOk kind x) : isz kind x ≤ 162 := by
  by_cases e : kind = 1
  · subst e; exact isz_le1 h
  · have := isz_le2 h e; omega
theorem tot_ge {kind : Nat} {l : List It} (h : ∀ x ∈ l, ItOk kind x) : 3 * l.length ≤ tot kind l := by
  induction l with
  | nil => simp [tot]
  | cons x l ih =>
    have := isz_ge kind (h x (by simp)); have := ih fun y hy => h y (by simp [hy])
    simp [tot]; omega
theorem rst_len {kind : Nat} {l : List It} (h : ∀ x ∈ l, ItOk kind x) (ht : tot kind l ≤ 250) : (rst kind l).length = 252 := by
  have := bdy_len kind h
  simp [rst]; omega
theorem enc_len {kind : Nat} {l : List It} (h : ∀ x ∈ l, ItOk kind x) (ht : tot kind l ≤ 250) : (enc kind l).length = 256 := by
  simp [enc, be_len, rst_len h ht]

theorem nat8 {n : Nat} (h : n < 256) : (UInt8.ofNat n).toNat = n := by simp; omega
/-- An item is read behind its code. -/
theorem di_itb {kind : Nat} {x : It} (h : ItOk kind x) (r : List UInt8) : di kind (itb kind x ++ r) = some (x, r) := by
  obtain ⟨k1, k2, v2, lf, fk⟩ := h
  rcases x with ⟨k, v, ch⟩
  simp only at k1 k2 v2 lf fk
  unfold di itb hdr
  by_cases e : kind = 1
  · have := lf e; subst this
    have e1 : (UInt8.ofNat k.length).toNat = k.length := nat8 (by omega)
    have e2 : (UInt8.ofNat v.length).toNat = v.length := nat8 (by omega)
    simp only [if_pos e, List.cons_append, List.nil_append, e1, e2]
    rw [if_pos ⟨k1, k2, v2, by simp⟩]
    simp
  · obtain ⟨rfl, hc⟩ := fk e
    have e1 : (UInt8.ofNat k.length).toNat = k.length := nat8 (by omega)
    have e2 : (UInt8.ofNat (ch / 256)).toNat = ch / 256 := nat8 (by omega)
    have e3 : (UInt8.ofNat ch).toNat = ch % 256 := by simp
    simp only [if_neg e, List.cons_append, List.nil_append, e1, e2, e3, List.append_nil]
    rw [if_pos ⟨k1, k2, by simp⟩]
    simp
    omega
theorem dn_bdy {kind : Nat} {l : List It} (h : ∀ x ∈ l, ItOk kind x) (r : List UInt8) : dn kind l.length (bdy kind l ++ r) = some (l, r) := by
  suffices hh : ∀ n m r, m.length = n → (∀ x ∈ m, ItOk kind x) → dn kind n (bdy kind m ++ r) = some (m, r) from hh l.length l r rfl h
  intro n
  induction n with
  | zero =>
    intro m r hl _
    obtain rfl : m = [] := List.length_eq_zero_iff.1 hl
    rfl
  | succ n ih =>
    intro m r hl hm
    have hne : m ≠ [] := by intro e; rw [e] at hl; cases hl
    obtain ⟨d, x, rfl⟩ : ∃ d x, m = d ++ [x] := ⟨m.dropLast, m.getLast hne, (List.dropLast_concat_getLast hne).symm⟩
    show (match dn kind n (bdy kind (d ++ [x]) ++ r) with | none => none | some (l, r') => match di kind r' with | none => none | some (x, r'') => some (l ++ [x], r'')) = _
    rw [bdy_app, List.append_assoc, ih d _ (by simp at hl; exact hl) fun y hy => hm y (by simp [hy])]
    have : bdy kind [x] = itb kind x := by simp [bdy]
    rw [this]
    simp only [di_itb (hm x (by simp))]
theorem val_be4 {n : Nat} (h : n < 4294967296) : val (be 4 n) = n := by
  rw [Wl.val_be]
  exact Nat.mod_eq_of_lt (by omega)
theorem dec_enc {kind : Nat} {l : List It} (hk : kind = 1 ∨ kind = 2) (h : ∀ x ∈ l, ItOk kind x) (hn : kind ≤ l.length) (ht : tot kind l ≤ 250) : dec (enc kind l) = some (kind, l) := by
  have hl := tot_ge h
  have b4 : (be 4 (crc (rst kind l))).length = 4 := be_len _ _
  have e1 : (enc kind l).take 4 = be 4 (crc (rst kind l)) := by unfold enc; rw [List.take_append_of_le_length (by omega), List.take_of_length_le (by omega)]
  have e2 : (enc kind l).drop 4 = rst kind l := by unfold enc; exact List.drop_left' b4
  have e3 : (enc kind l).getD 4 0 = UInt8.ofNat kind := by
    unfold enc; rw [List.getD_eq_getElem?_getD, List.getElem?_append_right (by omega), b4]; rfl
  have e4 : (enc kind l).getD 5 0 = UInt8.ofNat l.length := by
    unfold enc; rw [List.getD_eq_getElem?_getD, List.getElem?_append_right (by omega), b4]; rfl
  have e5 : (enc kind l).drop 6 = bdy kind l ++ List.replicate (250 - (bdy kind l).length) 0 := by
    have : (enc kind l).drop 6 = ((enc kind l).drop 4).drop 2 := by rw [List.drop_drop]
    rw [this, e2]; rfl
  have k1 : (UInt8.ofNat kind).toNat = kind := nat8 (by omega)
  have k2 : (UInt8.ofNat l.length).toNat = l.length := nat8 (by omega)
  unfold dec
  rw [e1, e2, e3, e4, e5, k1, k2, val_be4 (crc_lt _), if_pos ⟨rfl, hk, hn⟩, dn_bdy h]
  simp
/-- What a page that is read holds. -/
theorem di_ok {kind : Nat} {r r' : List UInt8} {x : It} (h : di kind r = some (x, r')) : ItOk kind x ∧ isz kind x + r'.length = r.length := by
  unfold di at h
  by_cases e : kind = 1
  · rw [if_pos e] at h
    match r, h with
    | a :: b :: t, h =>
      dsimp only at h
      split at h
      · rename_i hc
        injection h with h; injection h with h1 h2
        subst h1 h2
        refine ⟨⟨by simp; omega, by simp; omega, by simp; omega, fun _ => rfl, fun e' => absurd e e'⟩, ?_⟩
        simp [isz, e]; omega
      · cases h
  · rw [if_neg e] at h
    match r, h with
    | a :: b :: c :: t, h =>
      dsimp only at h
      split at h
      · rename_i hc
        injection h with h; injection h with h1 h2
        subst h1 h2
        have := a.toNat_lt; have := b.toNat_lt
        refine ⟨⟨by simp; omega, by simp; omega, by simp, fun e' => absurd e' e, fun _ => ⟨rfl, by simp; omega⟩⟩, ?_⟩
        simp [isz, e]; omega
      · cases h
theorem dn_ok {kind : Nat} : ∀ {n : Nat} {r r' : List UInt8} {l : List It}, dn kind n r = some (l, r') → (∀ x ∈ l, ItOk kind x) ∧ tot kind l + r'.length = r.length ∧ l.length = n
  | 0, r, r', l, h => by
    injection h with h; injection h with h1 h2; subst h1 h2
    exact ⟨by simp, by simp [tot], rfl⟩
  | n + 1, r, r', l, h => by
    unfold dn at h
    rcases hd : dn kind n r with _ | ⟨m, r1⟩
    · rw [hd] at h; cases h
    · rw [hd] at h
      dsimp only at h
      obtain ⟨i1, i2, i3⟩ := dn_ok hd
      rcases hx : di kind r1 with _ | ⟨x, r2⟩
      · rw [hx] at h; cases h
      · rw [hx] at h
        dsimp only at h
        injection h with h; injection h with h1 h2
        subst h1 h2
        obtain ⟨j1, j2⟩ := di_ok hx
        refine ⟨fun y hy => ?_, by rw [tot_app]; simp only [tot]; omega, by simp [i3]⟩
        rcases List.mem_append.1 hy with hy | hy
        · exact i1 y hy
        · obtain rfl : y = x := by simpa using hy
          exact j1
structure DecOk (kind : Nat) (l : List It) : Prop where
  kd : kind = 1 ∨ kind = 2
  it : ∀ x ∈ l, ItOk kind x
  n1 : kind ≤ l.length
  tt : tot kind l ≤ 250
theorem dec_ok {p : List UInt8} {kind : Nat} {l : List It} (hp : p.length = 256) (h : dec p = some (kind, l)) : DecOk kind l := by
  unfold dec at h
  split at h
  · rename_i hc
    rcases hd : dn (p.getD 4 0).toNat (p.getD 5 0).toNat (p.drop 6) with _ | ⟨m, r⟩
    · rw [hd] at h; cases h
    · rw [hd] at h
      dsimp only at h
      split at h
      · injection h with h; injection h with h1 h2
        subst h1 h2
        obtain ⟨i1, i2, i3⟩ := dn_ok hd
        simp only [List.length_drop, hp] at i2
        exact ⟨hc.2.1, i1, by omega, by omega⟩
      · cases h
  · cases h
theorem dn_succ {kind i : Nat} {r0 r r' : List UInt8} {l : List It} {x : It} (h : dn kind i r0 = some (l, r)) (hx : di kind r = some (x, r')) : dn kind (i + 1) r0 = some (l ++ [x], r') := by
  simp [dn, h, hx]
theorem dn_none {kind i : Nat} {r0 r : List UInt8} {l : List It} (h : dn kind i r0 = some (l, r)) (hx : di kind r = none) : ∀ {n : Nat}, i < n → dn kind n r0 = none
  | 0, hn => by omega
  | n + 1, hn => by
    by_cases e : i = n
    · subst e; simp [dn, h, hx]
    · simp [dn, dn_none h hx (n := n) (by omega)]
theorem dec_yes {p : List UInt8} {kd n : Nat} {l : List It} {r : List UInt8} (h1 : val (p.take 4) = crc (p.drop 4)) (hk : (p.getD 4 0).toNat = kd) (hn : (p.getD 5 0).toNat = n) (h2 : kd = 1 ∨ kd = 2) (h3 : kd ≤ n) (h : dn kd n (p.drop 6) = some (l, r)) :
    dec p = if r.all (· == 0) then some (kd, l) else none := by
  unfold dec; rw [hk, hn, if_pos ⟨h1, h2, h3⟩, h]
theorem dec_no1 {p : List UInt8} {kd n : Nat} (hk : (p.getD 4 0).toNat = kd) (hn : (p.getD 5 0).toNat = n) (h : ¬ (val (p.take 4) = crc (p.drop 4) ∧ (kd = 1 ∨ kd = 2) ∧ kd ≤ n)) : dec p = none := by
  unfold dec; rw [hk, hn, if_neg h]
theorem dec_no2 {p : List UInt8} {kd n : Nat} (hk : (p.getD 4 0).toNat = kd) (hn : (p.getD 5 0).toNat = n) (h : dn kd n (p.drop 6) = none) : dec p = none := by
  unfold dec; rw [hk, hn, h]; split <;> rfl
theorem di1_short {r : List UInt8} (h : r.length < 2) : di 1 r = none := by
  match r, h with
  | [], _ => rfl
  | [a], _ => rfl
theorem di2_short {r : List UInt8} (h : r.length < 3) : di 2 r = none := by
  match r, h with
  | [], _ => rfl
  | [a], _ => rfl
  | [a, b], _ => rfl
theorem drop_eq {r : List UInt8} {k : Nat} {a : UInt8} (h : r[k]? = some a) : r.drop k = a :: r.drop (k + 1) := by
  have := (List.getElem?_eq_some_iff.1 h).2
  rw [← this, List.getElem_cons_drop]
theorem di1_some {r : List UInt8} {a b : UInt8} (ha : r[0]? = some a) (hb : r[1]? = some b) : di 1 r = if 1 ≤ a.toNat ∧ a.toNat ≤ 40 ∧ b.toNat ≤ 120 ∧ a.toNat + b.toNat ≤ r.length - 2 then
    some (⟨(r.drop 2).take a.toNat, ((r.drop 2).drop a.toNat).take b.toNat, 0⟩, ((r.drop 2).drop a.toNat).drop b.toNat) else none := by
  have e : r = a :: b :: r.drop 2 := by rw [← drop_eq hb, ← drop_eq ha]; rfl
  have hl : r.length - 2 = (r.drop 2).length := by rw [List.length_drop]
  rw [hl]
  generalize r.drop 2 = t at e ⊢
  subst e
  simp [di]
theorem di2_some {r : List UInt8} {a b c : UInt8} (ha : r[0]? = some a) (hb : r[1]? = some b) (hc : r[2]? = some c) : di 2 r = if 1 ≤ c.toNat ∧ c.toNat ≤ 40 ∧ c.toNat ≤ r.length - 3 then
    some (⟨(r.drop 3).take c.toNat, [], a.toNat * 256 + b.toNat⟩, (r.drop 3).drop c.toNat) else none := by
  have e : r = a :: b :: c :: r.drop 3 := by rw [← drop_eq hc, ← drop_eq hb, ← drop_eq ha]; rfl
  have hl : r.length - 3 = (r.drop 3).length := by rw [List.length_drop]
  rw [hl]
  generalize r.drop 3 = t at e ⊢
  subst e
  simp [di]
/-- One byte of a page that is read, changed: it is not read. -/
theorem dec_set {p : List UInt8} {j : Nat} {u v : UInt8} (hp : p.length = 256) (h : (dec p).isSome = true) (hu : p[j]? = some u) (hne : v ≠ u) : dec (p.set j v) = none := by
  have hc : val (p.take 4) = crc (p.drop 4) := by
    unfold dec at h
    split at h
    · rename_i hc; exact hc.1
    · cases h
  unfold dec
  rw [if_neg]
  rintro ⟨h1, _⟩
  by_cases hj : j < 4
  · rw [List.drop_set_of_lt (by omega)] at h1
    rw [← hc] at h1
    have e1 : (p.set j v).take 4 = (p.take 4).set j v := by rw [List.take_set]
    rw [e1] at h1
    have l4 : (p.take 4).length = 4 := by simp [hp]
    have := val_inj (a := (p.take 4).set j v) (b := p.take 4) (by simp) h1
    have h3 : (p.take 4)[j]? = some u := by rw [List.getElem?_take, if_pos hj, hu]
    have h4 : ((p.take 4).set j v)[j]? = some v := by rw [List.getElem?_set_self (by omega)]
    rw [this, h3] at h4
    injection h4 with h4
    exact hne h4.symm
  · rw [List.take_set_of_le (by omega)] at h1
    have e1 : (p.set j v).drop 4 = (p.drop 4).set (j - 4) v := by rw [List.drop_set, if_neg (by omega)]
    rw [e1, hc] at h1
    exact crc_set (l := p.drop 4) (k := j - 4) (u := u) (v := v) (by rw [List.getElem?_drop, show 4 + (j - 4) = j by omega, hu]) hne h1.symm
end Go.Proofs.YtpmkohnljngbhaaGreatDoor.Pg
/- Items of pages in memory; what stays where blocks are written. -/
namespace Go.Proofs.YtpmkohnljngbhaaGreatDoor.Pg
set_option maxRecDepth 1000000
open Go.RowKit Wl

theorem bal (w : World) (o : Obj) : Below w.heap.size w (w.alloc o) := (Below.refl _ _).alloc (Nat.le_refl _) _
theorem one3 (a b c : Value) (h1 : a.oneCell' = true) (h2 : b.oneCell' = true) (h3 : c.oneCell' = true) : ∀ u ∈ (#[a, b, c] : Array Value).toList, u.oneCell' = true := by
  intro u hu
  simp only [List.mem_cons, List.not_mem_nil, or_false] at hu
  rcases hu with rfl | rfl | rfl <;> assumption
/-- An item in memory. -/
structure IV where
  kA : Option Addr
  kc : Nat
  k : List UInt8
  vA : Option Addr
  vc : Nat
  v : List UInt8
  ch : Nat
def IV.it (x : IV) : It := ⟨x.k, x.v, x.ch⟩
def IV.kv (x : IV) : Value := .slice x.kA x.k.length x.kc
def IV.vv (x : IV) : Value := .slice x.vA x.v.length x.vc
def IV.cs (x : IV) : List Value := [x.kv, x.vv, .int .i64 (x.ch : Int)]
def IV.val (x : IV) : Value := .agg #[x.kv, x.vv, .int .i64 (x.ch : Int)]
def ic (l : List IV) : List Value := (l.map IV.cs).flatten
def its (l : List IV) : List It := l.map IV.it
theorem its_app (a b : List IV) : its (a ++ b) = its a ++ its b := by simp [its]
theorem its_len (a : List IV) : (its a).length = a.length := by simp [its]
theorem ic_len : ∀ l, (ic l).length = l.length * 3
  | [] => rfl
  | x :: l => by
    have := ic_len l
    simp only [ic, List.map_cons, List.flatten_cons, List.length_append, List.length_cons, IV.cs] at this ⊢
    simp only [List.length_nil]; omega
theorem ic_app (a b : List IV) : ic (a ++ b) = ic a ++ ic b := by simp [ic]
theorem ic_snoc (l : List IV) (x : IV) : ic (l ++ [x]) = ic l ++ x.cs := by simp [ic]
theorem ic_one (l : List IV) : ∀ u ∈ ic l, u.oneCell' = true := by
  intro u hu
  simp only [ic, List.mem_flatten, List.mem_map] at hu
  obtain ⟨_, ⟨x, _, rfl⟩, hu⟩ := hu
  simp only [IV.cs, IV.kv, IV.vv, List.mem_cons, List.not_mem_nil, or_false] at hu
  rcases hu with rfl | rfl | rfl <;> rfl
theorem ic_get : ∀ (l : List IV) (i : Nat) (x : IV), l[i]? = some x → (ic l)[i * 3]? = some x.kv ∧ (ic l)[i * 3 + 1]? = some x.vv ∧ (ic l)[i * 3 + 2]? = some (.int .i64 (x.ch : Int))
  | [], i, x, h => by simp at h
  | y :: l, 0, x, h => by
    obtain rfl : y = x := by simpa using h
    simp [ic, IV.cs]
  | y :: l, i + 1, x, h => by
    have := ic_get l i x (by simpa using h)
    have e : ic (y :: l) = y.cs ++ ic l := by simp [ic]
    have h3 : y.cs.length = 3 := rfl
    rw [e, List.getElem?_append_right (by omega), List.getElem?_append_right (by omega), List.getElem?_append_right (by omega), h3]
    rw [show (i + 1) * 3 - 3 = i * 3 by omega, show (i + 1) * 3 + 1 - 3 = i * 3 + 1 by omega, show (i + 1) * 3 + 2 - 3 = i * 3 + 2 by omega]
    exact this
theorem ic_drop : ∀ (l : List IV) (k : Nat), (ic l).drop (k * 3) = ic (l.drop k)
  | l, 0 => by simp
  | [], k + 1 => by simp [ic]
  | y :: l, k + 1 => by
    have e : ic (y :: l) = y.cs ++ ic l := by simp [ic]
    have h3 : y.cs.length = 3 := rfl
    rw [List.drop_succ_cons, ← ic_drop l k, e, show (k + 1) * 3 = y.cs.length + k * 3 by omega, List.drop_append, List.drop_of_length_le (by omega), Nat.add_sub_cancel_left]; rfl
theorem ic_take (l : List IV) (k : Nat) (hk : k ≤ l.length) : (ic l).take (k * 3) = ic (l.take k) := by
  have e := List.take_append_drop k l
  have hl : (ic (l.take k)).length = k * 3 := by rw [ic_len, List.length_take, Nat.min_eq_left hk]
  conv => lhs; rw [← e, ic_app]
  rw [← hl, List.take_left]
theorem len3 {w : World} {n c : Nat} {A : Option Addr} {l : List IV} (h : Rd w 3 A n c (ic l)) : n = l.length := by
  have := h.len; rw [ic_len] at this; omega
theorem Rd.item {w : World} {n c k : Nat} {A : Option Addr} {l : List IV} (h : Rd w 3 A n c (ic l)) (hk : k < n) :
    ∃ g o x, A = some ⟨g, o, none⟩ ∧ g < w.heap.size ∧ l[k]? = some x ∧ w.cell? ⟨g, o + k * 3, none⟩ = some x.kv ∧ w.cell? ⟨g, o + k * 3 + 1, none⟩ = some x.vv ∧ w.cell? ⟨g, o + k * 3 + 2, none⟩ = some (.int .i64 (x.ch : Int)) := by
  obtain ⟨g, o, e, hb, hc⟩ := h.at_ (by omega)
  have hl := len3 h
  have hx : l[k]? = some (l[k]'(by omega)) := List.getElem?_eq_getElem (by omega)
  obtain ⟨k0, k1, k2⟩ := ic_get l k _ hx
  exact ⟨g, o, _, e, hb, hx, by rw [hc _ (by omega), k0], by rw [Nat.add_assoc, hc _ (by omega), k1], by rw [Nat.add_assoc, hc _ (by omega), k2]⟩

/-- From w to w' nothing has turned but the blocks of X and new ones. -/
structure Kp (w w' : World) (X : Nat → Prop) : Prop where
  os : w'.os = w.os
  tape : w'.tape = w.tape
  output : w'.output = w.output
  size : w.heap.size ≤ w'.heap.size
  block : ∀ i, i < w.heap.size → ¬ X i → w'.heap[i]? = w.heap[i]?
section
variable {w w1 w2 : World} {X Y : Nat → Prop}
theorem Kp.refl (w : World) (X : Nat → Prop) : Kp w w X := ⟨rfl, rfl, rfl, Nat.le_refl _, fun _ _ _ => rfl⟩
theorem Kp.trans (h : Kp w w1 X) (k : Kp w1 w2 Y) (hY : ∀ i, i < w.heap.size → Y i → X i) : Kp w w2 X :=
  ⟨k.os.trans h.os, k.tape.trans h.tape, k.output.trans h.output, Nat.le_trans h.size k.size, fun i hi hn => (k.block i (Nat.lt_of_lt_of_le hi h.size) fun e => hn (hY i hi e)).trans (h.block i hi hn)⟩
theorem Kp.of_below (h : Below w.heap.size w w1) (X : Nat → Prop) : Kp w w1 X := ⟨h.os, h.tape, h.output, h.size, fun i hi _ => h.block i hi⟩
theorem Kp.below (h : Kp w w1 X) (k : Below w1.heap.size w1 w2) : Kp w w2 X := h.trans (Kp.of_below k fun _ => False) fun _ _ e => e.elim
theorem Kp.of_grew {A A' : Option Addr} (h : Grew w A w1 A') (hX : ∀ g, blk A = some g → X g) : Kp w w1 X :=
  ⟨h.by_.os, h.by_.tape, h.by_.output, h.by_.size, fun i hi hn => h.by_.block i hi fun e => hn (hX i e.symm)⟩
theorem Kp.of_set (w : World) (p : Addr) (v : Value) (hX : X p.block) : Kp w (w.setCell p v) X :=
  ⟨rfl, rfl, rfl, by simp [World.setCell], fun i _ hn => Below.heap_setCell w p v i fun e => hn (by rw [e]; exact hX)⟩
theorem Kp.low {B : Nat} (h : Kp w w1 X) (hB : B ≤ w.heap.size) (hX : ∀ i, X i → B ≤ i) : Below B w w1 :=
  ⟨h.os, h.tape, h.output, h.size, fun i hi => h.block i (by omega) fun e => by have := hX i e; omega⟩
theorem Kp.mono (h : Kp w w1 X) (hX : ∀ i, i < w.heap.size → X i → Y i) : Kp w w1 Y := ⟨h.os, h.tape, h.output, h.size, fun i hi hn => h.block i hi fun e => hn (hX i hi e)⟩
theorem Kp.cell (h : Kp w w1 X) {b o : Nat} (hb : b < w.heap.size) (hn : ¬ X b) : w1.cell? ⟨b, o, none⟩ = w.cell? ⟨b, o, none⟩ := World.cell?_of_block (h.block b hb hn)
theorem Rd.kp {size n c : Nat} {A : Option Addr} {xs : List Value} (h : Rd w size A n c xs) (k : Kp w w1 X) (hA : ∀ g, 0 < n → blk A = some g → ¬ X g) : Rd w1 size A n c xs :=
  ⟨h.len, h.nc, h.nil, h.c63, fun hn => by
    obtain ⟨g, o, e, hb, hc⟩ := h.at_ hn
    refine ⟨g, o, e, Nat.lt_of_lt_of_le hb k.size, fun j hj => ?_⟩
    rw [← hc j hj]
    exact k.cell hb (hA g hn (by rw [e]; rfl))⟩
theorem own_kp {base e size n c : Nat} {A : Option Addr} {xs : List Value} (h : w.ownsRow base e size (.slice A n c) n xs) (k : Kp w w1 X) (hA : ∀ g, blk A = some g → ¬ X g) : w1.ownsRow base e size (.slice A n c) n xs := by
  obtain ⟨h1, h2⟩ := h
  refine ⟨h1, h2.imp id ?_⟩
  rintro ⟨g, cap, cur, e, hb, hg, hrest⟩
  refine ⟨g, cap, cur, e, hb, (k.block g (Array.getElem?_eq_some_iff.1 hg).1 (hA g ?_)).trans hg, hrest⟩
  injection e with e; rw [e]; rfl
theorem Kp.grew_own {base e size n c : Nat} {A A' : Option Addr} {xs : List Value} (hA : w.ownsRow base e size (.slice A n c) n xs) (h : Grew w A w1 A') (hX : ∀ g, base ≤ g → g < w.heap.size → blk A = some g → X g) : Kp w w1 X :=
  Kp.of_grew h fun g e => by have := own_blk_le hA e; exact hX g this.1 this.2 e
end
/-- A block that is kept: below base, or bytes. -/
def Sf (w : World) (base g : Nat) : Prop := g < base ∨ ∃ cs, w.heap[g]? = some (.cells cs 5 (0, 0))
/-- From w to w' bytes and all that lies below base have stayed. -/
structure Wr (base : Nat) (w w' : World) : Prop where
  os : w'.os = w.os
  tape : w'.tape = w.tape
  output : w'.output = w.output
  size : w.heap.size ≤ w'.heap.size
  keep : ∀ i, i < w.heap.size → Sf w base i → w'.heap[i]? = w.heap[i]?
section
variable {w w1 w2 : World} {X : Nat → Prop} {base : Nat}
theorem Sf.wr {g : Nat} (h : Sf w base g) (hg : g < w.heap.size) (k : Wr base w w1) : Sf w1 base g := by
  rcases h with h | ⟨cs, h⟩
  · exact .inl h
  · exact .inr ⟨cs, by rw [k.keep g hg (.inr ⟨cs, h⟩), h]⟩
theorem Wr.refl (base : Nat) (w : World) : Wr base w w := ⟨rfl, rfl, rfl, Nat.le_refl _, fun _ _ _ => rfl⟩
theorem Wr.trans (h : Wr base w w1) (k : Wr base w1 w2) : Wr base w w2 :=
  ⟨k.os.trans h.os, k.tape.trans h.tape, k.output.trans h.output, Nat.le_trans h.size k.size, fun i hi hs => (k.keep i (Nat.lt_of_lt_of_le hi h.size) (hs.wr hi h)).trans (h.keep i hi hs)⟩
theorem Wr.of_kp (h : Kp w w1 X) (hX : ∀ i, X i → ¬ Sf w base i) : Wr base w w1 :=
  ⟨h.os, h.tape, h.output, h.size, fun i hi hs => h.block i hi fun e => hX i e hs⟩
theorem Wr.of_below (h : Below w.heap.size w w1) (base : Nat) : Wr base w w1 := ⟨h.os, h.tape, h.output, h.size, fun i hi _ => h.block i hi⟩
theorem Wr.low (h : Wr base w w1) (hb : base ≤ w.heap.size) : Below base w w1 := ⟨h.os, h.tape, h.output, h.size, fun i hi => h.keep i (by omega) (.inl hi)⟩
theorem Rd.wr {size n c : Nat} {A : Option Addr} {xs : List Value} (h : Rd w size A n c xs) (k : Wr base w w1) (hA : ∀ g, 0 < n → blk A = some g → Sf w base g) : Rd w1 size A n c xs :=
  ⟨h.len, h.nc, h.nil, h.c63, fun hn => by
    obtain ⟨g, o, e, hb, hc⟩ := h.at_ hn
    refine ⟨g, o, e, Nat.lt_of_lt_of_le hb k.size, fun j hj => ?_⟩
    rw [← hc j hj]
    exact World.cell?_of_block (k.keep g hb (hA g hn (by rw [e]; rfl)))⟩
end
/-- Bytes that stay. -/
structure By (w : World) (base : Nat) (A : Option Addr) (c : Nat) (d : List UInt8) : Prop where
  rd : Rd w 1 A d.length c (bv d)
  sf : ∀ g, 0 < d.length → blk A = some g → Sf w base g
theorem By.wr {w w1 : World} {base c : Nat} {A : Option Addr} {d : List UInt8} (h : By w base A c d) (k : Wr base w w1) : By w1 base A c d :=
  ⟨Rd.wr h.rd k h.sf, fun g hn e => by
    obtain ⟨g', o, e', hb, _⟩ := h.rd.at_ hn
    rw [e'] at e
    injection e with e
    subst e
    exact (h.sf g' hn (by rw [e']; rfl)).wr hb k⟩
/-- The bytes of an item stay. -/
structure Iy (w : World) (base : Nat) (x : IV) : Prop where
  k : By w base x.kA x.kc x.k
  v : By w base x.vA x.vc x.v
theorem Iy.wr {w w1 : World} {base : Nat} {x : IV} (h : Iy w base x) (k : Wr base w w1) : Iy w1 base x := ⟨h.k.wr k, h.v.wr k⟩
/-- Items that can be read. -/
structure Ir (w : World) (base : Nat) (A : Option Addr) (n c : Nat) (l : List IV) : Prop where
  row : Rd w 3 A n c (ic l)
  dat : ∀ x ∈ l, Iy w base x
theorem Ir.len {w : World} {base n c : Nat} {A : Option Addr} {l : List IV} (h : Ir w base A n c l) : n = l.length := len3 h.row
theorem Ir.below {w w1 : World} {base n c : Nat} {A : Option Addr} {l : List IV} (h : Ir w base A n c l) (hb : Below w.heap.size w w1) : Ir w1 base A n c l :=
  ⟨h.row.below hb, fun x hx => (h.dat x hx).wr (Wr.of_below hb _)⟩
theorem Ir.kp {w w1 : World} {X : Nat → Prop} {base n c : Nat} {A : Option Addr} {l : List IV} (h : Ir w base A n c l) (k : Kp w w1 X) (hA : ∀ g, 0 < n → blk A = some g → ¬ X g) (hX : ∀ i, X i → ¬ Sf w base i) : Ir w1 base A n c l :=
  ⟨Rd.kp h.row k hA, fun x hx => (h.dat x hx).wr (Wr.of_kp k hX)⟩
theorem Ir.cut {w : World} {base n c g o lo hi : Nat} {l : List IV} (h : Ir w base (some ⟨g, o, none⟩) n c l) (h1 : lo ≤ hi) (h2 : hi ≤ n) : Ir w base (some ⟨g, o + lo * 3, none⟩) (hi - lo) (c - lo) ((l.drop lo).take (hi - lo)) := by
  have hl := h.len
  refine ⟨?_, fun x hx => h.dat x (List.mem_of_mem_drop (List.mem_of_mem_take hx))⟩
  have hn := h.row.len
  have hc := h.row.nc
  have h63 := h.row.c63
  have hlen : ((l.drop lo).take (hi - lo)).length = hi - lo := by rw [List.length_take, List.length_drop]; omega
  refine ⟨by rw [ic_len, hlen], by omega, fun e => (by cases e), by omega, fun hp => ?_⟩
  obtain ⟨g', o', e, hb, hcell⟩ := h.row.at_ (by omega)
  injection e with e
  injection e with e1 e2
  subst e1 e2
  refine ⟨g, o + lo * 3, rfl, hb, fun j hj => ?_⟩
  rw [Nat.add_assoc, hcell _ (by omega), ← ic_take _ _ (by rw [List.length_drop]; omega), ← ic_drop, List.getElem?_take, if_pos hj, List.getElem?_drop]
end Go.Proofs.YtpmkohnljngbhaaGreatDoor.Pg
/- The order of lists of bytes; where a key lies among items. -/
namespace Go.Proofs.YtpmkohnljngbhaaGreatDoor.Pg
set_option maxRecDepth 1000000

/-- The order of lists of bytes. -/
def cmpB (a b : List UInt8) : Int := Lib.compareBytes a b
theorem cmpB_cons (x y : UInt8) (a b : List UInt8) : cmpB (x :: a) (y :: b) = if x < y then -1 else if y < x then 1 else cmpB a b := rfl
theorem cmpB_nil : cmpB [] [] = 0 := rfl
theorem cmpB_nc (y : UInt8) (b : List UInt8) : cmpB [] (y :: b) = -1 := rfl
theorem cmpB_cn (x : UInt8) (a : List UInt8) : cmpB (x :: a) [] = 1 := rfl
theorem cmpB_cases (a b : List UInt8) : cmpB a b = -1 ∨ cmpB a b = 0 ∨ cmpB a b = 1 := by
  induction a generalizing b with
  | nil => cases b with
    | nil => exact .inr (.inl rfl)
    | cons y b => exact .inl rfl
  | cons x a ih => cases b with
    | nil => exact .inr (.inr rfl)
    | cons y b =>
      rw [cmpB_cons]
      split
      · exact .inl rfl
      · split
        · exact .inr (.inr rfl)
        · exact ih b
theorem cmpB_eq {a b : List UInt8} : cmpB a b = 0 ↔ a = b := by
  induction a generalizing b with
  | nil => cases b with
    | nil => simp [cmpB_nil]
    | cons y b => simp [cmpB_nc]
  | cons x a ih => cases b with
    | nil => simp [cmpB_cn]
    | cons y b =>
      rw [cmpB_cons]
      split
      · rename_i h
        constructor
        · intro e; cases e
        · intro e; injection e with e; subst e; exact absurd h (UInt8.lt_irrefl _)
      · split
        · rename_i h
          constructor
          · intro e; cases e
          · intro e; injection e with e; subst e; exact absurd h (UInt8.lt_irrefl _)
        · rename_i h1 h2
          have e : x = y := UInt8.le_antisymm (UInt8.not_lt.1 h2) (UInt8.not_lt.1 h1)
          rw [ih, e]
          simp
theorem cmpB_self (a : List UInt8) : cmpB a a = 0 := cmpB_eq.2 rfl
theorem cmpB_swap (a b : List UInt8) : cmpB b a = - cmpB a b := by
  induction a generalizing b with
  | nil => cases b <;> rfl
  | cons x a ih => cases b with
    | nil => rfl
    | cons y b =>
      rw [cmpB_cons, cmpB_cons]
      by_cases h1 : x < y
      · rw [if_pos h1, if_neg (UInt8.lt_asymm h1), if_pos h1]; rfl
      · rw [if_neg h1]
        by_cases h2 : y < x
        · rw [if_pos h2, if_neg h1, if_pos h2]
        · rw [if_neg h2, if_neg h1, if_neg h2, ih b]
theorem cmpB_trans {a b c : List UInt8} (h : cmpB a b < 0) (k : cmpB b c < 0) : cmpB a c < 0 := by
  induction a generalizing b c with
  | nil => cases b with
    | nil => exact absurd h (by decide)
    | cons y b => cases c with
      | nil => rw [cmpB_cn] at k; omega
      | cons z c => rw [cmpB_nc]; omega
  | cons x a ih => cases b with
    | nil => rw [cmpB_cn] at h; omega
    | cons y b => cases c with
      | nil => rw [cmpB_cn] at k; omega
      | cons z c =>
        rw [cmpB_cons] at h k ⊢
        by_cases h1 : x < y
        · rw [if_pos h1] at h
          by_cases k1 : y < z
          · rw [if_pos (UInt8.lt_trans h1 k1)]; omega
          · rw [if_neg k1] at k
            by_cases k2 : z < y
            · rw [if_pos k2] at k; omega
            · have e : y = z := UInt8.le_antisymm (UInt8.not_lt.1 k2) (UInt8.not_lt.1 k1)
              subst e
              rw [if_pos h1]; omega
        · rw [if_neg h1] at h
          by_cases h2 : y < x
          · rw [if_pos h2] at h; omega
          · rw [if_neg h2] at h
            have e : x = y := UInt8.le_antisymm (UInt8.not_lt.1 h2) (UInt8.not_lt.1 h1)
            subst e
            by_cases k1 : x < z
            · rw [if_pos k1]; omega
            · rw [if_neg k1] at k ⊢
              by_cases k2 : z < x
              · rw [if_pos k2] at k; omega
              · rw [if_neg k2] at k ⊢
                exact ih h k
theorem cmpB_ne {a b : List UInt8} (h : cmpB a b < 0) : a ≠ b := fun e => by subst e; rw [cmpB_self] at h; omega
theorem cmpB_asymm {a b : List UInt8} (h : cmpB a b < 0) : ¬ cmpB b a < 0 := by rw [cmpB_swap]; omega
/-- The keys ascend strictly. -/
def Srt (l : List It) : Prop := l.Pairwise fun a b => cmpB a.k b.k < 0
theorem Srt.at_ {l : List It} (h : Srt l) {i j : Nat} {x y : It} (hx : l[i]? = some x) (hy : l[j]? = some y) (hij : i < j) : cmpB x.k y.k < 0 := by
  obtain ⟨h1, rfl⟩ := List.getElem?_eq_some_iff.1 hx
  obtain ⟨h2, rfl⟩ := List.getElem?_eq_some_iff.1 hy
  exact List.pairwise_iff_getElem.1 h i j h1 h2 hij
/-- i is the place of a key among items, and b says whether it is there. -/
structure Plc (l : List It) (key : List UInt8) (i : Nat) (b : Bool) : Prop where
  le : i ≤ l.length
  lo : ∀ (j : Nat) (x : It), j < i → l[j]? = some x → cmpB x.k key < 0
  hi : ∀ (j : Nat) (x : It), i ≤ j → l[j]? = some x → 0 ≤ cmpB x.k key
  fd : b = true ↔ ∃ x, l[i]? = some x ∧ x.k = key
theorem Plc.uniq {l : List It} {key : List UInt8} {i j : Nat} {b c : Bool} (h : Plc l key i b) (k : Plc l key j c) : i = j ∧ b = c := by
  have e : i = j := by
    rcases Nat.lt_trichotomy i j with hlt | rfl | hlt
    · have hx : l[i]? = some (l[i]'(by have := k.le; omega)) := List.getElem?_eq_getElem _
      have := h.hi i _ (Nat.le_refl _) hx
      have := k.lo i _ hlt hx
      omega
    · rfl
    · have hx : l[j]? = some (l[j]'(by have := h.le; omega)) := List.getElem?_eq_getElem _
      have := k.hi j _ (Nat.le_refl _) hx
      have := h.lo j _ hlt hx
      omega
  subst e
  exact ⟨rfl, Bool.eq_iff_iff.2 (h.fd.trans k.fd.symm)⟩
/-- From sorted items: one test tells all. -/
theorem Srt.below {l : List It} (h : Srt l) {key : List UInt8} {m : Nat} {x : It} (hx : l[m]? = some x) (hc : cmpB x.k key < 0) : ∀ (j : Nat) (y : It), j < m + 1 → l[j]? = some y → cmpB y.k key < 0 := by
  intro j y hj hy
  rcases Nat.lt_or_ge j m with hlt | hge
  · exact cmpB_trans (h.at_ hy hx hlt) hc
  · obtain rfl : j = m := by omega
    rw [hx] at hy; injection hy with hy; subst hy; exact hc
theorem Srt.above {l : List It} (h : Srt l) {key : List UInt8} {m : Nat} {x : It} (hx : l[m]? = some x) (hc : ¬ cmpB x.k key < 0) : ∀ (j : Nat) (y : It), m ≤ j → l[j]? = some y → 0 ≤ cmpB y.k key := by
  intro j y hj hy
  rcases Nat.lt_or_ge m j with hlt | hge
  · exact Decidable.byContradiction fun hn => hc (cmpB_trans (h.at_ hx hy hlt) (by omega))
  · obtain rfl : m = j := by omega
    rw [hx] at hy; injection hy with hy; subst hy; omega
end Go.Proofs.YtpmkohnljngbhaaGreatDoor.Pg
/- Walks of the library's small functions on bytes: Equal, Compare, Clone. -/
namespace Go.Proofs.YtpmkohnljngbhaaGreatDoor.Pg
set_option maxRecDepth 1000000
open Go.RowKit Wl

set_option maxRecDepth 1000000 in
theorem conv_any {w : World} {A : Option Addr} {n c : Nat} {l : List UInt8} (h : Rd w 1 A n c (bv l)) :
    (convert 30 9 (.slice A n c)).run Tryz.prog w = .ok (.string ⟨l.toArray⟩) w := by
  have hl := h.len
  rw [bv_len, Nat.mul_one] at hl
  rcases Nat.eq_zero_or_pos n with h0 | h0
  · subst h0
    obtain rfl : l = [] := List.eq_nil_of_length_eq_zero hl
    rw [run_convert_bytes_string w 30 9 5 _ 0 c Tryz.underlying30 Tryz.underlying5 Tryz.underlying9]
    cases A <;> simp [Conv.bytesToString, loadCells]
    all_goals rfl
  · obtain ⟨g, o, rfl, _, hc⟩ := h.at_ h0
    have := run_convert_bytes_arg (P := Tryz.prog) w 30 5 Tryz.underlying30 Tryz.underlying5 g o n c (l.map fun u => (u.toNat : Int)) (by simpa using hl) (fun i hi => by
      have hi' : i < l.length := by omega
      rw [hc i (by omega), bv_get, List.getElem?_eq_getElem hi', List.getD_eq_getElem?_getD, List.getElem?_map, List.getElem?_eq_getElem hi']; rfl) 9 Tryz.underlying9
    rw [this]
    congr 2
    unfold strOfNums
    congr 2
    rw [List.map_map]
    have : ((fun n : Int => UInt8.ofNat n.toNat) ∘ fun u : UInt8 => (u.toNat : Int)) = id := by
      funext u; simp
    rw [this, List.map_id]
def eqB (a b : List UInt8) : Bool := decide (a = b)
theorem eqB_self (a : List UInt8) : eqB a a = true := decide_eq_true rfl
theorem eqB_iff {a b : List UInt8} : eqB a b = true ↔ a = b := decide_eq_true_iff
theorem eqB_f {a b : List UInt8} (h : a ≠ b) : eqB a b = false := decide_eq_false h
theorem beq_eqB (a b : List UInt8) : (a == b) = eqB a b := by
  unfold eqB
  rw [Bool.eq_iff_iff, beq_iff_eq, decide_eq_true_iff]
theorem Equal_any {A B : Option Addr} {n c m d : Nat} {a b : List UInt8} (w : World) (h : Hid (Rd w 1 A n c (bv a))) (k : Hid (Rd w 1 B m d (bv b))) :
    Calls Tryz.prog 18 #[.slice A n c, .slice B m d] w fun e w' => e = .returned (.bool (eqB a b)) ∧ w = w' := by
  have r1 := conv_any h.out
  have r2 := conv_any k.out
  have E := Lib.hid (beq_eqB a b)
  go_enter Tryz.func18, Tryz.ntmps18
  go_wp2
  go_ret
  exact ⟨ret_bool E.out, rfl⟩
theorem load_any {w : World} {A : Option Addr} {n c : Nat} {l : List UInt8} (h : Rd w 1 A n c (bv l)) :
    (Extern.Bytes.bytesOf (.slice A n c)).run Tryz.prog w = .ok ⟨l.toArray⟩ w := by
  have hl := h.len
  rw [bv_len, Nat.mul_one] at hl
  have key : ∀ ad : Addr, A = some ad → (Extern.Bytes.loadBytes ad n .empty).run Tryz.prog w = .ok ⟨l.toArray⟩ w := by
    intro ad hA
    have := Lib.run_loadBytesX (P := Tryz.prog) w (l.map fun u => (u.toNat : Int)) ad .empty (fun j x hj => by
      rw [List.getElem?_map] at hj
      rcases hu : l[j]? with _ | u
      · rw [hu] at hj; cases hj
      · rw [hu] at hj
        injection hj with hj
        have hlt := (List.getElem?_eq_some_iff.1 hu).1
        obtain ⟨g, o, e, _, hc⟩ := h.at_ (by omega)
        rw [hA] at e; injection e with e; subst e
        rw [addr_add, hc j (by omega), bv_get, hu, ← hj]; rfl)
    rw [List.length_map, hl] at this
    rw [this]
    congr 2
    unfold Lib.bytesOf
    rw [List.map_map]
    have e : ((fun n : Int => n.toNat.toUInt8) ∘ fun u : UInt8 => (u.toNat : Int)) = id := by
      funext u; simp
    rw [e, List.map_id]
    simp
  rcases A with _ | ad
  · have := h.nil rfl
    have := h.nc
    obtain rfl : l = [] := List.eq_nil_of_length_eq_zero (by omega)
    rfl
  · exact key ad rfl
theorem Compare_any {A B : Option Addr} {n c m d : Nat} {a b : List UInt8} (w : World) (h : Hid (Rd w 1 A n c (bv a))) (k : Hid (Rd w 1 B m d (bv b))) :
    Calls Tryz.prog 47 #[.slice A n c, .slice B m d] w fun e w' => e = .returned (.int .i64 (cmpB a b)) ∧ w = w' := by
  have r1 := Lib.hid (load_any h.out)
  have r2 := Lib.hid (load_any k.out)
  go_enter Tryz.func47, Tryz.ntmps47
  go_wp2
  rw [run_callFunc_extern Tryz.func86 (by kernel_rfl) (by kernel_rfl) (by kernel_rfl) (e := Extern.BytealgCompare.compare) (by kernel_rfl)]
  have hc : (Extern.BytealgCompare.compare #[.slice A n c, .slice B m d]).run Tryz.prog w = .ok (.int .i64 (cmpB a b)) w := by
    show Sem.run Tryz.prog (do pure (goInt (Extern.BytealgCompare.cmp (← Extern.Bytes.bytesOf (.slice A n c)) (← Extern.Bytes.bytesOf (.slice B m d))))) w = _
    simp only [Sem.run_bind, Sem.run_pure, r1.out, r2.out, Result.andThen]
    rw [Lib.cmp_eq]
    rfl
  rw [hc]
  simp only [Result.andThen]
  rw [Oper.upon_value]
  go_wp2
  go_ret
  exact ⟨rfl, rfl⟩
/-- Cells in a row of the call's own. -/
def Mv (w : World) (E size : Nat) (m : Nat) (xs : List Value) (e : Ending) (w' : World) : Prop :=
  ∃ A c, e = .returned (.slice A m c) ∧ Hid (w'.ownsRow w.heap.size E size (.slice A m c) m xs) ∧ Below w.heap.size w w'
theorem info_byte : (Tryz.prog.info? 5).map (fun i => (i.zero, i.size, i.bytes)) = some (some (.int .u8 0), 1, 1) := by kernel_rfl
theorem info_page : (Tryz.prog.info? 30).map (fun i => (i.zero, i.size, i.bytes)) = some (some (.slice none 0 0), 1, 24) := by kernel_rfl
theorem info_int : (Tryz.prog.info? 3).map (fun i => (i.zero, i.size, i.bytes)) = some (some (.int .i64 0), 1, 8) := by kernel_rfl
theorem bclone_any {B : Option Addr} {m d : Nat} {xs : List Value} (w : World) (hd : Hid (Rd w 1 B m d xs)) (h1 : ∀ u ∈ xs, u.oneCell' = true) (hm : m ≤ 1073741824) :
    Calls Tryz.prog 48 #[.slice B m d] w (Mv w 5 1 m xs) := by
  obtain ⟨i0, hi, hz0, hz1, hz2⟩ := info_parts info_byte
  rcases B with _ | a
  · obtain rfl : d = 0 := hd.out.nil rfl
    obtain rfl : m = 0 := by have := hd.out.nc; omega
    have q22 := fun w : World => Lib.run_eql_slice_nil (P := Tryz.prog) w 30 5 none 0 0 0 0 Tryz.underlying30
    have hl : Hid (xs = []) := Lib.hid (List.eq_nil_of_length_eq_zero (by have := hd.out.len; omega))
    go_enter Tryz.func48, Tryz.ntmps48
    go_wp2
    go_ret
    exact ⟨none, 0, rfl, Lib.hid (by rw [hl.out]; exact World.ownsRow_nil _ _ _ _), Below.refl _ _⟩
  · have q22 := fun w : World => Lib.run_eql_slice_nil (P := Tryz.prog) w 30 5 (some a) m d 0 0 Tryz.underlying30
    go_enter Tryz.func48, Tryz.ntmps48
    go_wp2_with (at_builtin; refine wpList_app _ rfl (.tmp 5) (.tmp 6) 30 rfl w.heap.size 5 i0 (.int .u8 0) 1 1 Tryz.underlying30 hi hz0 hz1 hz2 rfl (by omega) (by rfl) (own_lit w _ 1 #[] 0 (Nat.le_refl _) (by unfold maxLen; omega) rfl) (by rfl) (hd.out.alloc _) h1 (by omega) (by omega) (by simp) ?_; intro A1 c1 w1 own1 g1)
    go_ret
    rw [Nat.zero_add] at own1
    exact ⟨A1, c1, rfl, Lib.hid own1, g1.low ((Below.refl _ _).alloc (Nat.le_refl _) _) (by simp) (fun g e => by simp [blk] at e; omega)⟩
theorem sclone_any {B : Option Addr} {m d : Nat} {xs : List Value} (w : World) (hd : Hid (Rd w 1 B m d xs)) (h1 : ∀ u ∈ xs, u.oneCell' = true) (hm : m ≤ 1073741824) :
    Calls Tryz.prog 80 #[.slice B m d] w (Mv w 5 1 m xs) := by
  obtain ⟨i0, hi, hz0, hz1, hz2⟩ := info_parts info_byte
  rcases B with _ | a
  · obtain rfl : d = 0 := hd.out.nil rfl
    obtain rfl : m = 0 := by have := hd.out.nc; omega
    have q22 := fun w : World => Lib.run_eql_slice_nil (P := Tryz.prog) w 30 5 none 0 0 0 0 Tryz.underlying30
    have hl : Hid (xs = []) := Lib.hid (List.eq_nil_of_length_eq_zero (by have := hd.out.len; omega))
    go_enter Tryz.func80, Tryz.ntmps80
    go_wp2
    go_ret
    exact ⟨none, 0, rfl, Lib.hid (by rw [hl.out]; exact World.ownsRow_nil _ _ _ _), Below.refl _ _⟩
  · have q22 := fun w : World => Lib.run_eql_slice_nil (P := Tryz.prog) w 30 5 (some a) m d 0 0 Tryz.underlying30
    go_enter Tryz.func80, Tryz.ntmps80
    go_wp2_with (at_builtin; refine wpList_app _ rfl (.tmp 5) (.tmp 6) 30 rfl w.heap.size 5 i0 (.int .u8 0) 1 1 Tryz.underlying30 hi hz0 hz1 hz2 rfl (by omega) (by rfl) (own_lit w _ 1 #[] 0 (Nat.le_refl _) (by unfold maxLen; omega) rfl) (by rfl) (hd.out.alloc _) h1 (by omega) (by omega) (by simp) ?_; intro A1 c1 w1 own1 g1)
    go_ret
    rw [Nat.zero_add] at own1
    exact ⟨A1, c1, rfl, Lib.hid own1, g1.low ((Below.refl _ _).alloc (Nat.le_refl _) _) (by simp) (fun g e => by simp [blk] at e; omega)⟩
theorem iclone_any {B : Option Addr} {m d : Nat} {xs : List Value} (w : World) (hd : Hid (Rd w 1 B m d xs)) (h1 : ∀ u ∈ xs, u.oneCell' = true) (hm : m ≤ 1073741824) :
    Calls Tryz.prog 94 #[.slice B m d] w (Mv w 3 1 m xs) := by
  obtain ⟨i0, hi, hz0, hz1, hz2⟩ := info_parts info_int
  rcases B with _ | a
  · obtain rfl : d = 0 := hd.out.nil rfl
    obtain rfl : m = 0 := by have := hd.out.nc; omega
    have q22 := fun w : World => Lib.run_eql_slice_nil (P := Tryz.prog) w 27 3 none 0 0 0 0 Tryz.underlying27
    have hl : Hid (xs = []) := Lib.hid (List.eq_nil_of_length_eq_zero (by have := hd.out.len; omega))
    go_enter Tryz.func94, Tryz.ntmps94
    go_wp2
    go_ret
    exact ⟨none, 0, rfl, Lib.hid (by rw [hl.out]; exact World.ownsRow_nil _ _ _ _), Below.refl _ _⟩
  · have q22 := fun w : World => Lib.run_eql_slice_nil (P := Tryz.prog) w 27 3 (some a) m d 0 0 Tryz.underlying27
    go_enter Tryz.func94, Tryz.ntmps94
    go_wp2_with (at_builtin; refine wpList_app _ rfl (.tmp 5) (.tmp 6) 27 rfl w.heap.size 3 i0 (.int .i64 0) 1 8 Tryz.underlying27 hi hz0 hz1 hz2 rfl (by omega) (by rfl) (own_lit w _ 1 #[] 0 (Nat.le_refl _) (by unfold maxLen; omega) rfl) (by rfl) (hd.out.alloc _) h1 (by omega) (by omega) (by simp) ?_; intro A1 c1 w1 own1 g1)
    go_ret
    rw [Nat.zero_add] at own1
    exact ⟨A1, c1, rfl, Lib.hid own1, g1.low ((Below.refl _ _).alloc (Nat.le_refl _) _) (by simp) (fun g e => by simp [blk] at e; omega)⟩
end Go.Proofs.YtpmkohnljngbhaaGreatDoor.Pg
/- Files in memory. -/
namespace Go.Proofs.YtpmkohnljngbhaaGreatDoor.Pg
set_option maxRecDepth 1000000
open Go.RowKit Wl

def iv (l : List Int) : List Value := l.map fun x => .int .i64 x
theorem iv_len (l : List Int) : (iv l).length = l.length := by simp [iv]
theorem iv_one (l : List Int) : ∀ u ∈ iv l, u.oneCell' = true := by
  intro u hu; simp only [iv, List.mem_map] at hu; obtain ⟨_, _, rfl⟩ := hu; rfl
/-- A page in memory. -/
structure PV where
  A : Option Addr
  c : Nat
  d : List UInt8
def PV.v (x : PV) : Value := .slice x.A x.d.length x.c
def pv (l : List PV) : List Value := l.map PV.v
theorem pv_len (l : List PV) : (pv l).length = l.length := by simp [pv]
theorem pv_one (l : List PV) : ∀ u ∈ pv l, u.oneCell' = true := by
  intro u hu; simp only [pv, List.mem_map] at hu; obtain ⟨_, _, rfl⟩ := hu; rfl
structure Pr (w : World) (A : Option Addr) (n c : Nat) (l : List PV) : Prop where
  row : Rd w 1 A n c (pv l)
  dat : ∀ x ∈ l, Rd w 1 x.A x.d.length x.c (bv x.d)
theorem Pr.below {w w' : World} {A : Option Addr} {n c : Nat} {l : List PV} (h : Pr w A n c l) (hb : Below w.heap.size w w') : Pr w' A n c l := ⟨h.row.below hb, fun x hx => (h.dat x hx).below hb⟩
theorem Pr.len {w : World} {A : Option Addr} {n c : Nat} {l : List PV} (h : Pr w A n c l) : n = l.length := by
  have := h.row.len; rw [pv_len] at this; omega
/-- A file in memory. -/
structure FV where
  PA : Option Addr
  pc : Nat
  ps : List PV
  root : Int
  FA : Option Addr
  fc : Nat
  free : List Int
structure Fi where
  pg : List (List UInt8)
  root : Int
  free : List Int
def FV.f (f : FV) : Fi := ⟨f.ps.map PV.d, f.root, f.free⟩
def FV.cs (f : FV) : List Value := [.slice f.PA f.ps.length f.pc, .int .i64 f.root, .slice f.FA f.free.length f.fc]
def FV.val (f : FV) : Value := .agg #[.slice f.PA f.ps.length f.pc, .int .i64 f.root, .slice f.FA f.free.length f.fc]
structure Fl (w : World) (f : FV) : Prop where
  pg : Pr w f.PA f.ps.length f.pc f.ps
  fr : Rd w 1 f.FA f.free.length f.fc (iv f.free)
theorem Fl.below {w w' : World} {f : FV} (h : Fl w f) (hb : Below w.heap.size w w') : Fl w' f := ⟨h.pg.below hb, h.fr.below hb⟩
/-- The numbers of free pages are as described. -/
def FrOk (n : Nat) (root : Int) (l : List Int) : Prop := ∀ (i : Nat) (x : Int), l[i]? = some x → 0 ≤ x ∧ x < n ∧ (∀ y, 0 < i → l[i - 1]? = some y → y < x) ∧ x ≠ root
structure Shp (F : Fi) : Prop where
  n4 : F.pg.length ≤ 4096
  r1 : -1 ≤ F.root
  r2 : F.root < F.pg.length
  p256 : ∀ p ∈ F.pg, p.length = 256
  fr : FrOk F.pg.length F.root F.free

section
variable {w : World} {A : Option Addr} {n c j : Nat}
theorem Rd.at1 {α : Type} {val : α → Value} {l : List α} (h : Rd w 1 A n c (l.map val)) (hj : j < n) : ∃ g o x, A = some ⟨g, o, none⟩ ∧ g < w.heap.size ∧ l[j]? = some x ∧ w.cell? ⟨g, o + j, none⟩ = some (val x) := by
  obtain ⟨g, o, e, hb, hc⟩ := h.at_ (by omega)
  have hl := h.len
  rw [List.length_map] at hl
  have hx : l[j]? = some (l[j]'(by omega)) := List.getElem?_eq_getElem (by omega)
  exact ⟨g, o, _, e, hb, hx, by rw [hc j (by omega), List.getElem?_map, hx]; rfl⟩
end
/-- The index of the first one, or -1. -/
def Ix (w : World) (b : Bool) (e : Ending) (w' : World) : Prop := ∃ i : Int, e = .returned (.int .i64 i) ∧ (b = true → 0 ≤ i) ∧ (b = false → i = -1) ∧ Below w.heap.size w w'
theorem Ix.t {w w' : World} {b : Bool} {i : Int} {e : Ending} (hb : b = true) (he : e = .returned (.int .i64 i)) (h : 0 ≤ i) (hw : Below w.heap.size w w') : Ix w b e w' := ⟨i, he, fun _ => h, (fun h => by rw [hb] at h; cases h), hw⟩
theorem Ix.f {w w' : World} {b : Bool} {e : Ending} (hb : b = false) (he : e = .returned (.int .i64 (-1))) (hw : Below w.heap.size w w') : Ix w b e w' := ⟨-1, he, (fun h => by rw [hb] at h; cases h), fun _ => rfl, hw⟩
theorem shapes_any_ix {α : Type} (val : α → Value) (p : α → Bool) {A : Option Addr} {n c : Nat} {l : List α}  (w : World) (h : Hid (Rd w 1 A n c (l.map val)))
    (hf : Hid (∀ U, Below w.heap.size w U → ∀ x ∈ l, Calls Tryz.prog 82 #[val x] U fun e w' => e = .returned (.bool (p x)) ∧ Below U.heap.size U w')) :
    Calls Tryz.prog 109 #[.slice A n c, .func (.func 82) #[] #[]] w (Ix w (l.any p)) := by
  have hnc := h.out.nc
  have hc63 := h.out.c63
  go_enter Tryz.func109, Tryz.ntmps109
  go_wp2_with fail
  go_loopw [8] (fun i wr => ∃ j : Nat, j ≤ n ∧ i = .int .i64 j ∧ Below w.heap.size w wr ∧ Hid ((l.take j).any p = false)) (fun i _ => (n - intOf i).toNat)
  case atStart => exact ⟨0, by omega, rfl, Below.refl _ _, Lib.hid rfl⟩
  case round =>
    obtain ⟨j, hj, rfl, bw, hpre⟩ := hrel
    by_cases hlt : j < n
    · obtain ⟨g, o, x, rfl, hg, hx, hc⟩ := Rd.at1 (Rd.below h.out bw) hlt
      have HX := Lib.hid hx
      have HM := Lib.hid (List.mem_of_getElem? hx)
      clear hx
      go_wp2_with fail
      go_at_call 82
      refine (hf.out _ bw x HM.out).mono ?_
      rintro e w1 ⟨rfl, hb1⟩
      have bw1 : Below w.heap.size w w1 := bel_step bw hb1 (Nat.le_refl _)
      clear hb1
      rcases hs : p x with _ | _
      · have hp2 : Hid ((l.take (j + 1)).any p = false) := Lib.hid (by
          rw [List.take_add_one, List.any_append, hpre.out, HX.out, Bool.false_or]; simpa using hs)
        clear hs
        go_wp2_with fail
        go_roundw
        case rel => exact ⟨j + 1, by omega, by go_num, bw1, hp2⟩
        case measure => simp [intOf]; omega
      · have R : Hid (l.any p = true) := Lib.hid (List.any_eq_true.2 ⟨x, HM.out, hs⟩)
        clear hs
        go_wp2_with fail
        go_ret
        exact Ix.t R.out rfl (by omega) bw1
    · obtain rfl : j = n := by omega
      have R : Hid (l.any p = false) := Lib.hid (by
        have h1 := hpre.out
        rwa [List.take_of_length_le (by have := h.out.len; rw [List.length_map] at this; omega)] at h1)
      go_wp2_with fail
      go_ret
      exact Ix.f R.out rfl bw
theorem shapes_any {α : Type} (val : α → Value) (p : α → Bool) {A : Option Addr} {n c : Nat} {l : List α}  (w : World) (h : Hid (Rd w 1 A n c (l.map val)))
    (hf : Hid (∀ U, Below w.heap.size w U → ∀ x ∈ l, Calls Tryz.prog 82 #[val x] U fun e w' => e = .returned (.bool (p x)) ∧ Below U.heap.size U w')) :
    Calls Tryz.prog 81 #[.slice A n c, .func (.func 82) #[] #[]] w fun e w' => e = .returned (.bool (l.any p)) ∧ Below w.heap.size w w' := by
  go_enter Tryz.func81, Tryz.ntmps81
  go_wp2_with fail
  go_at_call 109
  refine (shapes_any_ix val p _ h hf).mono ?_
  rintro e w1 ⟨i, rfl, i1, i2, hb1⟩
  rcases hs : l.any p with _ | _
  · have hi : i = -1 := i2 hs
    subst hi
    have HS := Lib.hid hs
    clear hs i1 i2
    go_wp2_with fail
    go_ret
    exact ⟨ret_bool (by rw [HS.out]), hb1⟩
  · have hi : 0 ≤ i := i1 hs
    have HS := Lib.hid hs
    clear hs i1 i2
    go_wp2_with fail
    go_ret
    exact ⟨ret_bool (by rw [HS.out]), hb1⟩
end Go.Proofs.YtpmkohnljngbhaaGreatDoor.Pg
/- Boxes of cells that the call writes. -/
namespace Go.Proofs.YtpmkohnljngbhaaGreatDoor.Pg
set_option maxRecDepth 1000000
open Go.RowKit Wl

theorem rd_lit {q : Nat} (w : World) (hq : w.heap.size = q) (e size : Nat) (cs : Array Value) (n : Nat) (hm : n ≤ 9223372036854775807) (hs : cs.size = n * size) : Rd (w.alloc (.cells cs e)) size (some ⟨q, 0, none⟩) n n cs.toList := by
  subst hq; exact Rd.lit w e size cs n hm hs
/-- The walk stops here. -/
def Hold (p : Prop) : Prop := p
theorem hold {p : Prop} (h : Hold p) : p := h
/-- The block p has the cells l, which may be written. -/
structure Bx (W : World) (p : Nat) (l : List Value) : Prop where
  lt : p < W.heap.size
  at_ : ∀ j, j < l.length → W.cell? ⟨p, j, none⟩ = l[j]?
  fz : ∀ j, j < l.length → W.frozen? ⟨p, j, none⟩ = false
section
variable {W U : World} {p : Nat} {l : List Value} {X : Nat → Prop}
theorem Bx.kp (h : Bx W p l) (k : Kp W U X) (hX : ¬ X p) : Bx U p l :=
  ⟨Nat.lt_of_lt_of_le h.lt k.size, fun j hj => (k.cell h.lt hX).trans (h.at_ j hj), fun j hj => (World.frozen?_of_block (k.block p h.lt hX)).trans (h.fz j hj)⟩
theorem Bx.below {B : Nat} (h : Bx W p l) (hb : Below B W U) (hp : p < B) : Bx U p l :=
  ⟨Nat.lt_of_lt_of_le h.lt hb.size, fun j hj => (World.cell?_of_block (hb.block p hp)).trans (h.at_ j hj), fun j hj => (World.frozen?_of_block (hb.block p hp)).trans (h.fz j hj)⟩
theorem Bx.step (h : Bx W p l) (hb : Below W.heap.size W U) : Bx U p l := h.below hb h.lt
theorem Bx.other (h : Bx W p l) {q : Nat} (hq : q ≠ p) (o : Nat) (v : Value) : Bx (W.setCell ⟨q, o, none⟩ v) p l :=
  h.kp (X := fun i => i = q) (Kp.of_set W ⟨q, o, none⟩ v rfl) fun e => hq e.symm
theorem Bx.set (h : Bx W p l) {j : Nat} (hj : j < l.length) (v : Value) : Bx (W.setCell ⟨p, j, none⟩ v) p (l.set j v) := by
  refine ⟨by simpa using h.lt, fun i hi => ?_, fun i hi => ?_⟩
  · rw [List.length_set] at hi
    by_cases e : i = j
    · subst e
      rw [List.getElem?_set_self hj]
      have := h.at_ i hj
      rw [List.getElem?_eq_getElem hj] at this
      exact World.cell?_setCell_same _ _ _ this
    · rw [List.getElem?_set_ne (by omega)]
      exact (World.cell?_setCell_other _ _ _ _ (by simp)).trans (h.at_ i hi)
  · rw [List.length_set] at hi
    have := h.fz i hi
    simpa [go_sem] using this
theorem Bx.drewN (h : Bx W p l) (n : Nat) : Bx (W.drewN n) p l := ⟨h.lt, h.at_, h.fz⟩
theorem Kp.drewN (W : World) (n : Nat) (X : Nat → Prop) : Kp W (W.drewN n) X := ⟨rfl, rfl, rfl, Nat.le_refl _, fun _ _ _ => rfl⟩
theorem Bx.new (w : World) (cs : Array Value) (T : TypeId) : Bx (w.alloc (.cells cs T)) w.heap.size cs.toList := by
  refine ⟨by simp, fun j hj => ?_, fun j hj => ?_⟩
  · unfold World.cell?; rw [heap_alloc_new]; simp
  · unfold World.frozen?; rw [heap_alloc_new]; rfl
theorem Bx.put {q : Nat} (w : World) (hq : w.heap.size = q) (cs : Array Value) (T : TypeId) : Bx (w.alloc (.cells cs T)) q cs.toList := by
  subst hq; exact Bx.new w cs T
end
end Go.Proofs.YtpmkohnljngbhaaGreatDoor.Pg
