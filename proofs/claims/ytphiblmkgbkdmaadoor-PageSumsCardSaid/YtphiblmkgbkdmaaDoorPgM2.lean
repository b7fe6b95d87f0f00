/- Pages as lists of items: what is written is read. -/
import Derived.Test.YtphiblmkgbkdmaaDoorPgM
namespace Go.Proofs.YtphiblmkgbkdmaaDoor.Pg
set_option linter.unusedVariables false
set_option linter.unusedSimpArgs false
open Wl (be val be_len)

theorem val_inj {a b : List UInt8} (hl : a.length = b.length) (h : val a = val b) : a = b := by
  have h1 := Wl.be_val a
  rw [h, hl, Wl.be_val b] at h1
  exact h1.symm

structure It where
  k : List UInt8
  v : List UInt8
  ch : Nat
def isz (kind : Nat) (x : It) : Nat := if kind = 1 then 2 + x.k.length + x.v.length else 3 + x.k.length
def hdr (kind : Nat) (x : It) : List UInt8 :=
  if kind = 1 then [UInt8.ofNat x.k.length, UInt8.ofNat x.v.length] else [UInt8.ofNat (x.ch / 256), UInt8.ofNat x.ch, UInt8.ofNat x.k.length]
def itb (kind : Nat) (x : It) : List UInt8 := hdr kind x ++ (x.k ++ x.v)
def bdy (kind : Nat) : List It → List UInt8
  | [] => []
  | x :: l => itb kind x ++ bdy kind l
def tot (kind : Nat) : List It → Nat
  | [] => 0
  | x :: l => isz kind x + tot kind l
def rst (kind : Nat) (l : List It) : List UInt8 := UInt8.ofNat kind :: UInt8.ofNat l.length :: (bdy kind l ++ List.replicate (250 - (bdy kind l).length) 0)
def enc (kind : Nat) (l : List It) : List UInt8 := be 4 (crc (rst kind l)) ++ rst kind l
structure ItOk (kind : Nat) (x : It) : Prop where
  k1 : 1 ≤ x.k.length
  k2 : x.k.length ≤ 40
  v2 : x.v.length ≤ 120
  lf : kind = 1 → x.ch = 0
  fk : kind ≠ 1 → x.v = [] ∧ x.ch < 65536
def di (kind : Nat) (r : List UInt8) : Option (It × List UInt8) :=
  if kind = 1 then
    match r with
    | a :: b :: r' => if 1 ≤ a.toNat ∧ a.toNat ≤ 40 ∧ b.toNat ≤ 120 ∧ a.toNat + b.toNat ≤ r'.length then
        some (⟨r'.take a.toNat, (r'.drop a.toNat).take b.toNat, 0⟩, (r'.drop a.toNat).drop b.toNat) else none
    | _ => none
  else
    match r with
    | a :: b :: c :: r' => if 1 ≤ c.toNat ∧ c.toNat ≤ 40 ∧ c.toNat ≤ r'.length then some (⟨r'.take c.toNat, [], a.toNat * 256 + b.toNat⟩, r'.drop c.toNat) else none
    | _ => none
def dn (kind : Nat) : Nat → List UInt8 → Option (List It × List UInt8)
  | 0, r => some ([], r)
  | n + 1, r => match dn kind n r with
    | none => none
    | some (l, r') => match di kind r' with
      | none => none
      | some (x, r'') => some (l ++ [x], r'')
def dec (p : List UInt8) : Option (Nat × List It) :=
  if val (p.take 4) = crc (p.drop 4) ∧ ((p.getD 4 0).toNat = 1 ∨ (p.getD 4 0).toNat = 2) ∧ (p.getD 4 0).toNat ≤ (p.getD 5 0).toNat then
    match dn (p.getD 4 0).toNat (p.getD 5 0).toNat (p.drop 6) with
    | some (l, r) => if r.all (· == 0) then some ((p.getD 4 0).toNat, l) else none
    | none => none
  else none

theorem itb_len (kind : Nat) {x : It} (h : ItOk kind x) : (itb kind x).length = isz kind x := by
  unfold itb isz hdr
  by_cases e : kind = 1
  · rw [if_pos e, if_pos e]; simp; omega
  · rw [if_neg e, if_neg e, (h.fk e).1]; simp; omega
theorem bdy_len (kind : Nat) {l : List It} (h : ∀ x ∈ l, ItOk kind x) : (bdy kind l).length = tot kind l := by
  induction l with
  | nil => rfl
  | cons x l ih => simp only [bdy, tot, List.length_append, itb_len kind (h x (by simp)), ih fun y hy => h y (by simp [hy])]
theorem bdy_app (kind : Nat) (l m : List It) : bdy kind (l ++ m) = bdy kind l ++ bdy kind m := by
  induction l with
  | nil => rfl
  | cons x l ih => simp [bdy, ih]
theorem tot_app (kind : Nat) (l m : List It) : tot kind (l ++ m) = tot kind l + tot kind m := by
  induction l with
  | nil => simp [tot]
  | cons x l ih => simp [tot, ih]; omega
theorem isz_ge (kind : Nat) {x : It} (h : ItOk kind x) : 3 ≤ isz kind x := by
  have := h.k1; unfold isz; split <;> omega
theorem isz_le1 {x : It} (h : ItOk 1 x) : isz 1 x ≤ 162 := by
  have := h.k2; have := h.v2; simp [isz]; omega
theorem isz_le2 {kind : Nat} {x : It} (h : ItOk kind x) (hk : kind ≠ 1) : isz kind x ≤ 43 := by
  have := h.k2; simp [isz, hk]; omega
theorem isz_le {kind : Nat} {x : It} (h : ItOk kind x) : isz kind x ≤ 162 := by
  by_cases e : kind = 1
  · subst e; exact isz_le1 h
  · have := isz_le2 h e; omega
theorem tot_ge {kind : Nat} {l : List It} (h : ∀ x ∈ l, ItOk kind x) : 3 * l.length ≤ tot kind l := by
  induction l with
  | nil => simp [tot]
  | cons x l ih =>
    have := isz_ge kind (h x (by simp)); have := ih fun y hy => h y (by simp [hy])
    simp [tot]; omega
theorem rst_len {kind : Nat} {l : List It} (h : ∀ x ∈ l, ItOk kind x) (ht : tot kind l ≤ 250) : (rst kind l).length = 252 := by
  have := bdy_len kind h
  simp [rst]; omega
theorem enc_len {kind : Nat} {l : List It} (h : ∀ x ∈ l, ItOk kind x) (ht : tot kind l ≤ 250) : (enc kind l).length = 256 := by
  simp [enc, be_len, rst_len h ht]

theorem nat8 {n : Nat} (h : n < 256) : (UInt8.ofNat n).toNat = n := by simp; omega
/-- An item is read behind its code. -/
theorem di_itb {kind : Nat} {x : It} (h : ItOk kind x) (r : List UInt8) : di kind (itb kind x ++ r) = some (x, r) := by
  obtain ⟨k1, k2, v2, lf, fk⟩ := h
  rcases x with ⟨k, v, ch⟩
  simp only at k1 k2 v2 lf fk
  unfold di itb hdr
  by_cases e : kind = 1
  · have := lf e; subst this
    have e1 : (UInt8.ofNat k.length).toNat = k.length := nat8 (by omega)
    have e2 : (UInt8.ofNat v.length).toNat = v.length := nat8 (by omega)
    simp only [if_pos e, List.cons_append, List.nil_append, e1, e2]
    rw [if_pos ⟨k1, k2, v2, by simp⟩]
    simp
  · obtain ⟨rfl, hc⟩ := fk e
    have e1 : (UInt8.ofNat k.length).toNat = k.length := nat8 (by omega)
    have e2 : (UInt8.ofNat (ch / 256)).toNat = ch / 256 := nat8 (by omega)
    have e3 : (UInt8.ofNat ch).toNat = ch % 256 := by simp
    simp only [if_neg e, List.cons_append, List.nil_append, e1, e2, e3, List.append_nil]
    rw [if_pos ⟨k1, k2, by simp⟩]
    simp
    omega
theorem dn_bdy {kind : Nat} {l : List It} (h : ∀ x ∈ l, ItOk kind x) (r : List UInt8) : dn kind l.length (bdy kind l ++ r) = some (l, r) := by
  suffices hh : ∀ n m r, m.length = n → (∀ x ∈ m, ItOk kind x) → dn kind n (bdy kind m ++ r) = some (m, r) from hh l.length l r rfl h
  intro n
  induction n with
  | zero =>
    intro m r hl _
    obtain rfl : m = [] := List.length_eq_zero_iff.1 hl
    rfl
  | succ n ih =>
    intro m r hl hm
    have hne : m ≠ [] := by intro e; rw [e] at hl; cases hl
    obtain ⟨d, x, rfl⟩ : ∃ d x, m = d ++ [x] := ⟨m.dropLast, m.getLast hne, (List.dropLast_concat_getLast hne).symm⟩
    show (match dn kind n (bdy kind (d ++ [x]) ++ r) with | none => none | some (l, r') => match di kind r' with | none => none | some (x, r'') => some (l ++ [x], r'')) = _
    rw [bdy_app, List.append_assoc, ih d _ (by simp at hl; exact hl) fun y hy => hm y (by simp [hy])]
    have : bdy kind [x] = itb kind x := by simp [bdy]
    rw [this]
    simp only [di_itb (hm x (by simp))]
theorem val_be4 {n : Nat} (h : n < 4294967296) : val (be 4 n) = n := by
  rw [Wl.val_be]
  exact Nat.mod_eq_of_lt (by omega)
theorem dec_enc {kind : Nat} {l : List It} (hk : kind = 1 ∨ kind = 2) (h : ∀ x ∈ l, ItOk kind x) (hn : kind ≤ l.length) (ht : tot kind l ≤ 250) : dec (enc kind l) = some (kind, l) := by
  have hl := tot_ge h
  have b4 : (be 4 (crc (rst kind l))).length = 4 := be_len _ _
  have e1 : (enc kind l).take 4 = be 4 (crc (rst kind l)) := by unfold enc; rw [List.take_append_of_le_length (by omega), List.take_of_length_le (by omega)]
  have e2 : (enc kind l).drop 4 = rst kind l := by unfold enc; exact List.drop_left' b4
  have e3 : (enc kind l).getD 4 0 = UInt8.ofNat kind := by
    unfold enc; rw [List.getD_eq_getElem?_getD, List.getElem?_append_right (by omega), b4]; rfl
  have e4 : (enc kind l).getD 5 0 = UInt8.ofNat l.length := by
    unfold enc; rw [List.getD_eq_getElem?_getD, List.getElem?_append_right (by omega), b4]; rfl
  have e5 : (enc kind l).drop 6 = bdy kind l ++ List.replicate (250 - (bdy kind l).length) 0 := by
    have : (enc kind l).drop 6 = ((enc kind l).drop 4).drop 2 := by rw [List.drop_drop]
    rw [this, e2]; rfl
  have k1 : (UInt8.ofNat kind).toNat = kind := nat8 (by omega)
  have k2 : (UInt8.ofNat l.length).toNat = l.length := nat8 (by omega)
  unfold dec
  rw [e1, e2, e3, e4, e5, k1, k2, val_be4 (crc_lt _), if_pos ⟨rfl, hk, hn⟩, dn_bdy h]
  simp
/-- What a page that is read holds. -/
theorem di_ok {kind : Nat} {r r' : List UInt8} {x : It} (h : di kind r = some (x, r')) : ItOk kind x ∧ isz kind x + r'.length = r.length := by
  unfold di at h
  by_cases e : kind = 1
  · rw [if_pos e] at h
    match r, h with
    | a :: b :: t, h =>
      dsimp only at h
      split at h
      · rename_i hc
        injection h with h; injection h with h1 h2
        subst h1 h2
        refine ⟨⟨by simp; omega, by simp; omega, by simp; omega, fun _ => rfl, fun e' => absurd e e'⟩, ?_⟩
        simp [isz, e]; omega
      · cases h
  · rw [if_neg e] at h
    match r, h with
    | a :: b :: c :: t, h =>
      dsimp only at h
      split at h
      · rename_i hc
        injection h with h; injection h with h1 h2
        subst h1 h2
        have := a.toNat_lt; have := b.toNat_lt
        refine ⟨⟨by simp; omega, by simp; omega, by simp, fun e' => absurd e' e, fun _ => ⟨rfl, by simp; omega⟩⟩, ?_⟩
        simp [isz, e]; omega
      · cases h
theorem dn_ok {kind : Nat} : ∀ {n : Nat} {r r' : List UInt8} {l : List It}, dn kind n r = some (l, r') → (∀ x ∈ l, ItOk kind x) ∧ tot kind l + r'.length = r.length ∧ l.length = n
  | 0, r, r', l, h => by
    injection h with h; injection h with h1 h2; subst h1 h2
    exact ⟨by simp, by simp [tot], rfl⟩
  | n + 1, r, r', l, h => by
    unfold dn at h
    rcases hd : dn kind n r with _ | ⟨m, r1⟩
    · rw [hd] at h; cases h
    · rw [hd] at h
      dsimp only at h
      obtain ⟨i1, i2, i3⟩ := dn_ok hd
      rcases hx : di kind r1 with _ | ⟨x, r2⟩
      · rw [hx] at h; cases h
      · rw [hx] at h
        dsimp only at h
        injection h with h; injection h with h1 h2
        subst h1 h2
        obtain ⟨j1, j2⟩ := di_ok hx
        refine ⟨fun y hy => ?_, by rw [tot_app]; simp only [tot]; omega, by simp [i3]⟩
        rcases List.mem_append.1 hy with hy | hy
        · exact i1 y hy
        · obtain rfl : y = x := by simpa using hy
          exact j1
structure DecOk (kind : Nat) (l : List It) : Prop where
  kd : kind = 1 ∨ kind = 2
  it : ∀ x ∈ l, ItOk kind x
  n1 : kind ≤ l.length
  tt : tot kind l ≤ 250
theorem dec_ok {p : List UInt8} {kind : Nat} {l : List It} (hp : p.length = 256) (h : dec p = some (kind, l)) : DecOk kind l := by
  unfold dec at h
  split at h
  · rename_i hc
    rcases hd : dn (p.getD 4 0).toNat (p.getD 5 0).toNat (p.drop 6) with _ | ⟨m, r⟩
    · rw [hd] at h; cases h
    · rw [hd] at h
      dsimp only at h
      split at h
      · injection h with h; injection h with h1 h2
        subst h1 h2
        obtain ⟨i1, i2, i3⟩ := dn_ok hd
        simp only [List.length_drop, hp] at i2
        exact ⟨hc.2.1, i1, by omega, by omega⟩
      · cases h
  · cases h
theorem dn_succ {kind i : Nat} {r0 r r' : List UInt8} {l : List It} {x : It} (h : dn kind i r0 = some (l, r)) (hx : di kind r = some (x, r')) : dn kind (i + 1) r0 = some (l ++ [x], r') := by
  simp [dn, h, hx]
theorem dn_none {kind i : Nat} {r0 r : List UInt8} {l : List It} (h : dn kind i r0 = some (l, r)) (hx : di kind r = none) : ∀ {n : Nat}, i < n → dn kind n r0 = none
  | 0, hn => by omega
  | n + 1, hn => by
    by_cases e : i = n
    · subst e; simp [dn, h, hx]
    · simp [dn, dn_none h hx (n := n) (by omega)]
theorem dec_yes {p : List UInt8} {kd n : Nat} {l : List It} {r : List UInt8} (h1 : val (p.take 4) = crc (p.drop 4)) (hk : (p.getD 4 0).toNat = kd) (hn : (p.getD 5 0).toNat = n) (h2 : kd = 1 ∨ kd = 2) (h3 : kd ≤ n) (h : dn kd n (p.drop 6) = some (l, r)) :
    dec p = if r.all (· == 0) then some (kd, l) else none := by
  unfold dec; rw [hk, hn, if_pos ⟨h1, h2, h3⟩, h]
theorem dec_no1 {p : List UInt8} {kd n : Nat} (hk : (p.getD 4 0).toNat = kd) (hn : (p.getD 5 0).toNat = n) (h : ¬ (val (p.take 4) = crc (p.drop 4) ∧ (kd = 1 ∨ kd = 2) ∧ kd ≤ n)) : dec p = none := by
  unfold dec; rw [hk, hn, if_neg h]
theorem dec_no2 {p : List UInt8} {kd n : Nat} (hk : (p.getD 4 0).toNat = kd) (hn : (p.getD 5 0).toNat = n) (h : dn kd n (p.drop 6) = none) : dec p = none := by
  unfold dec; rw [hk, hn, h]; split <;> rfl
theorem di1_short {r : List UInt8} (h : r.length < 2) : di 1 r = none := by
  match r, h with
  | [], _ => rfl
  | [a], _ => rfl
theorem di2_short {r : List UInt8} (h : r.length < 3) : di 2 r = none := by
  match r, h with
  | [], _ => rfl
  | [a], _ => rfl
  | [a, b], _ => rfl
theorem drop_eq {r : List UInt8} {k : Nat} {a : UInt8} (h : r[k]? = some a) : r.drop k = a :: r.drop (k + 1) := by
  have := (List.getElem?_eq_some_iff.1 h).2
  rw [← this, List.getElem_cons_drop]
theorem di1_some {r : List UInt8} {a b : UInt8} (ha : r[0]? = some a) (hb : r[1]? = some b) : di 1 r = if 1 ≤ a.toNat ∧ a.toNat ≤ 40 ∧ b.toNat ≤ 120 ∧ a.toNat + b.toNat ≤ r.length - 2 then
    some (⟨(r.drop 2).take a.toNat, ((r.drop 2).drop a.toNat).take b.toNat, 0⟩, ((r.drop 2).drop a.toNat).drop b.toNat) else none := by
  have e : r = a :: b :: r.drop 2 := by rw [← drop_eq hb, ← drop_eq ha]; rfl
  have hl : r.length - 2 = (r.drop 2).length := by rw [List.length_drop]
  rw [hl]
  generalize r.drop 2 = t at e ⊢
  subst e
  simp [di]
theorem di2_some {r : List UInt8} {a b c : UInt8} (ha : r[0]? = some a) (hb : r[1]? = some b) (hc : r[2]? = some c) : di 2 r = if 1 ≤ c.toNat ∧ c.toNat ≤ 40 ∧ c.toNat ≤ r.length - 3 then
    some (⟨(r.drop 3).take c.toNat, [], a.toNat * 256 + b.toNat⟩, (r.drop 3).drop c.toNat) else none := by
  have e : r = a :: b :: c :: r.drop 3 := by rw [← drop_eq hc, ← drop_eq hb, ← drop_eq ha]; rfl
  have hl : r.length - 3 = (r.drop 3).length := by rw [List.length_drop]
  rw [hl]
  generalize r.drop 3 = t at e ⊢
  subst e
  simp [di]
/-- One byte of a page that is read, changed: it is not read. -/
theorem dec_set {p : List UInt8} {j : Nat} {u v : UInt8} (hp : p.length = 256) (h : (dec p).isSome = true) (hu : p[j]? = some u) (hne : v ≠ u) : dec (p.set j v) = none := by
  have hc : val (p.take 4) = crc (p.drop 4) := by
    unfold dec at h
    split at h
    · rename_i hc; exact hc.1
    · cases h
  unfold dec
  rw [if_neg]
  rintro ⟨h1, _⟩
  by_cases hj : j < 4
  · rw [List.drop_set_of_lt (by omega)] at h1
    rw [← hc] at h1
    have e1 : (p.set j v).take 4 = (p.take 4).set j v := by rw [List.take_set]
    rw [e1] at h1
    have l4 : (p.take 4).length = 4 := by simp [hp]
    have := val_inj (a := (p.take 4).set j v) (b := p.take 4) (by simp) h1
    have h3 : (p.take 4)[j]? = some u := by rw [List.getElem?_take, if_pos hj, hu]
    have h4 : ((p.take 4).set j v)[j]? = some v := by rw [List.getElem?_set_self (by omega)]
    rw [this, h3] at h4
    injection h4 with h4
    exact hne h4.symm
  · rw [List.take_set_of_le (by omega)] at h1
    have e1 : (p.set j v).drop 4 = (p.drop 4).set (j - 4) v := by rw [List.drop_set, if_neg (by omega)]
    rw [e1, hc] at h1
    exact crc_set (l := p.drop 4) (k := j - 4) (u := u) (v := v) (by rw [List.getElem?_drop, show 4 + (j - 4) = j by omega, hu]) hne h1.symm
end Go.Proofs.YtphiblmkgbkdmaaDoor.Pg
