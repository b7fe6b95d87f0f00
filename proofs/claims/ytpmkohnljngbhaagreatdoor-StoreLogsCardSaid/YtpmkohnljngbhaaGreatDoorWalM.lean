/- Plain mathematics of logs: the code of a record, and how a log is read. -/
namespace Go.Proofs.YtpmkohnljngbhaaGreatDoor.Wl
set_option linter.unusedVariables false
set_option linter.unusedSimpArgs false
set_option maxRecDepth 1000000

structure Rec where
  k : Int
  t : Int
  d : List UInt8
theorem Rec.ext' {a b : Rec} (h1 : a.k = b.k) (h2 : a.t = b.t) (h3 : a.d = b.d) : a = b := by
  cases a; cases b; simp at h1 h2 h3; simp [h1, h2, h3]
/-- k bytes of a number, the highest one first. -/
def be : Nat → Nat → List UInt8
  | 0, _ => []
  | k + 1, n => UInt8.ofNat (n / 256 ^ k) :: be k n
def val (l : List UInt8) : Nat := l.foldl (fun n c => n * 256 + c.toNat) 0
def chk (l : List UInt8) : Nat := l.foldl (fun s c => (31 * s + c.toNat) % 4294967296) 1
def body (r : Rec) : List UInt8 := UInt8.ofNat r.k.toNat :: (be 8 r.t.toNat ++ r.d)
def enc (r : Rec) : List UInt8 := be 4 r.d.length ++ (be 4 (4294967295 - r.d.length) ++ (body r ++ be 4 (chk (body r))))
/-- A record is valid. -/
def ok (r : Rec) : Prop := 1 ≤ r.k ∧ r.k ≤ 3 ∧ 1 ≤ r.t ∧ r.t < 9223372036854775808 ∧ r.d.length ≤ 4096 ∧ (r.k = 3 → r.d = [])
instance (r : Rec) : Decidable (ok r) := by unfold ok; infer_instance

theorem be_len : ∀ k n, (be k n).length = k
  | 0, _ => rfl
  | k + 1, n => by simp [be, be_len k n]
theorem val_snoc (l : List UInt8) (c : UInt8) : val (l ++ [c]) = val l * 256 + c.toNat := by simp [val]
theorem fold_val (l : List UInt8) : ∀ s, l.foldl (fun n c => n * 256 + c.toNat) s = s * 256 ^ l.length + val l := by
  induction l with
  | nil => intro s; simp [val]
  | cons c l ih =>
    intro s
    have h0 := ih (s * 256 + c.toNat)
    have h1 := ih c.toNat
    simp only [List.foldl_cons, val] at h0 h1 ⊢
    rw [h0]
    simp only [Nat.zero_mul, Nat.zero_add, List.length_cons, Nat.pow_succ] at h1 ⊢
    rw [h1, Nat.add_mul, Nat.mul_assoc, Nat.mul_comm 256 (256 ^ l.length)]
    omega
theorem val_cons (c : UInt8) (l : List UInt8) : val (c :: l) = c.toNat * 256 ^ l.length + val l := by
  have := fold_val l c.toNat
  simpa [val] using this
theorem val_lt (l : List UInt8) : val l < 256 ^ l.length := by
  induction l with
  | nil => simp [val]
  | cons c l ih =>
    rw [val_cons, List.length_cons, Nat.pow_succ]
    have := c.toNat_lt
    have h : c.toNat * 256 ^ l.length ≤ 255 * 256 ^ l.length := Nat.mul_le_mul_right _ (by omega)
    omega
theorem val_be : ∀ k n, val (be k n) = n % 256 ^ k
  | 0, n => by simp [be, val, Nat.mod_one]
  | k + 1, n => by
    rw [be, val_cons, be_len, val_be k n]
    have h : (UInt8.ofNat (n / 256 ^ k)).toNat = n / 256 ^ k % 256 := by simp
    rw [h, Nat.pow_succ, Nat.mod_mul]
    rw [Nat.mul_comm]
    omega
theorem be_val : ∀ (l : List UInt8), be l.length (val l) = l
  | [] => rfl
  | c :: l => by
    rw [List.length_cons, be, val_cons]
    have hp : 0 < 256 ^ l.length := Nat.pos_of_ne_zero (by simp)
    have h1 : (c.toNat * 256 ^ l.length + val l) / 256 ^ l.length = c.toNat := by
      rw [Nat.add_comm, Nat.add_mul_div_right _ _ hp, Nat.div_eq_of_lt (val_lt l), Nat.zero_add]
    rw [h1]
    have h2 : be l.length (c.toNat * 256 ^ l.length + val l) = be l.length (val l) := be_mod _ _ _
    rw [h2, be_val l]
    simp
where
  be_mod : ∀ (k a n : Nat), be k (a * 256 ^ k + n) = be k n
    | 0, _, _ => rfl
    | k + 1, a, n => by
      have hp : 0 < 256 ^ k := Nat.pos_of_ne_zero (by simp)
      have e : a * 256 ^ (k + 1) + n = (a * 256) * 256 ^ k + n := by rw [Nat.pow_succ, Nat.mul_comm (256 ^ k) 256, Nat.mul_assoc]
      rw [e, be, be, be_mod k (a * 256) n]
      congr 1
      rw [Nat.add_comm, Nat.add_mul_div_right _ _ hp]
      apply UInt8.toNat_inj.1
      simp
theorem be_inj {k a b : Nat} (ha : a < 256 ^ k) (hb : b < 256 ^ k) (h : be k a = be k b) : a = b := by
  have := congrArg val h
  rw [val_be, val_be, Nat.mod_eq_of_lt ha, Nat.mod_eq_of_lt hb] at this
  exact this
theorem chk_snoc (l : List UInt8) (c : UInt8) : chk (l ++ [c]) = (31 * chk l + c.toNat) % 4294967296 := by simp [chk]
theorem chk_lt (l : List UInt8) : chk l < 4294967296 := by
  rcases List.eq_nil_or_concat l with rfl | ⟨l, c, rfl⟩
  · simp [chk]
  · rw [List.concat_eq_append, chk_snoc]; exact Nat.mod_lt _ (by omega)
theorem fold_inj : ∀ (l : List UInt8) (s t : Nat), s < 4294967296 → t < 4294967296 → l.foldl (fun s c => (31 * s + c.toNat) % 4294967296) s = l.foldl (fun s c => (31 * s + c.toNat) % 4294967296) t → s = t
  | [], s, t, _, _, h => h
  | c :: l, s, t, hs, ht, h => by
    have := fold_inj l _ _ (Nat.mod_lt _ (by omega)) (Nat.mod_lt _ (by omega)) h
    have := c.toNat_lt
    omega
/-- One byte changed changes the check. -/
theorem chk_ne (a c : List UInt8) (x y : UInt8) (h : x ≠ y) : chk (a ++ x :: c) ≠ chk (a ++ y :: c) := by
  intro e
  have ha : chk a < 4294967296 := chk_lt a
  simp only [chk, List.foldl_append, List.foldl_cons] at e ha
  have := fold_inj c _ _ (Nat.mod_lt _ (by omega)) (Nat.mod_lt _ (by omega)) e
  have hx := x.toNat_lt
  have hy := y.toNat_lt
  exact h (UInt8.toNat_inj.1 (by omega))
theorem body_len (r : Rec) : (body r).length = 9 + r.d.length := by simp [body, be_len]; omega
theorem enc_len (r : Rec) : (enc r).length = 21 + r.d.length := by simp [enc, be_len, body_len]; omega

/-- The record at the beginning of some bytes. -/
def one (b : List UInt8) : Option Rec :=
  if b.length < 21 then none
  else if val ((b.drop 4).take 4) ≠ 4294967295 - val (b.take 4) ∨ 4096 < val (b.take 4) ∨ b.length < 21 + val (b.take 4) then none
  else if val ((b.drop (17 + val (b.take 4))).take 4) ≠ chk ((b.drop 8).take (9 + val (b.take 4))) then none
  else
    let r : Rec := ⟨((b.getD 8 0).toNat : Int), (val ((b.drop 9).take 8) : Int), (b.drop 17).take (val (b.take 4))⟩
    if ok r then some r else none

def rec1 (b : List UInt8) (x : Nat) : Rec := ⟨((b.getD 8 0).toNat : Int), (val ((b.drop 9).take 8) : Int), (b.drop 17).take x⟩
theorem one_n1 {b : List UInt8} (h : val ((b.drop 4).take 4) ≠ 4294967295 - val (b.take 4) ∨ 4096 < val (b.take 4) ∨ b.length < 21 + val (b.take 4)) : one b = none := by
  unfold one
  by_cases c1 : b.length < 21
  · rw [if_pos c1]
  · rw [if_neg c1, if_pos h]
theorem one_n2 {b : List UInt8} (h : val ((b.drop (17 + val (b.take 4))).take 4) ≠ chk ((b.drop 8).take (9 + val (b.take 4)))) : one b = none := by
  by_cases c2 : val ((b.drop 4).take 4) ≠ 4294967295 - val (b.take 4) ∨ 4096 < val (b.take 4) ∨ b.length < 21 + val (b.take 4)
  · exact one_n1 c2
  · unfold one
    by_cases c1 : b.length < 21
    · rw [if_pos c1]
    · rw [if_neg c1, if_neg c2, if_pos h]
theorem one_n3 {b : List UInt8} {x : Nat} (hx : val (b.take 4) = x) (h : ¬ ok (rec1 b x)) : one b = none := by
  subst hx
  by_cases c2 : val ((b.drop 4).take 4) ≠ 4294967295 - val (b.take 4) ∨ 4096 < val (b.take 4) ∨ b.length < 21 + val (b.take 4)
  · exact one_n1 c2
  by_cases c3 : val ((b.drop (17 + val (b.take 4))).take 4) ≠ chk ((b.drop 8).take (9 + val (b.take 4)))
  · exact one_n2 c3
  · unfold one
    by_cases c1 : b.length < 21
    · rw [if_pos c1]
    · rw [if_neg c1, if_neg c2, if_neg c3]; exact if_neg h
theorem one_y {b : List UInt8} {x : Nat} (hx : val (b.take 4) = x) (h1 : ¬ (val ((b.drop 4).take 4) ≠ 4294967295 - x ∨ 4096 < x ∨ b.length < 21 + x)) (h2 : val ((b.drop (17 + x)).take 4) = chk ((b.drop 8).take (9 + x)))
    (h : ok (rec1 b x)) : one b = some (rec1 b x) := by
  subst hx
  unfold one
  rw [if_neg (by omega), if_neg h1, if_neg (by simpa using h2)]; exact if_pos h
theorem ok_len {r : Rec} (h : ok r) : r.d.length ≤ 4096 := h.2.2.2.2.1
theorem app4 (a b : List UInt8) (k : Nat) (h : a.length = k) : (a ++ b).take k = a ∧ (a ++ b).drop k = b := by
  subst h; simp
theorem one_enc {r : Rec} (h : ok r) (t : List UInt8) : one (enc r ++ t) = some r := by
  have hl := ok_len h
  obtain ⟨h1, h2, h3, h4, h5, h6⟩ := h
  have p4 : 256 ^ 4 = 4294967296 := rfl
  have p8 : 256 ^ 8 = 18446744073709551616 := rfl
  have e1 : (enc r ++ t).take 4 = be 4 r.d.length := by
    unfold enc; rw [List.append_assoc]; exact (app4 _ _ 4 (be_len _ _)).1
  have v1 : val ((enc r ++ t).take 4) = r.d.length := by rw [e1, val_be, Nat.mod_eq_of_lt (by omega)]
  have d4 : (enc r ++ t).drop 4 = be 4 (4294967295 - r.d.length) ++ ((body r ++ be 4 (chk (body r))) ++ t) := by
    unfold enc; rw [List.append_assoc, (app4 _ _ 4 (be_len _ _)).2, List.append_assoc]
  have v2 : val (((enc r ++ t).drop 4).take 4) = 4294967295 - r.d.length := by
    rw [d4, (app4 _ _ 4 (be_len _ _)).1, val_be, Nat.mod_eq_of_lt (by omega)]
  have d8 : (enc r ++ t).drop 8 = body r ++ (be 4 (chk (body r)) ++ t) := by
    rw [show (8 : Nat) = 4 + 4 from rfl, ← List.drop_drop, d4, (app4 _ _ 4 (be_len _ _)).2, List.append_assoc]
  have b8 : ((enc r ++ t).drop 8).take (9 + r.d.length) = body r := by rw [d8]; exact (app4 _ _ _ (body_len r)).1
  have d17 : (enc r ++ t).drop (17 + r.d.length) = be 4 (chk (body r)) ++ t := by
    rw [show 17 + r.d.length = 8 + (9 + r.d.length) by omega, ← List.drop_drop, d8]; exact (app4 _ _ _ (body_len r)).2
  have v3 : val (((enc r ++ t).drop (17 + r.d.length)).take 4) = chk (body r) := by
    have := chk_lt (body r)
    rw [d17, (app4 _ _ 4 (be_len _ _)).1, val_be, Nat.mod_eq_of_lt (by omega)]
  have g8 : (enc r ++ t).getD 8 0 = UInt8.ofNat r.k.toNat := by
    have := congrArg (fun l => l.head?) d8
    simp only [body, List.cons_append, List.head?_cons, List.head?_drop] at this
    rw [List.getD_eq_getElem?_getD, this]; rfl
  have d9 : (enc r ++ t).drop 9 = be 8 r.t.toNat ++ (r.d ++ (be 4 (chk (body r)) ++ t)) := by
    rw [show (9 : Nat) = 8 + 1 from rfl, ← List.drop_drop, d8]; simp [body]
  have v4 : val (((enc r ++ t).drop 9).take 8) = r.t.toNat := by
    rw [d9, (app4 _ _ 8 (be_len _ _)).1, val_be, Nat.mod_eq_of_lt (by omega)]
  have d17' : ((enc r ++ t).drop 17).take r.d.length = r.d := by
    rw [show (17 : Nat) = 9 + 8 from rfl, ← List.drop_drop, d9, (app4 _ _ 8 (be_len _ _)).2]; exact (app4 _ _ _ rfl).1
  have hlen : (enc r ++ t).length = 21 + r.d.length + t.length := by rw [List.length_append, enc_len]
  have hr : (⟨((UInt8.ofNat r.k.toNat).toNat : Int), (r.t.toNat : Int), r.d⟩ : Rec) = r := by
    refine Rec.ext' ?_ ?_ rfl
    · have : (UInt8.ofNat r.k.toNat).toNat = r.k.toNat := by simp; omega
      simp only [this]; omega
    · show ((r.t.toNat : Nat) : Int) = r.t; omega
  unfold one
  rw [if_neg (by omega), v1, v2, v3, b8, g8, v4, d17', if_neg (by omega), if_neg (by simp)]
  simp only [hr]
  rw [if_pos ⟨h1, h2, h3, h4, h5, h6⟩]
theorem one_some {b : List UInt8} {r : Rec} (h : one b = some r) : ok r ∧ enc r ++ b.drop (21 + r.d.length) = b := by
  unfold one at h
  by_cases c1 : b.length < 21
  · rw [if_pos c1] at h; cases h
  rw [if_neg c1] at h
  by_cases c2 : val ((b.drop 4).take 4) ≠ 4294967295 - val (b.take 4) ∨ 4096 < val (b.take 4) ∨ b.length < 21 + val (b.take 4)
  · rw [if_pos c2] at h; cases h
  rw [if_neg c2] at h
  by_cases c3 : val ((b.drop (17 + val (b.take 4))).take 4) ≠ chk ((b.drop 8).take (9 + val (b.take 4)))
  · rw [if_pos c3] at h; cases h
  rw [if_neg c3] at h
  simp only [] at h
  split at h
  case isFalse => cases h
  case isTrue c4 =>
  have hr := Option.some.inj h
  obtain ⟨n, hn⟩ : ∃ n, val (b.take 4) = n := ⟨_, rfl⟩
  rw [hn] at c2 c3 hr c4
  have hd : r.d = (b.drop 17).take n := by rw [← hr]
  have hk : r.k = ((b.getD 8 0).toNat : Int) := by rw [← hr]
  have ht : r.t = (val ((b.drop 9).take 8) : Int) := by rw [← hr]
  rw [hr] at c4
  refine ⟨c4, ?_⟩
  have hdl : r.d.length = n := by rw [hd]; simp; omega
  have l4 : (b.take 4).length = 4 := by simp; omega
  have l5 : ((b.drop 4).take 4).length = 4 := by simp; omega
  have l6 : ((b.drop (17 + n)).take 4).length = 4 := by simp; omega
  have l8 : ((b.drop 9).take 8).length = 8 := by simp; omega
  have e1 : be 4 r.d.length = b.take 4 := by rw [hdl, ← hn]; have := be_val (b.take 4); rwa [l4] at this
  have e2 : be 4 (4294967295 - r.d.length) = (b.drop 4).take 4 := by
    rw [hdl]; have := be_val ((b.drop 4).take 4); rw [l5] at this; rw [← this]; congr 1; omega
  have eb : body r = (b.drop 8).take (9 + n) := by
    have e8 : be 8 r.t.toNat = (b.drop 9).take 8 := by
      have := be_val ((b.drop 9).take 8); rw [l8] at this; rw [ht, Int.toNat_natCast]; exact this
    have ek : UInt8.ofNat r.k.toNat = b.getD 8 0 := by rw [hk]; simp
    have h8 : b.drop 8 = b.getD 8 0 :: b.drop 9 := by
      rw [List.drop_eq_getElem_cons (by omega), List.getD_eq_getElem?_getD, List.getElem?_eq_getElem (by omega)]; rfl
    unfold body
    rw [e8, ek, hd, h8, show 9 + n = (8 + n) + 1 by omega, List.take_succ_cons, List.take_add, List.drop_drop]
  have e3 : be 4 (chk (body r)) = (b.drop (17 + n)).take 4 := by
    have := be_val ((b.drop (17 + n)).take 4); rw [l6] at this; rw [← this, eb]; congr 1; omega
  unfold enc
  rw [e1, e2, eb] 
  rw [← eb, e3, eb, hdl]
  have s1 : (b.drop (17 + n)).take 4 ++ b.drop (21 + n) = b.drop (17 + n) := by
    have := List.take_append_drop 4 (b.drop (17 + n)); rwa [List.drop_drop, show 17 + n + 4 = 21 + n by omega] at this
  have s2 : (b.drop 8).take (9 + n) ++ b.drop (17 + n) = b.drop 8 := by
    have := List.take_append_drop (9 + n) (b.drop 8); rwa [List.drop_drop, show 8 + (9 + n) = 17 + n by omega] at this
  have s3 : (b.drop 4).take 4 ++ b.drop 8 = b.drop 4 := by
    have := List.take_append_drop 4 (b.drop 4); rwa [List.drop_drop] at this
  have s4 : b.take 4 ++ b.drop 4 = b := List.take_append_drop 4 b
  rw [List.append_assoc, List.append_assoc, List.append_assoc, s1, s2, s3, s4]
theorem one_iff {b : List UInt8} {r : Rec} : one b = some r ↔ ok r ∧ ∃ t, b = enc r ++ t :=
  ⟨fun h => ⟨(one_some h).1, _, (one_some h).2.symm⟩, fun ⟨h, t, e⟩ => e ▸ one_enc h t⟩

def encs (l : List Rec) : List UInt8 := (l.map enc).flatten
theorem encs_nil : encs [] = [] := rfl
theorem encs_cons (r : Rec) (l : List Rec) : encs (r :: l) = enc r ++ encs l := by simp [encs]
theorem encs_app (a b : List Rec) : encs (a ++ b) = encs a ++ encs b := by simp [encs]
theorem encs_snoc (l : List Rec) (r : Rec) : encs (l ++ [r]) = encs l ++ enc r := by simp [encs]
/-- The records of the good part. -/
def Reads (b : List UInt8) (l : List Rec) : Prop := (∀ r ∈ l, ok r) ∧ ∃ t, b = encs l ++ t ∧ one t = none
def rdF : Nat → List UInt8 → List Rec
  | 0, _ => []
  | f + 1, b => match one b with
    | none => []
    | some r => r :: rdF f (b.drop (21 + r.d.length))
def rd (b : List UInt8) : List Rec := rdF b.length b
theorem one_short {b : List UInt8} (h : b.length < 21) : one b = none := by unfold one; rw [if_pos h]
theorem rdF_reads : ∀ (f : Nat) (b : List UInt8), b.length ≤ f → Reads b (rdF f b)
  | 0, b, h => ⟨by simp [rdF], b, by simp [rdF, encs], one_short (by omega)⟩
  | f + 1, b, h => by
    rcases ho : one b with _ | r
    · exact ⟨by simp [rdF, ho], b, by simp [rdF, ho, encs], ho⟩
    · obtain ⟨h1, h2⟩ := one_some ho
      have hb := congrArg List.length h2
      rw [List.length_append, enc_len, List.length_drop] at hb
      obtain ⟨i1, t, i2, i3⟩ := rdF_reads f (b.drop (21 + r.d.length)) (by rw [List.length_drop]; omega)
      refine ⟨?_, t, ?_, i3⟩
      · simp only [rdF, ho, List.mem_cons]
        rintro x (rfl | hx)
        · exact h1
        · exact i1 x hx
      · simp only [rdF, ho, encs_cons, List.append_assoc]
        rw [← i2]; exact h2.symm
theorem rd_reads (b : List UInt8) : Reads b (rd b) := rdF_reads _ _ (Nat.le_refl _)
theorem Reads.unique : ∀ {l m : List Rec} {b : List UInt8}, Reads b l → Reads b m → l = m
  | [], [], _, _, _ => rfl
  | [], r :: m, b, ⟨_, t, e, h⟩, ⟨k1, u, f, _⟩ => by
    rw [encs_nil, List.nil_append] at e
    rw [encs_cons, List.append_assoc] at f
    rw [← e, f, one_enc (k1 r (by simp))] at h; cases h
  | r :: l, [], b, ⟨k1, u, f, _⟩, ⟨_, t, e, h⟩ => by
    rw [encs_nil, List.nil_append] at e
    rw [encs_cons, List.append_assoc] at f
    rw [← e, f, one_enc (k1 r (by simp))] at h; cases h
  | r :: l, s :: m, b, ⟨h1, t, e, h2⟩, ⟨k1, u, f, k2⟩ => by
    rw [encs_cons, List.append_assoc] at e f
    have : some r = some s := by rw [← one_enc (h1 r (by simp)) (encs l ++ t), ← e, f, one_enc (k1 s (by simp))]
    obtain rfl := Option.some.inj this
    have e' : encs l ++ t = encs m ++ u := List.append_cancel_left (e.symm.trans f)
    rw [Reads.unique (l := l) (m := m) (b := encs l ++ t) ⟨fun x hx => h1 x (by simp [hx]), t, rfl, h2⟩ ⟨fun x hx => k1 x (by simp [hx]), u, e', k2⟩]
theorem rd_eq {b : List UInt8} {l : List Rec} (h : Reads b l) : rd b = l := (rd_reads b).unique h
theorem rd_encs {l : List Rec} (h : ∀ r ∈ l, ok r) : rd (encs l) = l := rd_eq ⟨h, [], by simp, one_short (by simp)⟩
theorem rd_ok (b : List UInt8) : ∀ r ∈ rd b, ok r := (rd_reads b).1
/-- The length of the good part. -/
def glen (b : List UInt8) : Nat := (encs (rd b)).length
theorem glen_le (b : List UInt8) : glen b ≤ b.length := by
  obtain ⟨_, t, e, _⟩ := rd_reads b
  have := congrArg List.length e
  rw [List.length_append] at this
  unfold glen; omega
theorem glen_all {b : List UInt8} (h : glen b = b.length) : b = encs (rd b) := by
  obtain ⟨_, t, e, _⟩ := rd_reads b
  have := congrArg List.length e
  rw [List.length_append] at this
  unfold glen at h
  obtain rfl : t = [] := List.eq_nil_of_length_eq_zero (by omega)
  simpa using e
theorem glen_encs {l : List Rec} (h : ∀ r ∈ l, ok r) : glen (encs l) = (encs l).length := by unfold glen; rw [rd_encs h]
end Go.Proofs.YtpmkohnljngbhaaGreatDoor.Wl
