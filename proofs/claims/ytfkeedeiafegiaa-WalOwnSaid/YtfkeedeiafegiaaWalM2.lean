/- Plain: logs that are cut, logs that are damaged. -/
import Derived.Test.YtfkeedeiafegiaaWalW15
namespace Go.Proofs.Ytfkeedeiafegiaa.Wl
set_option linter.unusedVariables false
set_option linter.unusedSimpArgs false

theorem encs_pre : ∀ {xs vs : List Rec} {u : List UInt8}, (∀ r ∈ xs, ok r) → (∀ r ∈ vs, ok r) → encs xs ++ u = encs vs → ∃ ys, vs = xs ++ ys ∧ u = encs ys
  | [], vs, u, _, _, e => ⟨vs, rfl, by rw [encs_nil, List.nil_append] at e; exact e⟩
  | r :: xs, [], u, h, _, e => by
    rw [encs_nil, encs_cons] at e
    have := congrArg List.length e
    rw [List.length_append, List.length_append, enc_len] at this
    simp at this
  | r :: xs, v :: vs, u, h, k, e => by
    rw [encs_cons, encs_cons, List.append_assoc] at e
    have h1 := one_enc (h r (by simp)) (encs xs ++ u)
    rw [e, one_enc (k v (by simp))] at h1
    obtain rfl := Option.some.inj h1
    obtain ⟨ys, e1, e2⟩ := encs_pre (fun x hx => h x (by simp [hx])) (fun x hx => k x (by simp [hx])) (List.append_cancel_left e)
    exact ⟨ys, by rw [e1]; rfl, e2⟩
/-- A log that is cut. -/
theorem cut_reads {vs : List Rec} (h : ∀ r ∈ vs, ok r) (k : Nat) : ∃ ys, vs = rd ((encs vs).take k) ++ ys ∧ ∀ r zs, ys = r :: zs → ((encs vs).take k).length < glen ((encs vs).take k) + (21 + r.d.length) := by
  obtain ⟨h1, t, h2, h3⟩ := rd_reads ((encs vs).take k)
  have e : encs (rd ((encs vs).take k)) ++ (t ++ (encs vs).drop k) = encs vs := by
    rw [← List.append_assoc, ← h2, List.take_append_drop]
  obtain ⟨ys, e1, e2⟩ := encs_pre h1 h e
  refine ⟨ys, e1, fun r zs hy => ?_⟩
  have hl := congrArg List.length h2
  rw [List.length_append] at hl
  have hg : glen ((encs vs).take k) = (encs (rd ((encs vs).take k))).length := rfl
  rw [hg]
  rcases Nat.lt_or_ge t.length (21 + r.d.length) with h4 | h4
  · omega
  · exfalso
    have hr : ok r := h r (by rw [e1, hy]; simp)
    rw [hy, encs_cons] at e2
    have e3 : t = enc r ++ t.drop (21 + r.d.length) := by
      have h5 : (t ++ (encs vs).drop k).take (21 + r.d.length) = enc r := by rw [e2, ← enc_len, List.take_left]
      rw [List.take_append_of_le_length h4] at h5
      rw [← h5, List.take_append_drop]
    rw [e3, one_enc hr] at h3
    cases h3
theorem stp_more (l : List Rec) : ∀ s, ∃ zs, (l.foldl stp s).2 = s.2 ++ zs := by
  induction l with
  | nil => intro s; exact ⟨[], by simp⟩
  | cons r l ih =>
    intro s
    obtain ⟨zs, hz⟩ := ih (stp s r)
    rw [List.foldl_cons, hz]
    unfold stp
    split
    · exact ⟨_, List.append_assoc _ _ _⟩
    · exact ⟨zs, rfl⟩
theorem com_pre (a b : List Rec) : ∃ zs, com (a ++ b) = com a ++ zs := by
  obtain ⟨zs, hz⟩ := stp_more b (sts a)
  have : trs (a ++ b) = trs a ++ zs := by unfold trs sts at *; rw [List.foldl_append]; exact hz
  unfold com
  rw [this, List.map_append, List.flatten_append]
  exact ⟨_, rfl⟩
theorem rd_com_cut {vs : List Rec} (h : ∀ r ∈ vs, ok r) (k : Nat) : ∃ zs, com (rd (encs vs)) = com (rd ((encs vs).take k)) ++ zs := by
  obtain ⟨ys, e, _⟩ := cut_reads h k
  rw [rd_encs h]
  have := com_pre (rd ((encs vs).take k)) ys
  rwa [← e] at this

theorem set_app (p e s : List UInt8) (j : Nat) (x : UInt8) (h : j < e.length) : (p ++ (e ++ s)).set (p.length + j) x = p ++ (e.set j x ++ s) := by
  rw [List.set_append_right _ _ (by omega), show p.length + j - p.length = j by omega, List.set_append_left _ _ h]
/-- One byte of a record's code changed: nothing is read there. -/
theorem one_damaged {r : Rec} (h : ok r) (j : Nat) (y x : UInt8) (hj : (enc r)[j]? = some y) (hy : x ≠ y) (s : List UInt8) : one ((enc r).set j x ++ s) = none := by
  have hjl : j < 21 + r.d.length := by have := (List.getElem?_eq_some_iff.1 hj).1; rwa [enc_len] at this
  rcases ho : one ((enc r).set j x ++ s) with _ | q
  · rfl
  exfalso
  obtain ⟨hq, t, e⟩ := one_iff.1 ho
  have hrl := ok_len h
  have hql := ok_len hq
  have p4 : 256 ^ 4 = 4294967296 := rfl
  -- the byte at j is x, any other is as it was
  have at_ : ∀ i, i < 21 + r.d.length → (enc q ++ t)[i]? = if i = j then some x else (enc r)[i]? := by
    intro i hi
    rw [← e, List.getElem?_append_left (by rw [List.length_set, enc_len]; exact hi), List.getElem?_set]
    split
    · rename_i hij; subst hij; rw [if_pos rfl, if_pos (by rw [enc_len]; exact hi)]
    · rename_i hij; rw [if_neg (fun e => hij e.symm)]
  have f4 : ∀ (r : Rec) (t : List UInt8) i, i < 4 → (enc r ++ t)[i]? = (be 4 r.d.length)[i]? := by
    intro r t i hi
    unfold enc
    rw [List.append_assoc, List.getElem?_append_left (by rw [be_len]; exact hi)]
  have f8 : ∀ (r : Rec) (t : List UInt8) i, i < 4 → (enc r ++ t)[4 + i]? = (be 4 (4294967295 - r.d.length))[i]? := by
    intro r t i hi
    unfold enc
    rw [List.append_assoc, List.getElem?_append_right (by rw [be_len]; omega), be_len, List.append_assoc, List.getElem?_append_left (by rw [be_len]; omega)]
    congr 1; omega
  have g4 : ∀ i, i < 4 → (enc r)[i]? = (be 4 r.d.length)[i]? := fun i hi => by have := f4 r [] i hi; rwa [List.append_nil] at this
  have g8 : ∀ i, i < 4 → (enc r)[4 + i]? = (be 4 (4294967295 - r.d.length))[i]? := fun i hi => by have := f8 r [] i hi; rwa [List.append_nil] at this
  have ext4 : ∀ (a b : Nat), (∀ i, i < 4 → (be 4 a)[i]? = (be 4 b)[i]?) → be 4 a = be 4 b := fun a b hh => by
    apply List.ext_getElem?
    intro i
    rcases Nat.lt_or_ge i 4 with hi | hi
    · exact hh i hi
    · rw [List.getElem?_eq_none (by rw [be_len]; omega), List.getElem?_eq_none (by rw [be_len]; omega)]
  -- the length is as it was
  have hlen : q.d.length = r.d.length := by
    rcases Nat.lt_or_ge j 4 with hj4 | hj4
    · have : be 4 (4294967295 - q.d.length) = be 4 (4294967295 - r.d.length) := ext4 _ _ fun i hi => by
        rw [← f8 q t i hi, at_ _ (by omega), if_neg (by omega), g8 i hi]
      have := be_inj (by omega) (by omega) this
      omega
    · have : be 4 q.d.length = be 4 r.d.length := ext4 _ _ fun i hi => by
        rw [← f4 q t i hi, at_ _ (by omega), if_neg (by omega), g4 i hi]
      exact be_inj (by omega) (by omega) this
  -- so the change is not in it
  have hj8 : 8 ≤ j := by
    rcases Nat.lt_or_ge j 8 with hj8 | hj8
    · exfalso
      have h1 := at_ j hjl
      rw [if_pos rfl] at h1
      rcases Nat.lt_or_ge j 4 with hj4 | hj4
      · rw [f4 q t j hj4, hlen, ← g4 j hj4, hj] at h1
        exact hy (Option.some.inj h1).symm
      · have := f8 q t (j - 4) (by omega)
        rw [show 4 + (j - 4) = j by omega] at this
        have k8 := g8 (j - 4) (by omega)
        rw [show 4 + (j - 4) = j by omega] at k8
        rw [this, hlen, ← k8, hj] at h1
        exact hy (Option.some.inj h1).symm
    · exact hj8
  have fb : ∀ (r : Rec) (t : List UInt8) i, i < 9 + r.d.length → (enc r ++ t)[8 + i]? = (body r)[i]? := by
    intro r t i hi
    unfold enc
    rw [List.append_assoc, List.getElem?_append_right (by rw [be_len]; omega), be_len, List.append_assoc, List.getElem?_append_right (by rw [be_len]; omega), be_len, List.append_assoc, List.getElem?_append_left (by rw [body_len]; omega)]
    congr 1; omega
  have fc : ∀ (r : Rec) (t : List UInt8) i, i < 4 → (enc r ++ t)[17 + r.d.length + i]? = (be 4 (chk (body r)))[i]? := by
    intro r t i hi
    unfold enc
    rw [List.append_assoc, List.getElem?_append_right (by rw [be_len]; omega), be_len, List.append_assoc, List.getElem?_append_right (by rw [be_len]; omega), be_len, List.append_assoc, List.getElem?_append_right (by rw [body_len]; omega), body_len, List.getElem?_append_left (by rw [be_len]; omega)]
    congr 1; omega
  have gb : ∀ i, i < 9 + r.d.length → (enc r)[8 + i]? = (body r)[i]? := fun i hi => by have := fb r [] i hi; rwa [List.append_nil] at this
  have gc : ∀ i, i < 4 → (enc r)[17 + r.d.length + i]? = (be 4 (chk (body r)))[i]? := fun i hi => by have := fc r [] i hi; rwa [List.append_nil] at this
  have hcr := chk_lt (body r)
  have hcq := chk_lt (body q)
  rcases Nat.lt_or_ge j (17 + r.d.length) with hj17 | hj17
  · -- in the body: the check is as it was
    have hck : chk (body q) = chk (body r) := by
      have : be 4 (chk (body q)) = be 4 (chk (body r)) := ext4 _ _ fun i hi => by
        rw [← fc q t i hi, hlen, at_ _ (by omega), if_neg (by omega), gc i hi]
      exact be_inj (by omega) (by omega) this
    have hb : body q = (body r).set (j - 8) x := by
      apply List.ext_getElem?
      intro i
      rw [List.getElem?_set]
      rcases Nat.lt_or_ge i (9 + r.d.length) with hi | hi
      · rw [← fb q t i (by omega), at_ _ (by omega), ← gb i hi]
        by_cases hij : j - 8 = i
        · rw [if_pos (by omega), if_pos hij, if_pos (by rw [body_len]; omega)]
        · rw [if_neg (by omega), if_neg hij]
      · rw [List.getElem?_eq_none (by rw [body_len]; omega), if_neg (by omega), List.getElem?_eq_none (by rw [body_len]; omega)]
    have hjb : (body r)[j - 8]? = some y := by rw [← gb _ (by omega), show 8 + (j - 8) = j by omega, hj]
    obtain ⟨hjl', hjy⟩ := List.getElem?_eq_some_iff.1 hjb
    have hsplit : body r = (body r).take (j - 8) ++ y :: (body r).drop (j - 8 + 1) := by
      rw [← hjy, List.getElem_cons_drop, List.take_append_drop]
    have hset : (body r).set (j - 8) x = (body r).take (j - 8) ++ x :: (body r).drop (j - 8 + 1) := List.set_eq_take_append_cons_drop .. |>.trans (by rw [if_pos hjl'])
    refine chk_ne ((body r).take (j - 8)) ((body r).drop (j - 8 + 1)) x y hy ?_
    rw [← hset, ← hsplit, ← hb]; exact hck
  · -- in the check: the body is as it was
    have hb : body q = body r := by
      apply List.ext_getElem?
      intro i
      rcases Nat.lt_or_ge i (9 + r.d.length) with hi | hi
      · rw [← fb q t i (by omega), at_ _ (by omega), if_neg (by omega), ← gb i hi]
      · rw [List.getElem?_eq_none (by rw [body_len]; omega), List.getElem?_eq_none (by rw [body_len]; omega)]
    have h1 := at_ j hjl
    rw [if_pos rfl] at h1
    have h2 := fc q t (j - (17 + r.d.length)) (by omega)
    rw [hlen, show 17 + r.d.length + (j - (17 + r.d.length)) = j by omega, hb] at h2
    have h3 := gc (j - (17 + r.d.length)) (by omega)
    rw [show 17 + r.d.length + (j - (17 + r.d.length)) = j by omega] at h3
    rw [h2, ← h3, hj] at h1
    exact hy (Option.some.inj h1).symm
end Go.Proofs.Ytfkeedeiafegiaa.Wl
