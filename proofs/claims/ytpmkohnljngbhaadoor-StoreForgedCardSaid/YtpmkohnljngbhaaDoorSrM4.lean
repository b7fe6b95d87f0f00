/- Plain: a log in which one byte was changed. -/
import Derived.Test.YtpmkohnljngbhaaDoorSrC2
namespace Go.Proofs.YtpmkohnljngbhaaDoor.Sr
set_option linter.unusedVariables false
set_option linter.unusedSimpArgs false
set_option maxRecDepth 1000000
open Go.RowKit Wl

theorem encs_split : ∀ (vs : List Rec) (i : Nat), i < (encs vs).length → ∃ p r s, vs = p ++ r :: s ∧ (encs p).length ≤ i ∧ i < (encs p).length + (21 + r.d.length)
  | [], i, h => by simp [encs] at h
  | r :: vs, i, h => by
    rw [encs_cons, List.length_append, enc_len] at h
    rcases Nat.lt_or_ge i (21 + r.d.length) with h1 | h1
    · exact ⟨[], r, vs, rfl, by simp [encs], by simpa [encs] using h1⟩
    · obtain ⟨p, q, s, e, h2, h3⟩ := encs_split vs (i - (21 + r.d.length)) (by omega)
      exact ⟨r :: p, q, s, by rw [e]; rfl, by rw [encs_cons, List.length_append, enc_len]; omega, by rw [encs_cons, List.length_append, enc_len]; omega⟩
theorem damage {vs : List Rec} (h : ∀ r ∈ vs, ok r) {i : Nat} {x y : UInt8} (hy : (encs vs)[i]? = some y) (hne : x ≠ y) :
    ∃ p r s, vs = p ++ r :: s ∧ (encs p).length ≤ i ∧ i < (encs p).length + (21 + r.d.length) ∧ rd ((encs vs).set i x) = p ∧ glen ((encs vs).set i x) = (encs p).length := by
  obtain ⟨p, r, s, e, h1, h2⟩ := encs_split vs i (List.getElem?_eq_some_iff.1 hy).1
  have hb : encs vs = encs p ++ (enc r ++ encs s) := by rw [e, encs_app, encs_cons]
  obtain ⟨j, rfl⟩ : ∃ j, i = (encs p).length + j := ⟨i - (encs p).length, by omega⟩
  have hj : j < (enc r).length := by rw [enc_len]; omega
  have hyj : (enc r)[j]? = some y := by
    rw [hb, List.getElem?_append_right (by omega), List.getElem?_append_left (by omega)] at hy
    rw [← hy]; congr 1; omega
  have hs : (encs vs).set ((encs p).length + j) x = encs p ++ ((enc r).set j x ++ encs s) := by rw [hb]; exact set_app _ _ _ _ _ hj
  have hone := one_damaged (h r (by rw [e]; simp)) j y x hyj hne (encs s)
  have hrd : rd ((encs vs).set ((encs p).length + j) x) = p := rd_eq ⟨fun q hq => h q (by rw [e]; simp [hq]), _, hs, hone⟩
  exact ⟨p, r, s, e, h1, h2, hrd, by unfold glen; rw [hrd]⟩
theorem xor_byte (y u : UInt8) : bits .xor .u8 (y.toNat : Int) (u.toNat : Int) = ((y ^^^ u).toNat : Int) := by
  have := u8_xor_nat y.toNat u.toNat y.toNat_lt u.toNat_lt
  rw [this]; simp
theorem xor_ne {y u : UInt8} (h : u ≠ 0) : y ^^^ u ≠ y := by
  intro e
  apply h
  have h2 : y ^^^ (y ^^^ u) = y ^^^ y := by rw [e]
  rw [← UInt8.xor_assoc, UInt8.xor_self] at h2
  simpa using h2
theorem own_store {w : World} {base n c g : Nat} {l : List UInt8} (h : w.ownsRow base 5 1 (.slice (some ⟨g, 0, none⟩) n c) n (bv l)) (i : Nat) (x : UInt8) :
    (w.setCell ⟨g, i, none⟩ (.int .u8 (x.toNat : Int))).ownsRow base 5 1 (.slice (some ⟨g, 0, none⟩) n c) n (bv (l.set i x)) := by
  have := h.stored i (.int .u8 (x.toNat : Int))
  have e : bv (l.set i x) = (bv l).set i (.int .u8 (x.toNat : Int)) := by simp [bv, List.map_set]
  rw [e]; exact this.1


theorem commits_upc (l : List Rec) : commits (upc l) = commits l := by
  refine snoc_ind (P := fun l => commits (upc l) = commits l) rfl ?_ l
  intro l r ih
  rw [upc_snoc, commits_snoc]
  by_cases h : r.k = 3
  · rw [if_pos h, if_pos h, commits_snoc, if_pos h]
  · rw [if_neg h, if_neg h]; exact ih
theorem effs_takeN : ∀ (L : List (List Ch)) (b : Ent) (q : Nat), (effs b L).take q = effs b (L.take q)
  | [], b, q => by simp [effs]
  | t :: L, b, 0 => rfl
  | t :: L, b, q + 1 => by
    show (eff b t :: effs (app b t) L).take (q + 1) = eff b t :: effs (app b t) (L.take q)
    rw [List.take_succ_cons, effs_takeN L]
theorem forged_log {t : Int} {Ts : List (List Ch)} (h : ∀ cs ∈ Ts, okT cs) (h1 : 1 ≤ t) (h2 : t + Ts.length ≤ 9223372036854775808) {k : Nat} {x y : UInt8} (hy : (logL t Ts)[k]? = some y) (hne : x ≠ y) :
    glen ((logL t Ts).set k x) ≤ k ∧ ∃ q, q ≤ Ts.length ∧ ((logL t Ts).set k x).take (rend ((logL t Ts).set k x)) = logL t (Ts.take q) ∧ rend ((logL t Ts).set k x) = (logL t (Ts.take q)).length ∧ commits (rd ((logL t Ts).set k x)) = q ∧ rend ((logL t Ts).set k x) ≤ k := by
  obtain ⟨p, r, s, e, e1, e2, e3, e4⟩ := damage (recL_ok h h1 h2) (i := k) (x := x) hy hne
  obtain ⟨q, q1, q2, _⟩ := pre_upc (Ts := Ts) (t := t) (P := p) (ys := r :: s) e.symm
  have hr : rend ((logL t Ts).set k x) = (logL t (Ts.take q)).length := by
    unfold rend
    rw [show rd ((logL t Ts).set k x) = p from e3, q2]; rfl
  have hg : glen ((logL t Ts).set k x) = (encs p).length := e4
  refine ⟨by rw [hg]; exact e1, q, q1, ?_, hr, ?_, ?_⟩
  · rw [rend_take, show rd ((logL t Ts).set k x) = p from e3, q2]; rfl
  · rw [show rd ((logL t Ts).set k x) = p from e3, ← commits_upc, q2, commits_recL, List.length_take]; omega
  · obtain ⟨z, hz⟩ := upc_pre p
    have : (encs (upc p)).length ≤ (encs p).length := by
      conv => rhs; rw [hz, encs_app, List.length_append]
      omega
    have h5 : rend ((logL t Ts).set k x) = (encs (upc p)).length := by
      unfold rend
      rw [show rd ((logL t Ts).set k x) = p from e3]
    omega
theorem kept_eq {t : Int} {Ts : List (List Ch)} {k q : Nat} (hk : k ≤ Ts.length) (hq : q ≤ Ts.length) (h1 : (logL t (Ts.take k)).length ≤ (logL t (Ts.take q)).length) (h2 : k < Ts.length → (logL t (Ts.take q)).length < (logL t (Ts.take (k + 1))).length) : k = q := by
  rcases Nat.lt_trichotomy k q with h | h | h
  · have h3 := h2 (by omega)
    have h4 := logL_mono (t := t) (Ts := Ts) (show k + 1 ≤ q by omega)
    omega
  · exact h
  · have h3 := logL_take_lt (t := t) (Ts := Ts) (show q < Ts.length by omega)
    have h4 := logL_mono (t := t) (Ts := Ts) (show q + 1 ≤ k by omega)
    omega
theorem cutN_self {r n : Nat} (h : r ≤ n) : cutN (r : Int) n = r := by
  unfold cutN
  split
  · omega
  · rw [if_pos (by omega)]; omega
end Go.Proofs.YtpmkohnljngbhaaDoor.Sr
