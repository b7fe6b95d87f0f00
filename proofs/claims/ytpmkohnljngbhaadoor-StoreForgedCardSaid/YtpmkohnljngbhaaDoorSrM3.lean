/- Plain: what a crash leaves of a log. -/
import Derived.Test.YtpmkohnljngbhaaDoorSrC2
import Derived.Test.YtpmkohnljngbhaaDoorWalC
namespace Go.Proofs.YtpmkohnljngbhaaDoor.Sr
set_option linter.unusedVariables false
set_option linter.unusedSimpArgs false
set_option maxRecDepth 1000000
open Wl

theorem upc_none {l : List Rec} : (∀ r ∈ l, r.k ≠ 3) → upc l = [] := by
  refine snoc_ind (P := fun l => (∀ r ∈ l, r.k ≠ 3) → upc l = []) (fun _ => rfl) ?_ l
  intro l r ih h
  rw [upc_snoc, if_neg (h r (by simp))]
  exact ih fun x hx => h x (by simp [hx])
theorem upc_app {a b : List Rec} {c : Rec} (hc : c.k = 3) : upc (a ++ [c] ++ b) = a ++ [c] ++ upc b := by
  refine snoc_ind (P := fun b => upc (a ++ [c] ++ b) = a ++ [c] ++ upc b) ?_ ?_ b
  · rw [List.append_nil, upc_snoc, if_pos hc]; simp [upc]
  · intro l r ih
    rw [← List.append_assoc, upc_snoc, upc_snoc]
    by_cases h : r.k = 3
    · rw [if_pos h, if_pos h]; simp
    · rw [if_neg h, if_neg h]; exact ih
theorem recT_pre {t : Int} {cs : List Ch} {P ys : List Rec} (h : P ++ ys = recT t cs) (hl : P.length < (recT t cs).length) : upc P = [] := by
  have hP : P = (cs.map (recC t)).take P.length := by
    have h1 : P = (recT t cs).take P.length := by rw [← h]; simp
    have h2 : P.length ≤ (cs.map (recC t)).length := by simp [recT] at hl ⊢; omega
    unfold recT at h1
    rwa [List.take_append_of_le_length h2] at h1
  refine upc_none fun r hr => ?_
  rw [hP] at hr
  obtain ⟨c, _, rfl⟩ := List.mem_map.1 (List.mem_of_mem_take hr)
  exact recC_k t c
/-- What is committed in a part of a log. -/
theorem pre_upc : ∀ {Ts : List (List Ch)} {t : Int} {P ys : List Rec}, P ++ ys = recL t Ts →
    ∃ k, k ≤ Ts.length ∧ upc P = recL t (Ts.take k) ∧ (k < Ts.length → P.length < (recL t (Ts.take (k + 1))).length)
  | [], t, P, ys, h => by
    have : P = [] := by
      have := congrArg List.length h
      simp [recL] at this
      exact List.eq_nil_of_length_eq_zero (by simp [this.1])
    subst this
    exact ⟨0, by simp, rfl, by simp⟩
  | cs :: L, t, P, ys, h => by
    have h' : P ++ ys = recT t cs ++ recL (t + 1) L := h
    by_cases hl : P.length < (recT t cs).length
    · refine ⟨0, by simp, ?_, fun _ => ?_⟩
      · have h1 : P ++ (recT t cs).drop P.length = recT t cs := by
          have h2 : P = (recT t cs).take P.length := by
            have := congrArg (List.take P.length) h'
            rw [List.take_left, List.take_append_of_le_length (by omega)] at this
            exact this
          calc P ++ (recT t cs).drop P.length = (recT t cs).take P.length ++ (recT t cs).drop P.length := by rw [← h2]
            _ = recT t cs := List.take_append_drop _ _
        rw [recT_pre h1 hl]; rfl
      · simpa [recL] using hl
    · obtain ⟨P', rfl⟩ : ∃ P', P = recT t cs ++ P' := by
        refine ⟨P.drop (recT t cs).length, ?_⟩
        have h2 : recT t cs = P.take (recT t cs).length := by
          have := congrArg (List.take (recT t cs).length) h'
          rw [List.take_left, List.take_append_of_le_length (by omega)] at this
          exact this.symm
        conv => rhs; rw [h2]
        rw [← h2]
        conv => lhs; rw [← List.take_append_drop (recT t cs).length P]
        rw [← h2]
      rw [List.append_assoc] at h'
      obtain ⟨k, h1, h2, h3⟩ := pre_upc (Ts := L) (t := t + 1) (P := P') (ys := ys) (List.append_cancel_left h')
      refine ⟨k + 1, by simp; omega, ?_, fun hk => ?_⟩
      · unfold recT
        rw [upc_app (show (⟨3, t, []⟩ : Rec).k = 3 from rfl), h2]; rfl
      · have := h3 (by simp at hk; omega)
        show (recT t cs ++ P').length < (recT t cs ++ recL (t + 1) (L.take (k + 1))).length
        rw [List.length_append, List.length_append]; omega
theorem recL_take (t : Int) (Ts : List (List Ch)) (k : Nat) : ∃ zs, recL t Ts = recL t (Ts.take k) ++ zs := by
  induction Ts generalizing t k with
  | nil => exact ⟨[], by simp [recL]⟩
  | cons cs L ih =>
    cases k with
    | zero => exact ⟨_, rfl⟩
    | succ k =>
      obtain ⟨zs, h⟩ := ih (t + 1) k
      exact ⟨zs, by show recT t cs ++ recL (t + 1) L = (recT t cs ++ recL (t + 1) (L.take k)) ++ zs; rw [h, List.append_assoc]⟩
theorem crash_log {t : Int} {Ts : List (List Ch)} (h : ∀ cs ∈ Ts, okT cs) (h1 : 1 ≤ t) (h2 : t + Ts.length ≤ 9223372036854775808) (cut : Int) :
    ∃ k, k ≤ Ts.length ∧ crLog (logL t Ts) cut = logL t (Ts.take k) ∧ (logL t (Ts.take k)).length ≤ cutN cut (logL t Ts).length ∧ (k < Ts.length → cutN cut (logL t Ts).length < (logL t (Ts.take (k + 1))).length) := by
  obtain ⟨c, hc⟩ : ∃ c, cutN cut (logL t Ts).length = c := ⟨_, rfl⟩
  have hcl : c ≤ (logL t Ts).length := hc ▸ cutN_le _ _
  have hok := recL_ok h h1 h2
  obtain ⟨ys, e1, e2⟩ := cut_reads hok c
  obtain ⟨k, k1, k2, k3⟩ := pre_upc (Ts := Ts) (t := t) (P := rd ((encs (recL t Ts)).take c)) (ys := ys) e1.symm
  have hcr : crLog (logL t Ts) cut = logL t (Ts.take k) := by
    unfold crLog
    rw [hc, rend_take]
    show encs (upc (rd ((encs (recL t Ts)).take c))) = _
    rw [k2]; rfl
  have hlen : (logL t (Ts.take k)).length ≤ c := by
    rw [← hcr]; unfold crLog
    rw [hc, List.length_take, List.length_take]; omega
  refine ⟨k, k1, hcr, by rw [hc]; exact hlen, fun hk => ?_⟩
  rw [hc]
  have hp := k3 hk
  obtain ⟨zs, hz⟩ := recL_take t Ts (k + 1)
  -- the record behind what is read lies in the next transaction
  have hl : ((encs (recL t Ts)).take c).length = c := by rw [List.length_take]; exact Nat.min_eq_left hcl
  rcases ys with _ | ⟨r, ys⟩
  · exfalso
    rw [List.append_nil] at e1
    have := congrArg List.length hz
    rw [List.length_append] at this
    rw [← e1] at hp
    omega
  · have h5 := e2 r ys rfl
    rw [hl] at h5
    have h6 : ∃ us, recL t (Ts.take (k + 1)) = (rd ((encs (recL t Ts)).take c) ++ [r]) ++ us := by
      generalize rd ((encs (recL t Ts)).take c) = P at e1 hp ⊢
      have h7 : P ++ [r] = (recL t Ts).take (P.length + 1) := by
        have e3 : recL t Ts = (P ++ [r]) ++ ys := by rw [List.append_assoc]; exact e1
        have e4 : P.length + 1 = (P ++ [r]).length := by simp
        rw [e3, e4, List.take_left]
      rw [h7, hz, List.take_append_of_le_length (by omega)]
      exact ⟨_, (List.take_append_drop _ _).symm⟩
    obtain ⟨us, hu⟩ := h6
    have h8 : (logL t (Ts.take (k + 1))).length = (encs (rd ((encs (recL t Ts)).take c) ++ [r])).length + (encs us).length := by
      unfold logL
      rw [hu, encs_app, List.length_append]
    rw [encs_snoc, List.length_append, enc_len] at h8
    unfold glen at h5
    omega
theorem logL_take_lt {t : Int} {Ts : List (List Ch)} {i : Nat} (h : i < Ts.length) : (logL t (Ts.take i)).length + 21 ≤ (logL t (Ts.take (i + 1))).length := by
  have e : Ts.take (i + 1) = Ts.take i ++ [Ts[i]] := by rw [List.take_add_one, List.getElem?_eq_getElem h]; rfl
  rw [e, logL_snoc, List.length_append]
  unfold recT
  rw [encs_app, List.length_append, show encs [(⟨3, t + ((Ts.take i).length : Int), []⟩ : Rec)] = enc ⟨3, t + ((Ts.take i).length : Int), []⟩ by simp [encs], enc_len]
  omega
theorem logL_mono {t : Int} {Ts : List (List Ch)} {i j : Nat} (h : i ≤ j) : (logL t (Ts.take i)).length ≤ (logL t (Ts.take j)).length := by
  have e : Ts.take i = (Ts.take j).take i := by rw [List.take_take]; congr 1; omega
  obtain ⟨zs, hz⟩ := recL_take t (Ts.take j) i
  rw [e]
  unfold logL
  rw [hz, encs_app, List.length_append]; omega
end Go.Proofs.YtpmkohnljngbhaaDoor.Sr
