/- Changing a tree, plainly: the items that stand for it. -/
import Derived.Test.YtphiblmkgbkdmaaDoorPgP2
namespace Go.Proofs.YtphiblmkgbkdmaaDoor.Pg
set_option linter.unusedVariables false
set_option linter.unusedSimpArgs false

theorem tot_cut (kind : Nat) (l : List It) (i j : Nat) (h : i ≤ j) : tot kind (l.take i) + tot kind (l.drop j) ≤ tot kind l := by
  have h1 := tot_take_drop kind l i
  have h2 := tot_take_drop kind (l.drop i) (j - i)
  rw [List.drop_drop, show i + (j - i) = j by omega] at h2
  omega
theorem tot_two {l : List It} (h : ∀ x ∈ l, ItOk 2 x) : tot 2 l ≤ 43 * l.length := by
  induction l with
  | nil => simp [tot]
  | cons x l ih =>
    have := isz_le2 (h x (by simp)) (by decide)
    have := ih fun y hy => h y (by simp [hy])
    simp [tot]; omega
theorem mem_three {a b c : List It} {P : It → Prop} (ha : ∀ x ∈ a, P x) (hb : ∀ x ∈ b, P x) (hc : ∀ x ∈ c, P x) : ∀ x ∈ a ++ b ++ c, P x := by
  intro x hx
  rcases List.mem_append.1 hx with hx | hx
  · rcases List.mem_append.1 hx with hx | hx
    · exact ha x hx
    · exact hb x hx
  · exact hc x hx
theorem chg_ok {key : List UInt8} {bl : List It} (hb : ∀ x ∈ bl, ItOk 1 x) (hb1 : bl.length ≤ 1) : ∀ {k n : Nat} {s : Ws}, Pok s.pg key k n → WsOk s → (∀ x ∈ (chg key bl k n s).1, ItOk 2 x) ∧ WsOk (chg key bl k n s).2 ∧ (chg key bl k n s).1.length ≤ 84
  | 0, n, s, h, _ => h.elim
  | k + 1, n, s, h, hw => by
    obtain ⟨hn, kd, l, hd, ok, hs, hp⟩ := h
    unfold chg
    rw [hd]
    dsimp only
    have hl := tot_ge ok.it
    have htt := ok.tt
    by_cases hk : kd = 1
    · subst hk
      rw [if_pos rfl]
      have hm : ∀ x ∈ l.take (ix l key) ++ bl ++ l.drop (ce l key), ItOk 1 x := mem_three (fun x hx => ok.it x (List.mem_of_mem_take hx)) hb fun x hx => ok.it x (List.mem_of_mem_drop hx)
      obtain ⟨a, b⟩ := sto_ok (kind := 1) (f := (l.take (ix l key) ++ bl ++ l.drop (ce l key)).length + 1) hw hm
      refine ⟨a, b, ?_⟩
      have := (sto_len (kind := 1) (f := (l.take (ix l key) ++ bl ++ l.drop (ce l key)).length + 1) (s := s) hm).1
      have hce : ix l key ≤ ce l key := by unfold ce; split <;> omega
      have := (plc_ix hs key).le
      have h2 : (l.take (ix l key) ++ bl ++ l.drop (ce l key)).length ≤ 84 := by
        simp only [List.length_append, List.length_take, List.length_drop]; omega
      unfold stoF
      omega
    · obtain rfl : kd = 2 := ok.kd.resolve_left hk
      rw [if_neg (by decide)]
      have hi := ci_lt hs key (by have := ok.n1; omega)
      have hx : l[ci l key]? = some (l[ci l key]'hi) := List.getElem?_eq_getElem hi
      rw [hx]
      dsimp only
      obtain ⟨a, b, c⟩ := chg_ok hb hb1 (hp rfl _ hx) hw
      have hm : ∀ x ∈ l.take (ci l key) ++ (chg key bl k (l[ci l key]'hi).ch s).1 ++ l.drop (ci l key + 1), ItOk 2 x := mem_three (fun x hx => ok.it x (List.mem_of_mem_take hx)) a fun x hx => ok.it x (List.mem_of_mem_drop hx)
      obtain ⟨a2, b2⟩ := sto_ok (kind := 2) (f := (l.take (ci l key) ++ (chg key bl k (l[ci l key]'hi).ch s).1 ++ l.drop (ci l key + 1)).length + 1) b hm
      refine ⟨a2, b2, ?_⟩
      have h1 := sto_cnt (f := (l.take (ci l key) ++ (chg key bl k (l[ci l key]'hi).ch s).1 ++ l.drop (ci l key + 1)).length + 1) (s := (chg key bl k (l[ci l key]'hi).ch s).2) hm
      have h2 := tot_cut 2 l (ci l key) (ci l key + 1) (by omega)
      have h3 := tot_two a
      rw [tot_app, tot_app] at h1
      unfold stoF
      omega
end Go.Proofs.YtphiblmkgbkdmaaDoor.Pg
