/- Writing pages, plainly. -/
import Derived.Test.YtphiblmkgbkdmaaDoorPgB1
namespace Go.Proofs.YtphiblmkgbkdmaaDoor.Pg
set_option linter.unusedVariables false
set_option linter.unusedSimpArgs false

/-- What a writer holds. -/
structure Ws where
  pg : List (List UInt8)
  fr : List Nat
  full : Bool
def hkey : List It → List UInt8
  | [] => []
  | x :: _ => x.k
def putP (kind : Nat) (l : List It) (s : Ws) : It × Ws :=
  match s.fr with
  | x :: fr => (⟨hkey l, [], x⟩, ⟨s.pg.set x (enc kind l), fr, s.full⟩)
  | [] => if s.pg.length = 4096 then (⟨hkey l, [], 0⟩, ⟨s.pg, [], true⟩) else (⟨hkey l, [], s.pg.length⟩, ⟨s.pg ++ [enc kind l], [], s.full⟩)
def cutN (kind half : Nat) : List It → Nat → Nat → Nat
  | [], k, _ => k
  | [_], k, _ => k
  | x :: y :: l, k, n => if k = 0 ∨ n + isz kind x ≤ half then cutN kind half (y :: l) (k + 1) (n + isz kind x) else k
def cut (kind : Nat) (l : List It) : Nat := cutN kind (tot kind l / 2) l 0 0
def sto (kind : Nat) : Nat → List It → Ws → List It × Ws
  | 0, _, s => ([], s)
  | f + 1, l, s =>
    if l = [] then ([], s)
    else if tot kind l ≤ 250 then
      if kind = 2 ∧ l.length = 1 then (l, s) else ([(putP kind l s).1], (putP kind l s).2)
    else ((sto kind f (l.take (cut kind l)) s).1 ++ (sto kind f (l.drop (cut kind l)) (sto kind f (l.take (cut kind l)) s).2).1, (sto kind f (l.drop (cut kind l)) (sto kind f (l.take (cut kind l)) s).2).2)
/-- The loop of cut, from item k on. -/
theorem cutN_ge (kind half : Nat) : ∀ (l : List It) (k n : Nat), k ≤ cutN kind half l k n
  | [], k, n => Nat.le_refl _
  | [_], k, n => Nat.le_refl _
  | x :: y :: l, k, n => by
    unfold cutN
    split
    · have := cutN_ge kind half (y :: l) (k + 1) (n + isz kind x); omega
    · exact Nat.le_refl _
theorem cutN_le (kind half : Nat) : ∀ (l : List It) (k n : Nat), cutN kind half l k n ≤ k + (l.length - 1)
  | [], k, n => by simp [cutN]
  | [_], k, n => by simp [cutN]
  | x :: y :: l, k, n => by
    unfold cutN
    split
    · have := cutN_le kind half (y :: l) (k + 1) (n + isz kind x); simp only [List.length_cons] at this ⊢; omega
    · omega
theorem cut_pos {kind : Nat} {l : List It} (h : 2 ≤ l.length) : 1 ≤ cut kind l := by
  match l, h with
  | x :: y :: l, _ =>
    unfold cut cutN
    rw [if_pos (.inl rfl)]
    exact cutN_ge _ _ _ _ _
theorem cut_lt {kind : Nat} {l : List It} (h : 2 ≤ l.length) : cut kind l < l.length := by
  have := cutN_le kind (tot kind l / 2) l 0 0
  unfold cut; omega
/-- The sizes ahead of the cut: at most the half, or one item. -/
theorem cutN_half (kind half : Nat) : ∀ (l : List It) (k n : Nat), (k = 0 → n = 0) → cutN kind half l k n ≤ k ∨ (k = 0 ∧ cutN kind half l k n = 1) ∨ n + tot kind (l.take (cutN kind half l k n - k)) ≤ half
  | [], k, n, _ => .inl (Nat.le_refl _)
  | [_], k, n, _ => .inl (Nat.le_refl _)
  | x :: y :: l, k, n, hk => by
    unfold cutN
    split
    · rename_i h
      have ge := cutN_ge kind half (y :: l) (k + 1) (n + isz kind x)
      rcases cutN_half kind half (y :: l) (k + 1) (n + isz kind x) (by omega) with h1 | h1 | h1
      · have e : cutN kind half (y :: l) (k + 1) (n + isz kind x) = k + 1 := by omega
        rw [e]
        rcases h with h | h
        · exact .inr (.inl ⟨h, by omega⟩)
        · right; right
          rw [show k + 1 - k = 1 by omega]
          simp [tot]; omega
      · omega
      · right; right
        obtain ⟨d, hd⟩ : ∃ d, cutN kind half (y :: l) (k + 1) (n + isz kind x) = k + 1 + d := ⟨cutN kind half (y :: l) (k + 1) (n + isz kind x) - (k + 1), by omega⟩
        rw [hd] at h1 ⊢
        rw [show k + 1 + d - (k + 1) = d by omega] at h1
        rw [show k + 1 + d - k = d + 1 by omega, List.take_succ_cons]
        simp only [tot]; omega
    · exact .inl (Nat.le_refl _)
/-- Where the loop stops ahead of the last item, the next item does not fit. -/
theorem cutN_next (kind half : Nat) : ∀ (l : List It) (k n : Nat) (x : It), l[cutN kind half l k n - k]? = some x → cutN kind half l k n + 1 < k + l.length → half < n + tot kind (l.take (cutN kind half l k n - k)) + isz kind x
  | [], k, n, x, h, _ => by simp [cutN] at h
  | [_], k, n, x, _, h => by simp [cutN] at h
  | a :: b :: l, k, n, x, h, hlt => by
    unfold cutN at h hlt ⊢
    split
    · rename_i hc
      rw [if_pos hc] at h hlt
      have ge := cutN_ge kind half (b :: l) (k + 1) (n + isz kind a)
      obtain ⟨d, hd⟩ : ∃ d, cutN kind half (b :: l) (k + 1) (n + isz kind a) = k + 1 + d := ⟨cutN kind half (b :: l) (k + 1) (n + isz kind a) - (k + 1), by omega⟩
      have ih := cutN_next kind half (b :: l) (k + 1) (n + isz kind a) x
      rw [hd] at h hlt ih ⊢
      rw [show k + 1 + d - (k + 1) = d by omega] at ih
      rw [show k + 1 + d - k = d + 1 by omega] at h ⊢
      rw [List.take_succ_cons]
      have := ih (by simpa using h) (by simp only [List.length_cons] at hlt ⊢; omega)
      simp only [tot]; omega
    · rename_i hc
      rw [if_neg hc] at h
      rw [Nat.sub_self] at h ⊢
      simp only [List.take_zero, tot, Nat.add_zero]
      obtain rfl : a = x := by simpa using h
      omega
theorem tot_take_drop (kind : Nat) (l : List It) (k : Nat) : tot kind (l.take k) + tot kind (l.drop k) = tot kind l := by
  rw [← tot_app, List.take_append_drop]
theorem tot_one (kind : Nat) (x : It) : tot kind [x] = isz kind x := by simp [tot]
theorem tot_at {kind : Nat} {l : List It} {k : Nat} {x : It} (h : l[k]? = some x) : tot kind (l.take (k + 1)) = tot kind (l.take k) + isz kind x := by
  rw [List.take_add_one, h, tot_app]; simp [tot]
/-- Forks are cut behind the second child at least. -/
theorem cut_two {l : List It} (h : ∀ x ∈ l, ItOk 2 x) (ht : 250 < tot 2 l) : 2 ≤ cut 2 l := by
  have hsz : ∀ x ∈ l, isz 2 x ≤ 43 := fun x hx => isz_le2 (h x hx) (by decide)
  have h6 : ∀ (m : List It), (∀ x ∈ m, isz 2 x ≤ 43) → tot 2 m ≤ 43 * m.length := by
    intro m
    induction m with
    | nil => intro _; simp [tot]
    | cons x m ih => intro hm; have := hm x (by simp); have := ih fun y hy => hm y (by simp [hy]); simp [tot]; omega
  have hl := h6 l hsz
  have h1 : 1 ≤ cut 2 l := cut_pos (by omega)
  rcases Nat.lt_or_ge (cut 2 l) 2 with h2 | h2
  · have e : cut 2 l = 1 := by omega
    have hx : l[1]? = some (l[1]'(by omega)) := List.getElem?_eq_getElem _
    have h0 : l[0]? = some (l[0]'(by omega)) := List.getElem?_eq_getElem _
    unfold cut at e
    have h3 := cutN_next 2 (tot 2 l / 2) l 0 0 (l[1]'(by omega)) (by rw [e]; exact hx) (by rw [e]; omega)
    rw [e] at h3
    have t1 : tot 2 (l.take 1) = isz 2 (l[0]'(by omega)) := by have := tot_at (kind := 2) h0; simpa [tot] using this
    have a1 := hsz _ (List.getElem_mem (show 0 < l.length by omega))
    have a2 := hsz _ (List.getElem_mem (show 1 < l.length by omega))
    rw [Nat.sub_zero, t1] at h3
    omega
  · exact h2
/-- What is stored has no more items than are given; of forks fewer. -/
theorem sto_len {kind : Nat} : ∀ {f : Nat} {l : List It} {s : Ws}, (∀ x ∈ l, ItOk kind x) → (sto kind f l s).1.length ≤ l.length ∧ (kind = 2 → 2 ≤ l.length → (sto kind f l s).1.length < l.length)
  | 0, l, s, _ => by simp [sto]; omega
  | f + 1, l, s, h => by
    unfold sto
    by_cases e : l = []
    · subst e; simp
    · rw [if_neg e]
      have hl := List.length_pos_iff.2 e
      by_cases ht : tot kind l ≤ 250
      · rw [if_pos ht]
        by_cases h1 : kind = 2 ∧ l.length = 1
        · rw [if_pos h1]; exact ⟨Nat.le_refl _, fun _ h => by omega⟩
        · rw [if_neg h1]; simp only [List.length_cons, List.length_nil]; omega
      · rw [if_neg ht]
        have h2 : 2 ≤ l.length := by
          rcases Nat.lt_or_ge l.length 2 with h2 | h2
          · obtain ⟨x, rfl⟩ := List.length_eq_one_iff.1 (show l.length = 1 by omega)
            rw [tot_one] at ht
            have := isz_le (h x (by simp)); omega
          · exact h2
        have c1 := cut_pos (kind := kind) h2
        have c2 := cut_lt (kind := kind) h2
        obtain ⟨i1, j1⟩ := sto_len (kind := kind) (f := f) (l := l.take (cut kind l)) (s := s) fun x hx => h x (List.mem_of_mem_take hx)
        obtain ⟨i2, j2⟩ := sto_len (kind := kind) (f := f) (l := l.drop (cut kind l)) (s := (sto kind f (l.take (cut kind l)) s).2) fun x hx => h x (List.mem_of_mem_drop hx)
        rw [List.length_take, Nat.min_eq_left (by omega)] at i1 j1
        rw [List.length_drop] at i2 j2
        rw [List.length_append]
        refine ⟨by omega, fun hk _ => ?_⟩
        subst hk
        have := cut_two h (by omega)
        have := j1 rfl (by omega)
        omega
end Go.Proofs.YtphiblmkgbkdmaaDoor.Pg
