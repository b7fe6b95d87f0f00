/- Changing a tree, plainly. -/
import Derived.Test.YtphiblmkgbkdmaaDoorPgP
namespace Go.Proofs.YtphiblmkgbkdmaaDoor.Pg
set_option linter.unusedVariables false
set_option linter.unusedSimpArgs false

/-- Where a key lies among items, and whether it is there. -/
def ix (l : List It) (key : List UInt8) : Nat := (l.takeWhile fun x => decide (cmpB x.k key < 0)).length
def fd (l : List It) (key : List UInt8) : Bool := l.any fun x => decide (x.k = key)
theorem tw_lo {p : It → Bool} : ∀ (l : List It) (j : Nat) (x : It), j < (l.takeWhile p).length → l[j]? = some x → p x = true
  | [], j, x, h, _ => by simp at h
  | y :: l, j, x, h, hx => by
    unfold List.takeWhile at h
    split at h
    · rename_i hy
      cases j with
      | zero => obtain rfl : y = x := by simpa using hx
                exact hy
      | succ j => exact tw_lo l j x (by simpa using h) (by simpa using hx)
    · simp at h
theorem tw_hi {p : It → Bool} : ∀ (l : List It) (x : It), l[(l.takeWhile p).length]? = some x → p x = false
  | [], x, h => by simp at h
  | y :: l, x, h => by
    unfold List.takeWhile at h
    split at h
    · exact tw_hi l x (by simpa using h)
    · rename_i hy
      obtain rfl : y = x := by simpa using h
      exact hy
theorem tw_le {p : It → Bool} : ∀ (l : List It), (l.takeWhile p).length ≤ l.length
  | [] => by simp
  | y :: l => by
    unfold List.takeWhile
    split
    · have := tw_le (p := p) l; simp only [List.length_cons]; omega
    · simp
theorem plc_ix {l : List It} (hs : Srt l) (key : List UInt8) : Plc l key (ix l key) (fd l key) := by
  have lo : ∀ (j : Nat) (x : It), j < ix l key → l[j]? = some x → cmpB x.k key < 0 := fun j x hj hx => of_decide_eq_true (tw_lo l j x hj hx)
  have hi : ∀ (j : Nat) (x : It), ix l key ≤ j → l[j]? = some x → 0 ≤ cmpB x.k key := by
    intro j x hj hx
    have hlt := (List.getElem?_eq_some_iff.1 hx).1
    have hy : l[ix l key]? = some (l[ix l key]'(by omega)) := List.getElem?_eq_getElem _
    have h1 := of_decide_eq_false (tw_hi l _ hy)
    exact hs.above hy h1 j x hj hx
  refine ⟨tw_le l, lo, hi, ?_⟩
  unfold fd
  rw [List.any_eq_true]
  constructor
  · rintro ⟨x, hx, hk⟩
    have hk := of_decide_eq_true hk
    obtain ⟨j, hj⟩ := List.mem_iff_getElem?.1 hx
    refine ⟨x, ?_, hk⟩
    rcases Nat.lt_trichotomy j (ix l key) with h | h | h
    · have := lo j x h hj; rw [hk, cmpB_self] at this; omega
    · rw [← h]; exact hj
    · have hlt := (List.getElem?_eq_some_iff.1 hj).1
      have hy : l[ix l key]? = some (l[ix l key]'(by omega)) := List.getElem?_eq_getElem _
      have h1 := hi _ _ (Nat.le_refl _) hy
      have h2 := hs.at_ hy hj h
      rw [hk] at h2; omega
  · rintro ⟨x, hx, hk⟩
    exact ⟨x, List.mem_of_getElem? hx, decide_eq_true hk⟩
def stoF (kind : Nat) (l : List It) (s : Ws) : List It × Ws := sto kind (l.length + 1) l s
/-- The child below which a key lies. -/
def ci (l : List It) (key : List UInt8) : Nat := if fd l key then ix l key else ix l key - 1
def ce (l : List It) (key : List UInt8) : Nat := if fd l key then ix l key + 1 else ix l key
def chg (key : List UInt8) (bl : List It) : Nat → Nat → Ws → List It × Ws
  | 0, _, s => ([], s)
  | k + 1, n, s => match dec (s.pg.getD n []) with
    | none => ([], s)
    | some (kd, l) =>
      if kd = 1 then stoF 1 (l.take (ix l key) ++ bl ++ l.drop (ce l key)) s
      else match l[ci l key]? with
        | none => ([], s)
        | some x => stoF 2 (l.take (ci l key) ++ (chg key bl k x.ch s).1 ++ l.drop (ci l key + 1)) (chg key bl k x.ch s).2
theorem chg_leaf {key : List UInt8} {bl l : List It} {k n : Nat} {s : Ws} (h : dec (s.pg.getD n []) = some (1, l)) : chg key bl (k + 1) n s = stoF 1 (l.take (ix l key) ++ bl ++ l.drop (ce l key)) s := by
  conv => lhs; unfold chg
  rw [h]; rfl
theorem chg_fork {key : List UInt8} {bl l : List It} {k n : Nat} {s : Ws} {x : It} (h : dec (s.pg.getD n []) = some (2, l)) (hx : l[ci l key]? = some x) :
    chg key bl (k + 1) n s = stoF 2 (l.take (ci l key) ++ (chg key bl k x.ch s).1 ++ l.drop (ci l key + 1)) (chg key bl k x.ch s).2 := by
  conv => lhs; unfold chg
  rw [h]
  dsimp only
  rw [if_neg (by decide), hx]
/-- The way to a key can be read. -/
def Pok (pg : List (List UInt8)) (key : List UInt8) : Nat → Nat → Prop
  | 0, _ => False
  | k + 1, n => n < pg.length ∧ ∃ kd l, dec (pg.getD n []) = some (kd, l) ∧ DecOk kd l ∧ Srt l ∧ (kd = 2 → ∀ x, l[ci l key]? = some x → Pok pg key k x.ch)
theorem ci_lt {l : List It} (hs : Srt l) (key : List UInt8) (h : 1 ≤ l.length) : ci l key < l.length := by
  have p := plc_ix hs key
  unfold ci
  split
  · rename_i hf
    obtain ⟨x, hx, _⟩ := p.fd.1 hf
    exact (List.getElem?_eq_some_iff.1 hx).1
  · have := p.le; omega
theorem ce_le {l : List It} (hs : Srt l) (key : List UInt8) : ce l key ≤ l.length := by
  have p := plc_ix hs key
  unfold ce
  split
  · rename_i hf
    obtain ⟨x, hx, _⟩ := p.fd.1 hf
    exact (List.getElem?_eq_some_iff.1 hx).1
  · exact p.le
/-- A writer that may write. -/
structure WsOk (s : Ws) : Prop where
  n4 : s.pg.length ≤ 4096
  fr : ∀ x ∈ s.fr, x < s.pg.length
theorem putP_ok {kind : Nat} {l : List It} {s : Ws} (h : WsOk s) (hl : ∀ x ∈ l, ItOk kind x) (hne : l ≠ []) : ItOk 2 (putP kind l s).1 ∧ WsOk (putP kind l s).2 := by
  have hk : ∀ c, c < 65536 → ItOk 2 ⟨hkey l, [], c⟩ := by
    intro c hc
    match l, hne with
    | y :: m, _ =>
      have := hl y (by simp)
      exact ⟨this.k1, this.k2, by simp, fun e => absurd e (by decide), fun _ => ⟨rfl, hc⟩⟩
  unfold putP
  rcases hfr : s.fr with _ | ⟨x, fr⟩
  · dsimp only
    split
    · exact ⟨hk _ (by omega), ⟨h.n4, by simp⟩⟩
    · have := h.n4
      exact ⟨hk _ (by omega), ⟨by simp; omega, by simp⟩⟩
  · dsimp only
    have hx := h.fr x (by rw [hfr]; simp)
    have := h.n4
    exact ⟨hk _ (by omega), ⟨by simp; omega, fun y hy => by rw [List.length_set]; exact h.fr y (by rw [hfr]; simp [hy])⟩⟩
theorem sto_ok {kind : Nat} : ∀ {f : Nat} {l : List It} {s : Ws}, WsOk s → (∀ x ∈ l, ItOk kind x) → (∀ x ∈ (sto kind f l s).1, ItOk 2 x) ∧ WsOk (sto kind f l s).2
  | 0, l, s, h, _ => by simp [sto]; exact h
  | f + 1, l, s, h, hl => by
    unfold sto
    by_cases e : l = []
    · rw [if_pos e]; exact ⟨by simp, h⟩
    · rw [if_neg e]
      by_cases ht : tot kind l ≤ 250
      · rw [if_pos ht]
        by_cases h1 : kind = 2 ∧ l.length = 1
        · rw [if_pos h1]; exact ⟨h1.1 ▸ hl, h⟩
        · rw [if_neg h1]
          obtain ⟨a, b⟩ := putP_ok h hl e
          exact ⟨fun x hx => by obtain rfl : x = _ := by simpa using hx
                                exact a, b⟩
      · rw [if_neg ht]
        obtain ⟨a1, b1⟩ := sto_ok (kind := kind) (f := f) (l := l.take (cut kind l)) h fun x hx => hl x (List.mem_of_mem_take hx)
        obtain ⟨a2, b2⟩ := sto_ok (kind := kind) (f := f) (l := l.drop (cut kind l)) b1 fun x hx => hl x (List.mem_of_mem_drop hx)
        exact ⟨fun x hx => (List.mem_append.1 hx).elim (a1 x) (a2 x), b2⟩
/-- Forks: the number of pages that are written. -/
theorem sto_cnt : ∀ {f : Nat} {l : List It} {s : Ws}, (∀ x ∈ l, ItOk 2 x) → (sto 2 f l s).1.length ≤ 1 ∨ 80 * (sto 2 f l s).1.length ≤ tot 2 l
  | 0, l, s, _ => by simp [sto]
  | f + 1, l, s, h => by
    unfold sto
    by_cases e : l = []
    · rw [if_pos e]; simp
    · rw [if_neg e]
      by_cases ht : tot 2 l ≤ 250
      · rw [if_pos ht]
        by_cases h1 : 2 = 2 ∧ l.length = 1
        · rw [if_pos h1]; left; show l.length ≤ 1; omega
        · rw [if_neg h1]; left; simp
      · rw [if_neg ht]
        right
        have h1 := sto_cnt (f := f) (l := l.take (cut 2 l)) (s := s) fun x hx => h x (List.mem_of_mem_take hx)
        have h2 := sto_cnt (f := f) (l := l.drop (cut 2 l)) (s := (sto 2 f (l.take (cut 2 l)) s).2) fun x hx => h x (List.mem_of_mem_drop hx)
        have ha := tot_take_drop 2 l (cut 2 l)
        have hl2 : 2 ≤ l.length := by
          rcases Nat.lt_or_ge l.length 2 with h3 | h3
          · obtain ⟨x, rfl⟩ := List.length_eq_one_iff.1 (show l.length = 1 by have := List.length_pos_iff.2 e; omega)
            rw [tot_one] at ht
            have := isz_le2 (h x (by simp)) (by decide); omega
          · exact h3
        have c2 := cut_two h (by omega)
        have cl := cut_lt (kind := 2) hl2
        have hh := cutN_half 2 (tot 2 l / 2) l 0 0 (fun _ => rfl)
        have hc : tot 2 (l.take (cut 2 l)) ≤ tot 2 l / 2 := by
          unfold cut at c2 ⊢
          rcases hh with hh | hh | hh
          · omega
          · omega
          · simpa using hh
        have hn : tot 2 l / 2 < tot 2 (l.take (cut 2 l)) + 43 ∨ cut 2 l + 1 = l.length := by
          rcases Nat.lt_or_ge (cut 2 l + 1) l.length with h3 | h3
          · left
            have hx : l[cut 2 l]? = some (l[cut 2 l]'cl) := List.getElem?_eq_getElem cl
            have := cutN_next 2 (tot 2 l / 2) l 0 0 (l[cut 2 l]'cl) (by rw [Nat.sub_zero]; exact hx) (by unfold cut at h3; omega)
            have hz := isz_le2 (h _ (List.getElem_mem cl)) (by decide)
            rw [Nat.sub_zero] at this
            have t2 : tot 2 l / 2 < 0 + tot 2 (l.take (cut 2 l)) + isz 2 (l[cut 2 l]'cl) := this
            omega
          · right; omega
        rw [List.length_append]
        rcases hn with hn | hn
        · omega
        · have h5 : tot 2 (l.drop (cut 2 l)) ≤ 43 := by
            obtain ⟨x, hx⟩ := List.length_eq_one_iff.1 (show (l.drop (cut 2 l)).length = 1 by rw [List.length_drop]; omega)
            rw [hx, tot_one]
            exact isz_le2 (h x (List.mem_of_mem_drop (hx ▸ List.mem_singleton.2 rfl))) (by decide)
          omega
def dnF : Nat → List It → Ws → List It × Ws
  | 0, l, s => (l, s)
  | f + 1, l, s => if l.length ≤ 1 then (l, s) else dnF f (stoF 2 l s).1 (stoF 2 l s).2
def rootOf : List It → Int
  | [] => -1
  | x :: _ => x.ch
theorem dnF_stop {f : Nat} {l : List It} {s : Ws} (h : l.length ≤ 1) : dnF f l s = (l, s) := by
  cases f with
  | zero => rfl
  | succ f => unfold dnF; rw [if_pos h]
end Go.Proofs.YtphiblmkgbkdmaaDoor.Pg
