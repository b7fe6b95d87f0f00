/- The order of puts, plainly. -/
import Derived.Test.YtphiblmkgbkdmaaDoorPgNt
namespace Go.Proofs.YtphiblmkgbkdmaaDoor.Pg
set_option linter.unusedVariables false
set_option linter.unusedSimpArgs false

theorem mem_upd {es : List It} {k : List UInt8} {bl : List It} {x : It} : x ∈ upd es k bl ↔ x ∈ bl ∨ (x ∈ es ∧ x.k ≠ k) := by
  unfold upd
  simp only [List.mem_append, List.mem_filter, decide_eq_true_iff]
  constructor
  · rintro ((⟨h1, h2⟩ | h) | ⟨h1, h2⟩)
    · exact .inr ⟨h1, cmpB_ne h2⟩
    · exact .inl h
    · exact .inr ⟨h1, fun e => by rw [e, cmpB_self] at h2; omega⟩
  · rintro (h | ⟨h1, h2⟩)
    · exact .inl (.inr h)
    · rcases cmpB_cases x.k k with h | h | h
      · exact .inl (.inl ⟨h1, by omega⟩)
      · exact absurd (cmpB_eq.1 h) h2
      · exact .inr ⟨h1, by omega⟩
/-- Entries: each key stands for itself. -/
structure Slf (es : List It) (K : List (List UInt8)) : Prop where
  srt : Srt es
  mem : ∀ x : It, x ∈ es ↔ x.k ∈ K ∧ x.v = x.k ∧ x.ch = 0
theorem slf_nil : Slf [] [] := ⟨List.Pairwise.nil, by simp⟩
theorem Slf.put {es : List It} {K : List (List UInt8)} (h : Slf es K) (k : List UInt8) : Slf (upd es k [⟨k, k, 0⟩]) (k :: K) := by
  refine ⟨upd_srt h.srt k (by simp) (by simp), fun x => ?_⟩
  rw [mem_upd, h.mem, List.mem_singleton, List.mem_cons]
  constructor
  · rintro (rfl | ⟨⟨h1, h2, h3⟩, _⟩)
    · exact ⟨.inl rfl, rfl, rfl⟩
    · exact ⟨.inr h1, h2, h3⟩
  · rintro ⟨h1, h2, h3⟩
    by_cases e : x.k = k
    · left
      obtain ⟨a, b, c⟩ := x
      dsimp only at e h2 h3
      subst e; subst h3; rw [h2]
    · exact .inr ⟨⟨h1.resolve_left e, h2, h3⟩, e⟩
theorem Slf.other {es : List It} {K : List (List UInt8)} (h : Slf es K) {o : List UInt8} (ho : o ∉ K) (v : List UInt8) : Slf (upd (upd es o [⟨o, v, 0⟩]) o []) K := by
  refine ⟨upd_srt (upd_srt h.srt o (by simp) (by simp)) o (by simp) (by simp), fun x => ?_⟩
  rw [mem_upd, mem_upd, h.mem]
  constructor
  · rintro (h1 | ⟨h1 | h1, h2⟩)
    · simp at h1
    · obtain rfl : x = _ := by simpa using h1
      exact absurd rfl h2
    · exact h1.1
  · intro h1
    have : x.k ≠ o := fun e => ho (e ▸ h1.1)
    exact .inr ⟨.inr ⟨h1, this⟩, this⟩
theorem srt_ext : ∀ {l m : List It}, Srt l → Srt m → (∀ x, x ∈ l ↔ x ∈ m) → l = m
  | [], [], _, _, _ => rfl
  | [], y :: m, _, _, h => by have := (h y).2 (by simp); simp at this
  | x :: l, [], _, _, h => by have := (h x).1 (by simp); simp at this
  | x :: l, y :: m, hl, hm, h => by
    have hl' := List.pairwise_cons.1 hl
    have hm' := List.pairwise_cons.1 hm
    have e : x = y := by
      rcases List.mem_cons.1 ((h x).1 (by simp)) with h1 | h1
      · exact h1
      · rcases List.mem_cons.1 ((h y).2 (by simp)) with h2 | h2
        · exact h2.symm
        · have a := hm'.1 x h1
          have b := hl'.1 y h2
          exact absurd b (cmpB_asymm a)
    subst e
    have hnl : x ∉ l := fun hx => by have := hl'.1 x hx; rw [cmpB_self] at this; omega
    have hnm : x ∉ m := fun hx => by have := hm'.1 x hx; rw [cmpB_self] at this; omega
    rw [srt_ext (l := l) (m := m) hl'.2 hm'.2 fun z => ?_]
    constructor
    · intro hz
      rcases List.mem_cons.1 ((h z).1 (List.mem_cons_of_mem _ hz)) with e | e
      · subst e; exact absurd hz hnl
      · exact e
    · intro hz
      rcases List.mem_cons.1 ((h z).2 (List.mem_cons_of_mem _ hz)) with e | e
      · subst e; exact absurd hz hnm
      · exact e
theorem Slf.eq {l m : List It} {K L : List (List UInt8)} (h : Slf l K) (k : Slf m L) (hk : ∀ x, x ∈ K ↔ x ∈ L) : l = m :=
  srt_ext h.srt k.srt fun x => by rw [h.mem, k.mem, hk]
theorem rng_ok {F : Fi} {es L : List It} {j : Nat} {er : Int} (h : Sok F es j) (h1000 : es.length ≤ 1000) (hr : RngO F [] [] L er) (hnil : rng es [] [] = es) : er = 0 ∧ L = es := by
  obtain ⟨ps, hf⟩ := h.ok
  cases hr with
  | bad h => exact absurd hf.vld h
  | full s hs h hl =>
    have := (hf.at_ h).1
    rw [this] at hl
    have h3 : (rng es [] []).length ≤ es.length := List.length_filter_le _ _
    omega
  | ok s hs h hl =>
    have := (hf.at_ h).1
    rw [this]
    exact ⟨rfl, hnil⟩
end Go.Proofs.YtphiblmkgbkdmaaDoor.Pg
