/- A page that was damaged, plainly. -/
import Derived.Test.YtphiblmkgbkdmaaDoorPgNt
namespace Go.Proofs.YtphiblmkgbkdmaaDoor.Pg
set_option linter.unusedVariables false
set_option linter.unusedSimpArgs false

theorem tr_dam {pg pg' : List (List UInt8)} {i : Nat} (hd : dec (pg'.getD i []) = none) (hs : ∀ m, m ≠ i → pg'.getD m [] = pg.getD m []) {a : Nat ⊕ List It} {ps : List Nat} {es : List It} (h : Tr pg a ps es) : i ∈ ps → ∀ ps' es', ¬ Tr pg' a ps' es' := by
  induction h with
  | leaf n l hn hd' =>
    intro hi ps' es' k
    obtain rfl : i = n := by simpa using hi
    cases k with
    | leaf _ _ _ h => rw [hd] at h; cases h
    | fork _ _ _ _ _ h _ => rw [hd] at h; cases h
  | fork n l ps es hn hd' _ ih =>
    intro hi ps' es' k
    by_cases e : n = i
    · subst e
      cases k with
      | leaf _ _ _ h => rw [hd] at h; cases h
      | fork _ _ _ _ _ h _ => rw [hd] at h; cases h
    · have hi' : i ∈ ps := by
        rcases List.mem_cons.1 hi with h | h
        · exact absurd h.symm e
        · exact h
      cases k with
      | leaf _ _ _ h =>
        rw [hs n e, hd'] at h
        injection h with h; injection h with h1 h2; cases h1
      | fork _ _ _ _ _ h ht =>
        rw [hs n e, hd'] at h
        injection h with h; injection h with _ h2
        subst h2
        exact ih hi' _ _ ht
  | nil => intro hi; simp at hi
  | cons x l ps qs es fs _ _ _ ih1 ih2 =>
    intro hi ps' es' k
    cases k with
    | cons _ _ ps1 qs1 es1 fs1 h1 _ h2 =>
      rcases List.mem_append.1 hi with h | h
      · exact ih1 h _ _ h1
      · exact ih2 h _ _ h2
/-- Every page in use can be read. -/
theorem Tr.dec {pg : List (List UInt8)} {a : Nat ⊕ List It} {ps : List Nat} {es : List It} (h : Tr pg a ps es) : ∀ m ∈ ps, (dec (pg.getD m [])).isSome = true := by
  induction h with
  | leaf n l hn hd => intro m hm; obtain rfl : m = n := by simpa using hm
                      rw [hd]; rfl
  | fork n l ps es hn hd _ ih =>
    intro m hm
    rcases List.mem_cons.1 hm with h | h
    · subst h; rw [hd]; rfl
    · exact ih m h
  | nil => intro m hm; simp at hm
  | cons x l ps qs es fs _ _ _ ih1 ih2 =>
    intro m hm
    rcases List.mem_append.1 hm with h | h
    · exact ih1 m h
    · exact ih2 m h
/-- A page in use is damaged. -/
theorem dam_in {F G : Fi} {ps : List Nat} {es : List It} {i k : Nat} {u v : UInt8} (h : Fok F ps es) (hi : i ∈ ps) (hp : G.pg = F.pg.set i ((F.pg.getD i []).set k v)) (hr : G.root = F.root) (hu : (F.pg.getD i [])[k]? = some u) (hne : v ≠ u) : ¬ Vld G := by
  intro hv
  obtain ⟨qs, fs, hg⟩ := vld_fok hv
  have hlt := h.lt i hi
  have h256 : (F.pg.getD i []).length = 256 := by
    rw [List.getD_eq_getElem?_getD, List.getElem?_eq_getElem hlt]
    exact h.shp.p256 _ (List.getElem_mem hlt)
  cases h.tr with
  | no _ => simp at hi
  | yes _ _ h0 ht =>
    have hd : dec (G.pg.getD i []) = none := by
      rw [hp, getD_self hlt]
      exact dec_set h256 (ht.dec i hi) hu hne
    have hs : ∀ m, m ≠ i → G.pg.getD m [] = F.pg.getD m [] := fun m hm => by rw [hp, getD_set (Ne.symm hm)]
    have hgt := hg.tr
    cases hgt with
    | no h1 => rw [hr] at h1; omega
    | yes _ _ _ hgt =>
      rw [hr] at hgt
      exact tr_dam hd hs ht hi _ _ hgt
/-- A page that is not in use is damaged. -/
theorem dam_out {F G : Fi} {ps : List Nat} {es : List It} {i k : Nat} {v : UInt8} (h : Fok F ps es) (hi : i ∉ ps) (hp : G.pg = F.pg.set i ((F.pg.getD i []).set k v)) (hil : i < F.pg.length) (hr : G.root = F.root) (hf : G.free = F.free) : Fok G ps es := by
  have hl : G.pg.length = F.pg.length := by rw [hp, List.length_set]
  have hm : ∀ m ∈ ps, m < G.pg.length ∧ G.pg.getD m [] = F.pg.getD m [] := fun m hm => by
    refine ⟨by rw [hl]; exact h.lt m hm, ?_⟩
    rw [hp, getD_set (show i ≠ m from fun e => hi (by rw [e]; exact hm))]
  refine ⟨⟨by rw [hl]; exact h.shp.n4, by rw [hr]; exact h.shp.r1, by rw [hr, hl]; exact h.shp.r2, fun p hp' => ?_, by rw [hr, hl, hf]; exact h.shp.fr⟩, ?_, h.nd, by rw [hf]; exact h.dj, h.srt⟩
  · rw [hp] at hp'
    rcases List.mem_or_eq_of_mem_set hp' with h1 | h1
    · exact h.shp.p256 p h1
    · rw [h1, List.length_set, List.getD_eq_getElem?_getD, List.getElem?_eq_getElem hil]
      exact h.shp.p256 _ (List.getElem_mem hil)
  · rw [hr]
    cases h.tr with
    | no h0 => exact .no h0
    | yes _ _ h0 ht => exact .yes _ _ h0 (ht.mono hm)
/-- What the functions answer of the damaged file. -/
theorem dam_bad {G H : Fi} {k : Nat} {j x y : Int} {es : List It} {key v : List UInt8} (h : ¬ Vld G) (c : ChkO G k j) (r : RngO G [] [] es x) (p : PutO G key v H y) (hl : lenKV key v) : j = 16 ∧ k = 0 ∧ x = 16 ∧ y = 16 := by
  cases c with
  | ok s hs hr => exact absurd ⟨hs, s, hr⟩ h
  | bad _ =>
    cases r with
    | full s hs hr _ => exact absurd ⟨hs, s, hr⟩ h
    | ok s hs hr _ => exact absurd ⟨hs, s, hr⟩ h
    | bad _ =>
      cases p with
      | arg h' => exact absurd hl h'
      | log _ _ => exact ⟨rfl, rfl, rfl, rfl⟩
      | full _ _ _ hv _ => exact absurd hv h
      | ok _ _ _ hv _ => exact absurd hv h
theorem chk_fok {F : Fi} {ps : List Nat} {es : List It} {k : Nat} {e : Int} (h : Fok F ps es) (c : ChkO F k e) : e = 0 ∧ k = ps.length := by
  cases c with
  | bad hv => exact absurd h.vld hv
  | ok s hs hr => exact ⟨rfl, (h.at_ hr).2.length_eq⟩
end Go.Proofs.YtphiblmkgbkdmaaDoor.Pg
