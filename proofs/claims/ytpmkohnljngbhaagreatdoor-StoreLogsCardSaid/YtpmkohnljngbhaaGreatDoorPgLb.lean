/- Scripts: what operations do to a list of entries, and that files follow. -/
import Derived.Test.YtpmkohnljngbhaaGreatDoorPgLa
namespace Go.Proofs.YtpmkohnljngbhaaGreatDoor.Pg
set_option linter.unusedVariables false
set_option linter.unusedSimpArgs false
set_option maxRecDepth 1000000

/-- An operation, plainly. -/
structure Op where
  kd : Int
  k : List UInt8
  v : List UInt8
open Classical in
/-- The entries behind an operation. -/
noncomputable def nxt (es : List It) (o : Op) : List It :=
  if o.kd = 0 then (if lenKV o.k o.v then upd es o.k [⟨o.k, o.v, 0⟩] else es)
  else if o.kd = 1 then (if lenK o.k ∧ lkp es o.k ≠ none then upd es o.k [] else es)
  else es
theorem nxt_len (es : List It) (o : Op) : (nxt es o).length ≤ es.length + 1 := by
  have h1 := upd_len es o.k [⟨o.k, o.v, 0⟩]
  have h2 := upd_len es o.k []
  simp only [List.length_cons, List.length_nil] at h1 h2
  unfold nxt
  split
  · split <;> omega
  · split
    · split <;> omega
    · omega
/-- Behind j operations. -/
structure Sok (F : Fi) (es : List It) (j : Nat) : Prop where
  ok : ∃ ps, Fok F ps es
  n : es.length ≤ j
  p : F.pg.length ≤ j * (j + 1)
theorem sok_new : Sok ⟨[], -1, []⟩ [] 0 := ⟨⟨[], fok_new⟩, by simp, by simp⟩
theorem Sok.room {F : Fi} {es : List It} {j : Nat} (h : Sok F es j) (hj : j ≤ 61) : F.pg.length + 2 * (j + 1) ≤ 4096 ∧ F.pg.length + 2 * es.length ≤ 4096 := by
  have h1 := h.n
  have h2 := h.p
  have h3 : j * (j + 1) ≤ 61 * 62 := Nat.mul_le_mul hj (by omega)
  omega
theorem Sok.step {F G : Fi} {es fs : List It} {j n : Nat} (h : Sok F es j) (hf : ∃ qs, Fok G qs fs) (hn : fs.length ≤ j + 1) (hc : Chd F G n) (hm : n ≤ j + 1) : Sok G fs (j + 1) := by
  refine ⟨hf, hn, ?_⟩
  have h1 := h.p
  have h2 := hc.up
  have h3 : (j + 1) * (j + 1 + 1) = j * (j + 1) + 2 * (j + 1) := by
    rw [Nat.mul_add, Nat.add_mul, Nat.mul_one]; omega
  omega
theorem Sok.same {F : Fi} {es : List It} {j : Nat} (h : Sok F es j) : Sok F es (j + 1) := by
  refine ⟨h.ok, by have := h.n; omega, ?_⟩
  have h1 := h.p
  have h3 : j * (j + 1) ≤ (j + 1) * (j + 1 + 1) := Nat.mul_le_mul (by omega) (by omega)
  omega
theorem put_sok {F G : Fi} {es : List It} {j : Nat} {key value : List UInt8} {er : Int} (h : Sok F es j) (hj : j ≤ 61) (hl : lenKV key value) (ho : PutO F key value G er) : er = 0 ∧ Sok G (upd es key [⟨key, value, 0⟩]) (j + 1) ∧ Chd F G (upd es key [⟨key, value, 0⟩]).length := by
  obtain ⟨ps, hf⟩ := h.ok
  have hn := upd_len es key [⟨key, value, 0⟩]
  simp only [List.length_cons, List.length_nil] at hn
  have := h.n
  obtain ⟨a, b, c⟩ := put_law hf hl (by have := (h.room hj).1; omega) ho
  exact ⟨a, h.step b (by omega) c (by omega), c⟩
theorem del_sok {F G : Fi} {es : List It} {j : Nat} {key : List UInt8} {er : Int} (h : Sok F es j) (hj : j ≤ 61) (hl : lenK key) (ho : DelO F key G er) :
    (lkp es key = none ∧ G = zeroF ∧ er = 7) ∨ ((∃ v, lkp es key = some v) ∧ er = 0 ∧ Sok G (upd es key []) (j + 1) ∧ Chd F G (upd es key []).length) := by
  obtain ⟨ps, hf⟩ := h.ok
  have hn := upd_len es key []
  simp only [List.length_nil] at hn
  have := h.n
  rcases del_law hf hl (h.room hj).2 ho with h1 | ⟨h1, h2, h3, h4⟩
  · exact .inl h1
  · exact .inr ⟨h1, h2, h.step h3 (by omega) h4 (by omega), h4⟩
end Go.Proofs.YtpmkohnljngbhaaGreatDoor.Pg
