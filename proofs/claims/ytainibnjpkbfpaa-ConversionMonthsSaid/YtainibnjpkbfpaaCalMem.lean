/- Spans in memory. -/
import Derived.Test.YtainibnjpkbfpaaMem
import Derived.Test.YtainibnjpkbfpaaCalM
namespace Go.Proofs.Ytainibnjpkbfpaa.Cv
set_option linter.unusedVariables false
set_option linter.unusedSimpArgs false
open Go.RowKit Wl

def sc (l : List (Int × Int)) : List Value := (l.map fun s => [Value.int .i64 s.1, .int .i64 s.2]).flatten
theorem sc_len : ∀ l, (sc l).length = l.length * 2
  | [] => rfl
  | x :: l => by
    have := sc_len l
    simp only [sc, List.map_cons, List.flatten_cons, List.length_append, List.length_cons, List.length_nil] at this ⊢
    omega
theorem sc_app (a b : List (Int × Int)) : sc (a ++ b) = sc a ++ sc b := by simp [sc]
theorem sc_one (l : List (Int × Int)) : ∀ u ∈ sc l, u.oneCell' = true := by
  intro u hu
  simp only [sc, List.mem_flatten, List.mem_map] at hu
  obtain ⟨_, ⟨x, _, rfl⟩, hu⟩ := hu
  simp only [List.mem_cons, List.not_mem_nil, or_false] at hu
  rcases hu with rfl | rfl <;> rfl
theorem sc_get : ∀ (l : List (Int × Int)) (i : Nat), i < l.length → (sc l)[i * 2]? = some (.int .i64 (gt l i).1) ∧ (sc l)[i * 2 + 1]? = some (.int .i64 (gt l i).2)
  | [], i, h => by simp at h
  | y :: l, 0, h => by simp [sc, gt]
  | y :: l, i + 1, h => by
    have := sc_get l i (by simpa using h)
    have e : sc (y :: l) = [.int .i64 y.1, .int .i64 y.2] ++ sc l := by simp [sc]
    have hg : gt (y :: l) (i + 1) = gt l i := by simp [gt]
    rw [e, hg, List.getElem?_append_right (by simp; omega), List.getElem?_append_right (by simp; omega)]
    rw [show (i + 1) * 2 - [Value.int .i64 y.1, .int .i64 y.2].length = i * 2 by simp; omega, show (i + 1) * 2 + 1 - [Value.int .i64 y.1, .int .i64 y.2].length = i * 2 + 1 by simp; omega]
    exact this
/-- The spans l lie at a slice. -/
def Sr (w : World) (A : Option Addr) (n c : Nat) (l : List (Int × Int)) : Prop := Rd w 2 A n c (sc l)
section
variable {w w' : World} {n c : Nat} {A : Option Addr} {l : List (Int × Int)}
theorem Sr.len (h : Sr w A n c l) : n = l.length := by have := Rd.len h; rw [sc_len] at this; omega
theorem Sr.nc (h : Sr w A n c l) : n ≤ c := Rd.nc h
theorem Sr.c63 (h : Sr w A n c l) : c ≤ 9223372036854775807 := Rd.c63 h
theorem Sr.below (h : Sr w A n c l) (hb : Below w.heap.size w w') : Sr w' A n c l := Rd.below h hb
theorem Sr.at_ (h : Sr w A n c l) {i : Nat} (hi : i < n) : ∃ g o, A = some ⟨g, o, none⟩ ∧ g < w.heap.size ∧ w.cell? ⟨g, o + i * 2, none⟩ = some (.int .i64 (gt l i).1) ∧ w.cell? ⟨g, o + i * 2 + 1, none⟩ = some (.int .i64 (gt l i).2) := by
  obtain ⟨g, o, e, hg, hc⟩ := Rd.at_ h (by omega)
  have hl := h.len
  obtain ⟨k0, k1⟩ := sc_get l i (by omega)
  exact ⟨g, o, e, hg, by rw [hc _ (by omega), k0], by rw [Nat.add_assoc, hc _ (by omega), k1]⟩
theorem Sr.at2 {g o : Nat} (h : Sr w (some ⟨g, o, none⟩) n c l) {i : Nat} (hi : i < n) : g < w.heap.size ∧ w.cell? ⟨g, o + i * 2, none⟩ = some (.int .i64 (gt l i).1) ∧ w.cell? ⟨g, o + i * 2 + 1, none⟩ = some (.int .i64 (gt l i).2) := by
  obtain ⟨g', o', e, h1, h2, h3⟩ := h.at_ hi
  injection e with e
  injection e with e1 e2
  subst e1 e2
  exact ⟨h1, h2, h3⟩
theorem Sr.some_ (h : Sr w A n c l) (hn : 0 < n) : ∃ g o, A = some ⟨g, o, none⟩ := by
  obtain ⟨g, o, e, _⟩ := h.at_ hn
  exact ⟨g, o, e⟩
end
theorem box2 (w : World) (a b : Value) (T : TypeId) : (w.alloc (.cells #[a, b] T)).cell? ⟨w.heap.size, 0, none⟩ = some a ∧ (w.alloc (.cells #[a, b] T)).cell? ⟨w.heap.size, 1, none⟩ = some b := by
  unfold World.cell?; rw [heap_alloc_new]; exact ⟨rfl, rfl⟩
theorem box3 (w : World) (a b c : Value) (T : TypeId) : (w.alloc (.cells #[a, b, c] T)).cell? ⟨w.heap.size, 0, none⟩ = some a ∧ (w.alloc (.cells #[a, b, c] T)).cell? ⟨w.heap.size, 1, none⟩ = some b ∧
    (w.alloc (.cells #[a, b, c] T)).cell? ⟨w.heap.size, 2, none⟩ = some c := by
  unfold World.cell?; rw [heap_alloc_new]; exact ⟨rfl, rfl, rfl⟩
end Go.Proofs.Ytainibnjpkbfpaa.Cv
