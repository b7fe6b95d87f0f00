/- Rows of records in memory. -/
import Derived.Test.YtfkeedeiafegiaaWalMem
namespace Go.Proofs.Ytfkeedeiafegiaa.Wl
set_option linter.unusedVariables false
set_option linter.unusedSimpArgs false
open Go.RowKit

theorem Rd.lit' (w : World) {q : Nat} (e size : Nat) (cs : Array Value) (n : Nat) (hq : w.heap.size = q) (hm : n ≤ 9223372036854775807) (hs : cs.size = n * size) : Rd (w.alloc (.cells cs e)) size (some ⟨q, 0, none⟩) n n cs.toList := by
  subst hq; exact Rd.lit w e size cs n hm hs
theorem one3 (a b c : Value) (h1 : a.oneCell' = true) (h2 : b.oneCell' = true) (h3 : c.oneCell' = true) : ∀ u ∈ (#[a, b, c] : Array Value).toList, u.oneCell' = true := by
  intro u hu
  simp only [List.mem_cons, List.not_mem_nil, or_false] at hu
  rcases hu with rfl | rfl | rfl <;> assumption
/-- A record in memory: its fields, the place of its data, the data. -/
structure RV where
  k : Int
  t : Int
  A : Option Addr
  c : Nat
  d : List UInt8
def RV.r (x : RV) : Rec := ⟨x.k, x.t, x.d⟩
def RV.cs (x : RV) : List Value := [.int .i64 x.k, .int .i64 x.t, .slice x.A x.d.length x.c]
def cells (l : List RV) : List Value := (l.map RV.cs).flatten
theorem cells_len : ∀ l, (cells l).length = l.length * 3
  | [] => rfl
  | x :: l => by
    have := cells_len l
    simp only [cells, List.map_cons, List.flatten_cons, List.length_append, List.length_cons, RV.cs] at this ⊢
    simp only [List.length_nil]; omega
theorem cells_app (a b : List RV) : cells (a ++ b) = cells a ++ cells b := by simp [cells]
theorem cells_snoc (l : List RV) (x : RV) : cells (l ++ [x]) = cells l ++ x.cs := by simp [cells]
theorem cells_one (l : List RV) : ∀ u ∈ cells l, u.oneCell' = true := by
  intro u hu
  simp only [cells, List.mem_flatten, List.mem_map] at hu
  obtain ⟨_, ⟨x, _, rfl⟩, hu⟩ := hu
  simp only [RV.cs, List.mem_cons, List.not_mem_nil, or_false] at hu
  rcases hu with rfl | rfl | rfl <;> rfl
theorem cells_get : ∀ (l : List RV) (i : Nat) (x : RV), l[i]? = some x → (cells l)[i * 3]? = some (.int .i64 x.k) ∧ (cells l)[i * 3 + 1]? = some (.int .i64 x.t) ∧ (cells l)[i * 3 + 2]? = some (.slice x.A x.d.length x.c)
  | [], i, x, h => by simp at h
  | y :: l, 0, x, h => by
    obtain rfl : y = x := by simpa using h
    simp [cells, RV.cs]
  | y :: l, i + 1, x, h => by
    have := cells_get l i x (by simpa using h)
    have e : cells (y :: l) = y.cs ++ cells l := by simp [cells]
    have h3 : y.cs.length = 3 := rfl
    rw [e, List.getElem?_append_right (by omega), List.getElem?_append_right (by omega), List.getElem?_append_right (by omega), h3]
    rw [show (i + 1) * 3 - 3 = i * 3 by omega, show (i + 1) * 3 + 1 - 3 = i * 3 + 1 by omega, show (i + 1) * 3 + 2 - 3 = i * 3 + 2 by omega]
    exact this
theorem len3 {w : World} {n c : Nat} {A : Option Addr} {l : List RV} (h : Rd w 3 A n c (cells l)) : n = l.length := by
  have := h.len; rw [cells_len] at this; omega

/-- Records that can be read. -/
structure Rr (w : World) (A : Option Addr) (n c : Nat) (l : List RV) : Prop where
  row : Rd w 3 A n c (cells l)
  dat : ∀ x ∈ l, Rd w 1 x.A x.d.length x.c (bv x.d)
/-- Records of the call's own. -/
structure Rs (w : World) (base : Nat) (A : Option Addr) (n c : Nat) (l : List RV) : Prop where
  row : w.ownsRow base 24 3 (.slice A n c) n (cells l)
  dat : ∀ x ∈ l, w.ownsRow base 5 1 (.slice x.A x.d.length x.c) x.d.length (bv x.d)
section
variable {w w' : World} {base n c : Nat} {A : Option Addr} {l : List RV}
theorem Rs.rr (h : Rs w base A n c l) : Rr w A n c l := ⟨Rd.of_own h.row, fun x hx => Rd.of_own (h.dat x hx)⟩
theorem Rs.len (h : Rs w base A n c l) : n = l.length := len3 (Rd.of_own h.row)
theorem Rr.len (h : Rr w A n c l) : n = l.length := len3 h.row
theorem Rr.below (h : Rr w A n c l) (hb : Below w.heap.size w w') : Rr w' A n c l := ⟨h.row.below hb, fun x hx => (h.dat x hx).below hb⟩
theorem Rs.below (h : Rs w base A n c l) (hb : Below w.heap.size w w') : Rs w' base A n c l := ⟨own_below h.row hb, fun x hx => own_below (h.dat x hx) hb⟩
theorem Rs.alloc (h : Rs w base A n c l) (o : Obj) : Rs (w.alloc o) base A n c l := h.below ((Below.refl _ _).alloc (Nat.le_refl _) _)
theorem Rs.rebase (h : Rs w base A n c l) {base' : Nat} (hb : base' ≤ base) : Rs w base' A n c l := ⟨own_base h.row hb, fun x hx => own_base (h.dat x hx) hb⟩
theorem Rs.nil_ (w : World) (base : Nat) : Rs w base none 0 0 [] := ⟨World.ownsRow_nil _ _ _ _, by simp⟩
/-- Other rows that grow leave records alone. -/
theorem Rs.grew (h : Rs w base A n c l) {B B' : Option Addr} (g : Grew w B w' B') (h1 : blk A = none ∨ blk A ≠ blk B) (h2 : ∀ x ∈ l, blk x.A = none ∨ blk x.A ≠ blk B) : Rs w' base A n c l :=
  ⟨own_grew h.row g h1, fun x hx => own_grew (h.dat x hx) g (h2 x hx)⟩
/-- A record more. -/
theorem Rs.push (h : Rs w base A n c l) {A' : Option Addr} {c' : Nat} (x : RV) (hx : w.ownsRow base 5 1 (.slice x.A x.d.length x.c) x.d.length (bv x.d))
    (row : w'.ownsRow base 24 3 (.slice A' (n + 1) c') (n + 1) (cells l ++ x.cs)) (g : Grew w A w' A') : Rs w' base A' (n + 1) c' (l ++ [x]) := by
  refine ⟨by rw [cells_snoc]; exact row, fun y hy => ?_⟩
  have hd : w.ownsRow base 5 1 (.slice y.A y.d.length y.c) y.d.length (bv y.d) := by
    rcases List.mem_append.1 hy with hy | hy
    · exact h.dat y hy
    · obtain rfl : y = x := by simpa using hy
      exact hx
  exact own_grew hd g (own_ne hd h.row (by decide))
end
end Go.Proofs.Ytfkeedeiafegiaa.Wl
