/- The law: WalBack. -/
import Derived.Test.YtfkeedeiafegiaaWalL4
namespace Go.Proofs.Ytfkeedeiafegiaa.Wl
set_option linter.unusedVariables false
set_option linter.unusedSimpArgs false
open Go.RowKit

theorem wpList_app_g {P : Program} (w : World) {ops : Array Oper} {rest : List Oper} {o : Oper} {a : Act} {Q : Exit → Act → World → Prop} (hw : Region.wanted o (yielded ops a.tmps) = true) (s x : Operand) (t : TypeId)
    (ho : o.op = .call { callee := .builtin .append, args := #[s, x], argTypes := #[t, t] })
    (base : Nat) (e : TypeId) (i : TypeInfo) (z : Value) (size bytes : Nat) (ht : P.underlying t = some (.slice e)) (hi : P.info? e = some i) (hz : i.zero = some z)
    (hsize : i.size = size) (hby : i.bytes = bytes) (hzs : z.cells.size = size) (hsz : 0 < size)
    {A B : Option Addr} {n c m d : Nat} {xs news : List Value} (hs : a.eval s = .slice A n c) (hown : w.ownsRow base e size (.slice A n c) n xs) (hx : a.eval x = .slice B m d) (hr : Rd w size B m d news) (h1 : ∀ u ∈ news, u.oneCell' = true)
    (h63 : n + m ≤ 1099511627776) (hb8 : bytes ≤ 64) (hbase : base ≤ w.heap.size)
    (h : ∀ A' c' w', w'.ownsRow base e size (.slice A' (n + m) c') (n + m) (xs ++ news) → Grew w A w' A' → wpList P ops Q rest (a.put o.dst (.slice A' (n + m) c')) w') : wpList P ops Q (o :: rest) a w :=
  wpList_step fun _ hK => by
    rw [if_pos hw]
    exact wp_app w s x t ho base e i z size bytes ht hi hz hsize hby hzs hsz hs hown hx hr h1 h63 hb8 hbase fun A' c' w' h2 h3 => hK _ _ (h A' c' w' h2 h3)
/-- The records kept: a row of the call's own. -/
def Kp (w : World) (base : Nat) (A : Option Addr) (n c : Nat) (l : List RV) : Prop := w.ownsRow base 24 3 (.slice A n c) n (cells l)
theorem Kp.below {w w' : World} {base n c : Nat} {A : Option Addr} {l : List RV} (h : Kp w base A n c l) (hb : Below w.heap.size w w') : Kp w' base A n c l := own_below h hb
theorem Kp.rr {w : World} {base n c : Nat} {A : Option Addr} {l : List RV} (h : Kp w base A n c l) (hd : ∀ x ∈ l, Rd w 1 x.A x.d.length x.c (bv x.d)) : Rr w A n c l := ⟨Rd.of_own h, hd⟩
theorem Kp.len {w : World} {base n c : Nat} {A : Option Addr} {l : List RV} (h : Kp w base A n c l) : n = l.length := len3 (Rd.of_own h)
theorem vals_map_snoc (l : List RV) (x : RV) : (l ++ [x]).filter (fun x => okR x.r) = if okR x.r = true then l.filter (fun x => okR x.r) ++ [x] else l.filter (fun x => okR x.r) := by
  rw [List.filter_append]
  by_cases h : okR x.r = true
  · rw [if_pos h]; simp [h]
  · rw [if_neg h]; simp [h]
/-- The valid ones, as they lie. -/
def vkp (l : List RV) : List RV := l.filter fun x => okR x.r
theorem vkp_sub {l : List RV} {x : RV} (h : x ∈ vkp l) : x ∈ l := (List.mem_filter.1 h).1
theorem vkp_map (l : List RV) : (vkp l).map RV.r = vals l := by unfold vkp vals; rw [List.filter_map]; rfl
end Go.Proofs.Ytfkeedeiafegiaa.Wl
