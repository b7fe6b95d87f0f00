/- Changes and lists of changes in memory. -/
import Derived.Test.YtpmkohnljngbhaaDoorSrM
import Derived.Test.YtpmkohnljngbhaaDoorPgB1
import Derived.Test.YtpmkohnljngbhaaDoorWalA
import Derived.Test.YtpmkohnljngbhaaDoorPgTP
import Derived.Deep.Cut
import Derived.Deep.CutBlock
namespace Go.Proofs.YtpmkohnljngbhaaDoor.Wl
set_option linter.unusedVariables false
set_option linter.unusedSimpArgs false
set_option maxRecDepth 1000000
open Go.RowKit
theorem Rd.nx {w w' : World} {A : Option Addr} {size n c : Nat} {l : List Value} (h : Rd w size A n c l) (b : Below w.heap.size w w') : Rd w' size A n c l := Rd.below h b
theorem Rs.nx {w w' : World} {A : Option Addr} {base n c : Nat} {l : List RV} (h : Rs w base A n c l) (b : Below w.heap.size w w') : Rs w' base A n c l := Rs.below h b
theorem Rr.nx {w w' : World} {A : Option Addr} {n c : Nat} {l : List RV} (h : Rr w A n c l) (b : Below w.heap.size w w') : Rr w' A n c l := Rr.below h b
end Go.Proofs.YtpmkohnljngbhaaDoor.Wl
namespace Go.Proofs.YtpmkohnljngbhaaDoor.Pg
set_option maxRecDepth 1000000
open Go.RowKit Wl
theorem Fl.nx {w w' : World} {f : FV} (h : Fl w f) (b : Below w.heap.size w w') : Fl w' f := h.below b
theorem Bx.nx {w w' : World} {p : Nat} {l : List Value} (h : Bx w p l) (b : Below w.heap.size w w') : Bx w' p l := h.step b
theorem Ty.nx {w w' : World} {p : Nat} {T : TypeId} (h : Ty w p T) (b : Below w.heap.size w w') : Ty w' p T := h.step b
end Go.Proofs.YtpmkohnljngbhaaDoor.Pg
namespace Go.Proofs.YtpmkohnljngbhaaDoor.Sr
set_option maxRecDepth 1000000
open Go.RowKit Wl Pg

/-- A change, in memory. -/
structure CV where
  A : Option Addr
  c : Nat
  k : List UInt8
  B : Option Addr
  d : Nat
  v : List UInt8
  del : Bool
instance : Inhabited CV := ⟨⟨none, 0, [], none, 0, [], false⟩⟩
def CV.ch (x : CV) : Ch := ⟨x.k, x.v, x.del⟩
def CV.cs (x : CV) : List Value := [.slice x.A x.k.length x.c, .slice x.B x.v.length x.d, .bool x.del]
def CV.val (x : CV) : Value := .agg #[.slice x.A x.k.length x.c, .slice x.B x.v.length x.d, .bool x.del]
def cvs (l : List CV) : List Value := l.flatMap CV.cs
theorem cvs_len : ∀ l : List CV, (cvs l).length = l.length * 3
  | [] => rfl
  | x :: l => by
    have := cvs_len l
    simp only [cvs, List.flatMap_cons, List.length_append] at this ⊢
    rw [this]; simp [CV.cs]; omega
theorem cvs_app (a b : List CV) : cvs (a ++ b) = cvs a ++ cvs b := by simp [cvs]
theorem cvs_one (l : List CV) : ∀ u ∈ cvs l, u.oneCell' = true := by
  intro u hu
  simp only [cvs, List.mem_flatMap] at hu
  obtain ⟨x, _, hu⟩ := hu
  simp only [CV.cs, List.mem_cons, List.not_mem_nil, or_false] at hu
  rcases hu with rfl | rfl | rfl <;> rfl
theorem cvs_get : ∀ (l : List CV) (k : Nat) (x : CV), l[k]? = some x → (cvs l)[k * 3]? = some (.slice x.A x.k.length x.c) ∧ (cvs l)[k * 3 + 1]? = some (.slice x.B x.v.length x.d) ∧ (cvs l)[k * 3 + 2]? = some (.bool x.del)
  | [], k, x, h => by simp at h
  | y :: l, 0, x, h => by
    obtain rfl : y = x := by simpa using h
    simp [cvs, CV.cs]
  | y :: l, k + 1, x, h => by
    have ih := cvs_get l k x (by simpa using h)
    have e : ∀ j, (cvs (y :: l))[(k + 1) * 3 + j]? = (cvs l)[k * 3 + j]? := fun j => by
      show (CV.cs y ++ cvs l)[(k + 1) * 3 + j]? = _
      rw [List.getElem?_append_right (by simp [CV.cs]; omega)]
      congr 1
      simp [CV.cs]; omega
    exact ⟨by rw [← Nat.add_zero ((k + 1) * 3), e 0]; exact ih.1, by rw [e 1]; exact ih.2.1, by rw [e 2]; exact ih.2.2⟩
/-- The bytes of a change. -/
structure Dt (w : World) (x : CV) : Prop where
  k : Rd w 1 x.A x.k.length x.c (bv x.k)
  v : Rd w 1 x.B x.v.length x.d (bv x.v)
theorem Dt.nx {w w' : World} {x : CV} (h : Dt w x) (b : Below w.heap.size w w') : Dt w' x := ⟨h.k.below b, h.v.below b⟩
structure Cr (w : World) (A : Option Addr) (n c : Nat) (l : List CV) : Prop where
  row : Rd w 3 A n c (cvs l)
  dat : ∀ x ∈ l, Dt w x
section
variable {w w' : World} {A : Option Addr} {n c k : Nat} {l : List CV}
theorem Cr.nx (h : Cr w A n c l) (b : Below w.heap.size w w') : Cr w' A n c l := ⟨h.row.below b, fun x hx => (h.dat x hx).nx b⟩
theorem Cr.len (h : Cr w A n c l) : n = l.length := by have := h.row.len; rw [cvs_len] at this; omega
theorem Cr.nil_ (w : World) : Cr w none 0 0 [] := ⟨Rd.nil_ _ _, by simp⟩
theorem Cr.item (h : Cr w A n c l) (hk : k < n) :
    ∃ g o x, A = some ⟨g, o, none⟩ ∧ g < w.heap.size ∧ l[k]? = some x ∧ w.cell? ⟨g, o + k * 3, none⟩ = some (.slice x.A x.k.length x.c) ∧ w.cell? ⟨g, o + k * 3 + 1, none⟩ = some (.slice x.B x.v.length x.d) ∧ w.cell? ⟨g, o + k * 3 + 2, none⟩ = some (.bool x.del) := by
  obtain ⟨g, o, e, hb, hc⟩ := h.row.at_ (by omega)
  have hl := h.len
  have hx : l[k]? = some (l[k]'(by omega)) := List.getElem?_eq_getElem (by omega)
  obtain ⟨k0, k1, k2⟩ := cvs_get l k _ hx
  exact ⟨g, o, _, e, hb, hx, by rw [hc _ (by omega), k0], by rw [Nat.add_assoc, hc _ (by omega), k1], by rw [Nat.add_assoc, hc _ (by omega), k2]⟩
end
theorem info_change : (Tryd.prog.info? 45).map (fun i => (i.zero, i.size, i.bytes)) = some (some (.agg #[.slice none 0 0, .slice none 0 0, .bool false]), 3, 56) := by kernel_rfl
theorem info_changes : (Tryd.prog.info? 36).map (fun i => (i.zero, i.size, i.bytes)) = some (some (.slice none 0 0), 1, 24) := by kernel_rfl
theorem info_rec : (Tryd.prog.info? 66).map (fun i => (i.zero, i.size, i.bytes)) = some (some (.agg #[.int .i64 0, .int .i64 0, .slice none 0 0]), 3, 40) := by kernel_rfl
/-- A transaction, in memory. -/
structure XV where
  A : Option Addr
  c : Nat
  l : List CV
def XV.v (x : XV) : Value := .slice x.A x.l.length x.c
def XV.t (x : XV) : List Ch := x.l.map CV.ch
def xvs (L : List XV) : List Value := L.map XV.v
theorem xvs_len (L : List XV) : (xvs L).length = L.length := by simp [xvs]
theorem xvs_one (L : List XV) : ∀ u ∈ xvs L, u.oneCell' = true := by
  intro u hu; simp only [xvs, List.mem_map] at hu; obtain ⟨_, _, rfl⟩ := hu; rfl
structure Xr (w : World) (A : Option Addr) (n c : Nat) (L : List XV) : Prop where
  row : Rd w 1 A n c (xvs L)
  dat : ∀ x ∈ L, Cr w x.A x.l.length x.c x.l
section
variable {w w' : World} {A : Option Addr} {n c k : Nat} {L : List XV}
theorem Xr.nx (h : Xr w A n c L) (b : Below w.heap.size w w') : Xr w' A n c L := ⟨h.row.below b, fun x hx => (h.dat x hx).nx b⟩
theorem Xr.len (h : Xr w A n c L) : n = L.length := by have := h.row.len; rw [xvs_len] at this; omega
theorem Xr.nil_ (w : World) : Xr w none 0 0 [] := ⟨Rd.nil_ _ _, by simp⟩
theorem Xr.item (h : Xr w A n c L) (hk : k < n) : ∃ g o x, A = some ⟨g, o, none⟩ ∧ g < w.heap.size ∧ L[k]? = some x ∧ w.cell? ⟨g, o + k, none⟩ = some (.slice x.A x.l.length x.c) := by
  obtain ⟨g, o, x, h1, h2, h3, h4⟩ := Rd.at1 (val := XV.v) h.row hk
  exact ⟨g, o, x, h1, h2, h3, h4⟩
end
/-- A row of the call's own of changes whose bytes were there in world b. -/
structure Co (w : World) (base : Nat) (A : Option Addr) (n c : Nat) (l : List CV) : Prop where
  own : w.ownsRow base 45 3 (.slice A n c) n (cvs l)
  dat : ∀ x ∈ l, Dt w x
theorem Co.cr {w : World} {base : Nat} {A : Option Addr} {n c : Nat} {l : List CV} (h : Co w base A n c l) : Cr w A n c l := ⟨Rd.of_own h.own, h.dat⟩
theorem Co.nx {w w' : World} {base : Nat} {A : Option Addr} {n c : Nat} {l : List CV} (h : Co w base A n c l) (b : Below w.heap.size w w') : Co w' base A n c l := ⟨own_below h.own b, fun x hx => (h.dat x hx).nx b⟩
theorem Co.rebase {w : World} {base base' : Nat} {A : Option Addr} {n c : Nat} {l : List CV} (h : Co w base A n c l) (hb : base' ≤ base) : Co w base' A n c l := ⟨own_base h.own hb, h.dat⟩
theorem Co.len {w : World} {base : Nat} {A : Option Addr} {n c : Nat} {l : List CV} (h : Co w base A n c l) : n = l.length := h.cr.len
theorem Co.nil_ (w : World) (base : Nat) : Co w base none 0 0 [] := ⟨World.ownsRow_nil _ _ _ _, by simp⟩
/-- A store, in memory. -/
structure SV where
  f : FV
  L : Option Addr
  lc : Nat
  log : List UInt8
  last : Int
structure St (w : World) (s : SV) : Prop where
  fl : Fl w s.f
  lg : Rd w 1 s.L s.log.length s.lc (bv s.log)
theorem St.nx {w w' : World} {s : SV} (h : St w s) (b : Below w.heap.size w w') : St w' s := ⟨h.fl.below b, h.lg.below b⟩
end Go.Proofs.YtpmkohnljngbhaaDoor.Sr
