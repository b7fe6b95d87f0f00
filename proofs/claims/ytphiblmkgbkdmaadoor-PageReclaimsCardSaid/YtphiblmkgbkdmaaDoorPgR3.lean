/- The reference's list of entries in memory; Find, Put, Delete, Range. -/
import Derived.Test.YtphiblmkgbkdmaaDoorPgR2
import Derived.Test.YtphiblmkgbkdmaaDoorPgNx
namespace Go.Proofs.YtphiblmkgbkdmaaDoor.Pg
set_option linter.unusedVariables false
set_option linter.unusedSimpArgs false
open Go.RowKit Wl

theorem evc_len : ∀ l : List EV, (evc l).length = l.length * 2
  | [] => rfl
  | x :: l => by
    have := evc_len l
    simp only [evc, List.flatMap_cons, List.length_append] at this ⊢
    rw [this]; simp [EV.cs]; omega
theorem evc_cons (x : EV) (l : List EV) : evc (x :: l) = .slice x.A x.k.length x.c :: .slice x.B x.v.length x.d :: evc l := rfl
theorem evc_get : ∀ (l : List EV) (k : Nat) (x : EV), l[k]? = some x → (evc l)[k * 2]? = some (.slice x.A x.k.length x.c) ∧ (evc l)[k * 2 + 1]? = some (.slice x.B x.v.length x.d)
  | [], k, x, h => by simp at h
  | y :: l, 0, x, h => by
    obtain rfl : y = x := by simpa using h
    simp [evc_cons]
  | y :: l, k + 1, x, h => by
    have ih := evc_get l k x (by simpa using h)
    rw [evc_cons, show (k + 1) * 2 = k * 2 + 1 + 1 by omega, show k * 2 + 1 + 1 + 1 = k * 2 + 1 + 1 + 1 from rfl]
    simp only [List.getElem?_cons_succ]
    exact ih
theorem evc_one (l : List EV) : ∀ u ∈ evc l, u.oneCell' = true := by
  intro u hu
  simp only [evc, List.mem_flatMap] at hu
  obtain ⟨x, _, hx⟩ := hu
  simp only [EV.cs, List.mem_cons, List.not_mem_nil, or_false] at hx
  rcases hx with rfl | rfl <;> rfl
theorem evc_take (l : List EV) (k : Nat) (hk : k ≤ l.length) : (evc l).take (k * 2) = evc (l.take k) := by
  have h : evc l = evc (l.take k) ++ evc (l.drop k) := by rw [← evc_app, List.take_append_drop]
  rw [h, List.take_append_of_le_length (by rw [evc_len, List.length_take]; omega), List.take_of_length_le (by rw [evc_len, List.length_take]; omega)]
theorem evc_drop (l : List EV) (k : Nat) (hk : k ≤ l.length) : (evc l).drop (k * 2) = evc (l.drop k) := by
  have h : evc l = evc (l.take k) ++ evc (l.drop k) := by rw [← evc_app, List.take_append_drop]
  rw [h]
  exact List.drop_left' (by rw [evc_len, List.length_take]; omega)
theorem Er.len {w : World} {A : Option Addr} {n c : Nat} {l : List EV} (h : Er w A n c l) : n = l.length := by
  have := h.row.len; rw [evc_len] at this; omega
theorem Er.item {w : World} {n c k : Nat} {A : Option Addr} {l : List EV} (h : Er w A n c l) (hk : k < n) :
    ∃ g o x, A = some ⟨g, o, none⟩ ∧ g < w.heap.size ∧ l[k]? = some x ∧ w.cell? ⟨g, o + k * 2, none⟩ = some (.slice x.A x.k.length x.c) ∧ w.cell? ⟨g, o + k * 2 + 1, none⟩ = some (.slice x.B x.v.length x.d) := by
  obtain ⟨g, o, e, hb, hc⟩ := h.row.at_ (by omega)
  have hl := h.len
  have hx : l[k]? = some (l[k]'(by omega)) := List.getElem?_eq_getElem (by omega)
  obtain ⟨k0, k1⟩ := evc_get l k _ hx
  exact ⟨g, o, _, e, hb, hx, by rw [hc _ (by omega), k0], by rw [Nat.add_assoc, hc _ (by omega), k1]⟩
theorem Er.pre {w : World} {n c g o k : Nat} {l : List EV} (h : Er w (some ⟨g, o, none⟩) n c l) (hk : k ≤ n) : Er w (some ⟨g, o, none⟩) k c (l.take k) := by
  have hl := h.len
  have hnc := h.row.nc
  refine ⟨⟨by rw [evc_len, List.length_take]; omega, by omega, fun e => (by cases e), h.row.c63, fun hp => ?_⟩, fun x hx => h.dat x (List.mem_of_mem_take hx)⟩
  obtain ⟨g', o', e, hb, hc⟩ := h.row.at_ (by omega)
  refine ⟨g', o', e, hb, fun j hj => ?_⟩
  rw [hc j (by omega), ← evc_take l k (by omega), List.getElem?_take, if_pos hj]
theorem Er.suf {w : World} {n c g o k : Nat} {l : List EV} (h : Er w (some ⟨g, o, none⟩) n c l) (hk : k ≤ n) : Er w (some ⟨g, o + k * 2, none⟩) (n - k) (c - k) (l.drop k) := by
  have hl := h.len
  have hnc := h.row.nc
  have h63 := h.row.c63
  refine ⟨⟨by rw [evc_len, List.length_drop]; omega, by omega, fun e => (by cases e), by omega, fun hp => ?_⟩, fun x hx => h.dat x (List.mem_of_mem_drop hx)⟩
  obtain ⟨g', o', e, hb, hc⟩ := h.row.at_ (by omega)
  injection e with e; injection e with e1 e2; subst e1 e2
  refine ⟨g, o + k * 2, rfl, hb, fun j hj => ?_⟩
  rw [Nat.add_assoc, hc (k * 2 + j) (by omega), ← evc_drop l k (by omega), List.getElem?_drop]
theorem kv_at {L : List EV} {es : List It} {j : Nat} {x : EV} (h : L.map EV.kv = kvs es) (hx : L[j]? = some x) : ∃ y, es[j]? = some y ∧ y.k = x.k ∧ y.v = x.v := by
  have h1 : (L.map EV.kv)[j]? = some (x.k, x.v) := by rw [List.getElem?_map, hx]; rfl
  rw [h] at h1
  unfold kvs at h1
  rw [List.getElem?_map] at h1
  rcases he : es[j]? with _ | y
  · rw [he] at h1; simp at h1
  · rw [he] at h1
    simp only [Option.map_some, Option.some.injEq, Prod.mk.injEq] at h1
    exact ⟨y, rfl, h1.1, h1.2⟩
theorem kv_len {L : List EV} {es : List It} (h : L.map EV.kv = kvs es) : L.length = es.length := by
  have := congrArg List.length h; simpa [kvs] using this
/-- A list of entries in memory. -/
structure Lr (w : World) (A : Option Addr) (n c : Nat) (es : List It) : Prop where
  ex : ∃ L, Er w A n c L ∧ L.map EV.kv = kvs es
theorem Lr.nx {w w' : World} {A : Option Addr} {n c : Nat} {es : List It} (h : Lr w A n c es) (b : Below w.heap.size w w') : Lr w' A n c es := by
  obtain ⟨L, h1, h2⟩ := h.ex
  exact ⟨L, h1.nx b, h2⟩
theorem Lr.len {w : World} {A : Option Addr} {n c : Nat} {es : List It} (h : Lr w A n c es) : n = es.length := by
  obtain ⟨L, h1, h2⟩ := h.ex
  rw [h1.len, kv_len h2]
/-- The same: the blocks of the list, and of what it holds, are no boxes. -/
structure Ls (w : World) (base : Nat) (A : Option Addr) (n c : Nat) (es : List It) : Prop where
  ex : ∃ L, Er w A n c L ∧ L.map EV.kv = kvs es ∧ ∀ x ∈ L, (∀ g, 0 < x.k.length → blk x.A = some g → Sf w base g) ∧ ∀ g, 0 < x.v.length → blk x.B = some g → Sf w base g
  ty : ∀ g, blk A = some g → Ty w g 73
theorem Ls.lr {w : World} {base n c : Nat} {A : Option Addr} {es : List It} (h : Ls w base A n c es) : Lr w A n c es := by
  obtain ⟨L, h1, h2, _⟩ := h.ex
  exact ⟨L, h1, h2⟩
theorem rd_lt {w : World} {size n c g : Nat} {A : Option Addr} {xs : List Value} (h : Rd w size A n c xs) (hn : 0 < n) (hg : blk A = some g) : g < w.heap.size := by
  obtain ⟨g', o, e, hb, _⟩ := h.at_ hn
  rw [e] at hg
  simp only [blk, Option.map_some, Option.some.injEq] at hg
  omega
theorem sf_nx {w w' : World} {base g : Nat} (h : Sf w base g) (hg : g < w.heap.size) (b : Below w.heap.size w w') : Sf w' base g := h.wr hg (Wr.of_below b base)
theorem Ls.nx {w w' : World} {base n c : Nat} {A : Option Addr} {es : List It} (h : Ls w base A n c es) (b : Below w.heap.size w w') : Ls w' base A n c es := by
  obtain ⟨L, h1, h2, h3⟩ := h.ex
  exact ⟨⟨L, h1.nx b, h2, fun x hx => ⟨fun g h0 e => sf_nx ((h3 x hx).1 g h0 e) (rd_lt (h1.dat x hx).1 h0 e) b, fun g h0 e => sf_nx ((h3 x hx).2 g h0 e) (rd_lt (h1.dat x hx).2 h0 e) b⟩⟩, fun g e => (h.ty g e).step b⟩
theorem FlT.nx {w w' : World} {f : FV} (h : FlT w f) (b : Below w.heap.size w w') : FlT w' f :=
  ⟨h.fl.below b, fun g e => (h.pa g e).step b, fun x hx g e => (h.da x hx g e).step b, fun g h0 e => (h.fa g h0 e).step b⟩
/-- A box is written. -/
theorem FlT.kp {w w' : World} {p : Nat} {f : FV} (h : FlT w f) (k : Kp w w' (· = p)) (hp : Ty w p 30) : FlT w' f := by
  have a1 : ∀ g, blk f.PA = some g → g ≠ p := fun g e => ty_ne (h.pa g e) hp (by decide)
  have a2 : ∀ x ∈ f.ps, ∀ g, blk x.A = some g → g ≠ p := fun x hx g e => ty_ne (h.da x hx g e) hp (by decide)
  have a3 : ∀ g, 0 < f.free.length → blk f.FA = some g → g ≠ p := fun g h0 e => ty_ne (h.fa g h0 e) hp (by decide)
  exact ⟨⟨⟨Rd.kp h.fl.pg.row k fun g _ e => a1 g e, fun x hx => Rd.kp (h.fl.pg.dat x hx) k fun g _ e => a2 x hx g e⟩, Rd.kp h.fl.fr k fun g h0 e => a3 g h0 e⟩,
    fun g e => (h.pa g e).kp k (a1 g e), fun x hx g e => (h.da x hx g e).kp k (a2 x hx g e), fun g h0 e => (h.fa g h0 e).kp k (a3 g h0 e)⟩
theorem sf_box {w w' : World} {p base g : Nat} (h : Sf w base g) (hb : base ≤ p) (k : Kp w w' (· = p)) (hp : Ty w p 30) : g ≠ p ∧ Sf w' base g := by
  rcases h with h | ⟨cs, h⟩
  · exact ⟨by omega, .inl h⟩
  · have hne : g ≠ p := ty_ne ⟨cs, h⟩ hp (by decide)
    exact ⟨hne, .inr (Ty.kp (show Ty w g 5 from ⟨cs, h⟩) k hne)⟩
theorem Ls.kp {w w' : World} {p base n c : Nat} {A : Option Addr} {es : List It} (h : Ls w base A n c es) (hb : base ≤ p) (k : Kp w w' (· = p)) (hp : Ty w p 30) : Ls w' base A n c es := by
  obtain ⟨L, h1, h2, h3⟩ := h.ex
  have a1 : ∀ g, blk A = some g → g ≠ p := fun g e => ty_ne (h.ty g e) hp (by decide)
  exact ⟨⟨L, ⟨Rd.kp h1.row k fun g _ e => a1 g e, fun x hx => ⟨Rd.kp (h1.dat x hx).1 k fun g h0 e => (sf_box ((h3 x hx).1 g h0 e) hb k hp).1, Rd.kp (h1.dat x hx).2 k fun g h0 e => (sf_box ((h3 x hx).2 g h0 e) hb k hp).1⟩⟩, h2,
    fun x hx => ⟨fun g h0 e => (sf_box ((h3 x hx).1 g h0 e) hb k hp).2, fun g h0 e => (sf_box ((h3 x hx).2 g h0 e) hb k hp).2⟩⟩, fun g e => (h.ty g e).kp k (a1 g e)⟩
theorem plc_of {es : List It} (hs : Srt es) {key : List UInt8} {j : Nat} (hj : j ≤ es.length) (lo : ∀ (k : Nat) (y : It), k < j → es[k]? = some y → cmpB y.k key < 0) (hi : ∀ y, es[j]? = some y → 0 ≤ cmpB y.k key) :
    ix es key = j ∧ (fd es key = true ↔ ∃ y, es[j]? = some y ∧ cmpB y.k key = 0) := by
  have p := plc_ix hs key
  have e : ix es key = j := by
    rcases Nat.lt_trichotomy (ix es key) j with h | h | h
    · have hy : es[ix es key]? = some (es[ix es key]'(by omega)) := List.getElem?_eq_getElem _
      have h1 := lo _ _ h hy
      have h2 := p.hi _ _ (Nat.le_refl _) hy
      omega
    · exact h
    · have h0 := p.le
      have hy : es[j]? = some (es[j]'(by omega)) := List.getElem?_eq_getElem _
      have h1 := hi _ hy
      have h2 := p.lo _ _ h hy
      omega
  refine ⟨e, ?_⟩
  rw [p.fd, e]
  constructor
  · rintro ⟨y, hy, hk⟩; exact ⟨y, hy, by rw [hk, cmpB_self]⟩
  · rintro ⟨y, hy, hk⟩; exact ⟨y, hy, cmpB_eq.1 hk⟩
end Go.Proofs.YtphiblmkgbkdmaaDoor.Pg
