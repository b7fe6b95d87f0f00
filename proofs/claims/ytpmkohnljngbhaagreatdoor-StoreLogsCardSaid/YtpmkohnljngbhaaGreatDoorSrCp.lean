/- Walk: Checkpoint. -/
import Derived.Test.YtpmkohnljngbhaaGreatDoorSrL3
import Derived.Test.YtpmkohnljngbhaaGreatDoorPgRz
import Derived.Test.YtpmkohnljngbhaaGreatDoorPgLc
namespace Go.Proofs.YtpmkohnljngbhaaGreatDoor.Sr
set_option linter.unusedVariables false
set_option linter.unusedSimpArgs false
set_option maxRecDepth 1000000
open Go.RowKit Wl Pg

theorem bytes_ne {u : World} {q T : Nat} {a b d : Value} {A : Option Addr} {n c : Nat} {l : List UInt8} (hq : u.heap[q]? = some (.cells #[a, b, d] T (0, 0)))
    (ha : ∀ x, a ≠ .int .u8 x) (hb : ∀ x, b ≠ .int .u8 x) (hd : ∀ x, d ≠ .int .u8 x) (h : Rd u 1 A n c (bv l)) (h0 : 0 < n) : blk A ≠ some q := by
  intro e
  obtain ⟨g, o, rfl, hg, hc⟩ := h.at_ h0
  obtain rfl : g = q := by simpa [blk] using e
  have h1 := hc 0 (by omega)
  have hl : 0 < l.length := by have := h.len; rw [bv_len] at this; omega
  have h2 : (bv l)[0]? = some (.int .u8 ((l[0]'hl).toNat : Int)) := by simp [bv, hl]
  rw [h2] at h1
  unfold World.cell? at h1
  rw [hq] at h1
  rcases o with _ | _ | _ | o
  · simp at h1; exact ha _ h1
  · simp at h1; exact hb _ h1
  · simp at h1; exact hd _ h1
  · simp at h1
theorem bx3_set {W : World} {R : Nat} {l : List Value} (h : Bx W R l) (hl : l.length = 3) (a b c : Value) : Bx (((W.setCell ⟨R, 0, none⟩ a).setCell ⟨R, 1, none⟩ b).setCell ⟨R, 2, none⟩ c) R [a, b, c] := by
  obtain ⟨l0, l1, l2, rfl⟩ : ∃ l0 l1 l2, l = [l0, l1, l2] := by
    match l, hl with
    | [l0, l1, l2], _ => exact ⟨_, _, _, rfl⟩
  exact ((h.set (j := 0) (by simp) a).set (j := 1) (by simp) b).set (j := 2) (by simp) c
theorem bx3_other {W : World} {R p : Nat} {l : List Value} {a b c : Value} (h : Bx W p l) (hx : R ≠ p) : Bx (((W.setCell ⟨R, 0, none⟩ a).setCell ⟨R, 1, none⟩ b).setCell ⟨R, 2, none⟩ c) p l :=
  ((h.other hx 0 a).other hx 1 b).other hx 2 c
theorem ty3_set {W : World} {R p T : Nat} {a b c : Value} (h : Ty W p T) : Ty (((W.setCell ⟨R, 0, none⟩ a).setCell ⟨R, 1, none⟩ b).setCell ⟨R, 2, none⟩ c) p T := ((h.set R 0 a).set R 1 b).set R 2 c
theorem rd3_set {W : World} {R s n c : Nat} {A : Option Addr} {xs : List Value} {a b d : Value} (h : Rd W s A n c xs) (hx : 0 < n → blk A ≠ some R) : Rd (((W.setCell ⟨R, 0, none⟩ a).setCell ⟨R, 1, none⟩ b).setCell ⟨R, 2, none⟩ d) s A n c xs :=
  Rd.set (Rd.set (Rd.set h ⟨R, 0, none⟩ a hx) ⟨R, 1, none⟩ b hx) ⟨R, 2, none⟩ d hx
def Ne (q : Nat) (x : CV) : Prop := (0 < x.k.length → blk x.A ≠ some q) ∧ (0 < x.v.length → blk x.B ≠ some q)
theorem cr3_set {W : World} {R n c : Nat} {A : Option Addr} {l : List CV} {a b d : Value} (h : Cr W A n c l) (hx : 0 < n → blk A ≠ some R) (hl : ∀ x ∈ l, Ne R x) : Cr (((W.setCell ⟨R, 0, none⟩ a).setCell ⟨R, 1, none⟩ b).setCell ⟨R, 2, none⟩ d) A n c l :=
  ⟨rd3_set h.row hx, fun x hx => ⟨rd3_set (h.dat x hx).k (hl x hx).1, rd3_set (h.dat x hx).v (hl x hx).2⟩⟩
/-- One cell of a box is laid anew. -/
theorem flt_set1 {W : World} {f : FV} {R i T : Nat} {v : Value} (h : FlT W f) (hR : Ty W R T) (n1 : 30 ≠ T) (n2 : 5 ≠ T) (n3 : 3 ≠ T) : FlT (W.setCell ⟨R, i, none⟩ v) f := by
  have k1 : Kp W (W.setCell ⟨R, i, none⟩ v) (· = R) := Kp.of_set W ⟨R, i, none⟩ _ rfl
  exact ⟨⟨⟨Rd.kp h.fl.pg.row k1 fun g _ e => ty_ne (h.pa g e) hR n1, fun x hx => Rd.kp (h.fl.pg.dat x hx) k1 fun g h0 e => ty_ne (h.da x hx g e) hR n2⟩, Rd.kp h.fl.fr k1 fun g h0 e => ty_ne (h.fa g h0 e) hR n3⟩,
    fun g e => (h.pa g e).set R i v, fun x hx g e => (h.da x hx g e).set R i v, fun g h0 e => (h.fa g h0 e).set R i v⟩
theorem flt_set5 {W : World} {f : FV} {R : Nat} {a b c d e : Value} (h : FlT W f) (hR : Ty W R 32) : FlT (((((W.setCell ⟨R, 0, none⟩ a).setCell ⟨R, 1, none⟩ b).setCell ⟨R, 2, none⟩ c).setCell ⟨R, 3, none⟩ d).setCell ⟨R, 4, none⟩ e) f := by
  have h1 := flt_set1 (i := 0) (v := a) h hR (by decide) (by decide) (by decide)
  have h2 := flt_set1 (i := 1) (v := b) h1 (hR.set R 0 a) (by decide) (by decide) (by decide)
  have h3 := flt_set1 (i := 2) (v := c) h2 ((hR.set R 0 a).set R 1 b) (by decide) (by decide) (by decide)
  have h4 := flt_set1 (i := 3) (v := d) h3 (((hR.set R 0 a).set R 1 b).set R 2 c) (by decide) (by decide) (by decide)
  exact flt_set1 (i := 4) (v := e) h4 ((((hR.set R 0 a).set R 1 b).set R 2 c).set R 3 d) (by decide) (by decide) (by decide)
theorem flt_nx {w w' : World} {f : FV} (h : FlT w f) (b : Below w.heap.size w w') : FlT w' f := ⟨h.fl.below b, fun g e => (h.pa g e).step b, fun x hx g e => (h.da x hx g e).step b, fun g h0 e => (h.fa g h0 e).step b⟩
theorem gok_fent {F : Fi} {es : List It} {j : Nat} (h : Gok F es j) : Fent F (lkp es) := by
  obtain ⟨ps, h1, _⟩ := h.ok
  obtain ⟨s, hs, he, _⟩ := h1.rok
  exact ⟨h1.shp, s, hs, by rw [he]⟩
theorem step_put {B : Ent} {c : Ch} (h : c.del = false) : step B c = fun k2 => if c.k = k2 then some c.v else B k2 := by
  funext k2; unfold step; rw [h]; simp
theorem step_del {B : Ent} {c : Ch} (h : c.del = true) : step B c = fun k2 => if c.k = k2 then none else B k2 := by
  funext k2; unfold step; rw [h]; simp
theorem cp_put {F G : Fi} {es : List It} {j : Nat} {c : Ch} {er : Int} (h : Gok F es j) (hj : j ≤ 71) (hc : c.ok = true) (hd : c.del = false) (ho : PutO F c.k c.v G er) : er = 0 ∧ ∃ es', Gok G es' (j + 1) ∧ lkp es' = step (lkp es) c := by
  have hk := ok_iff.1 hc
  obtain ⟨a, b⟩ := put_gok h (by omega) ⟨hk.1.1, hk.1.2, hk.2.1⟩ ho
  exact ⟨a, _, b, by rw [step_put hd]; funext k2; exact lkp_put h.srt _ _ _⟩
theorem cp_del {F G : Fi} {es : List It} {j : Nat} {c : Ch} {er : Int} (h : Gok F es j) (hj : j ≤ 71) (hc : c.ok = true) (hd : c.del = true) (ho : DelO F c.k G er) :
    (er = 7 ∧ Gok F es (j + 1) ∧ lkp es = step (lkp es) c) ∨ (er = 0 ∧ ∃ es', Gok G es' (j + 1) ∧ lkp es' = step (lkp es) c) := by
  have hk := ok_iff.1 hc
  rcases del_gok h (by omega) ⟨hk.1.1, hk.1.2⟩ ho with ⟨a, _, b⟩ | ⟨_, a, b⟩
  · refine .inl ⟨b, h.same, ?_⟩
    rw [step_del hd]; funext k2
    split
    · rename_i e; rw [← e]; exact a
    · rfl
  · exact .inr ⟨a, _, b, by rw [step_del hd]; funext k2; exact lkp_del h.srt _ _⟩
theorem rcl_gok {F G : Fi} {es : List It} {j : Nat} (h : Gok F es j) (r : Rcl F G) : Gok G es j ∧ ∃ ps, Fok G ps es ∧ G.free.length + ps.length = G.pg.length := by
  obtain ⟨ps, h1, h2⟩ := h.ok
  have hg := (rcl_fok h1 r).1
  refine ⟨⟨⟨ps, hg, by rw [r.pg]; exact h2⟩, h.n⟩, ps, hg, ?_⟩
  obtain ⟨s, hs, he, hp⟩ := h1.rok
  have ri := hs.items h1.shp.p256
  rw [r.fr s hs, r.pg]
  unfold nat_int
  rw [List.length_map, ← hp.length_eq]
  exact gk_out_len ri.nd ri.lt
/-- What Checkpoint answers. -/
def CpPost (w : World) (B : Ent) (J : Nat) (last : Int) (e : Ending) (w' : World) : Prop :=
  ∃ (g : FV) (es : List It) (GA HA : Option Addr) (gn gc hn hc : Nat) (gr : Int), e = .returned (.tuple #[.agg #[.slice GA gn gc, .int .i64 gr, .slice HA hn hc, .slice none 0 0, .int .i64 last], .int .i64 0]) ∧
    Hid (Stt w' g B (last + 1) [] GA gn gc gr HA hn hc none 0 0 last) ∧ Hid (FlT w' g) ∧ Hid (Gok g.f es J ∧ B = lkp es ∧ ∃ ps, Fok g.f ps es ∧ g.f.free.length + ps.length = g.f.pg.length) ∧ Below w.heap.size w w'
theorem cs_ex (g : FV) : ∃ (GA HA : Option Addr) (gn gc hn hc : Nat) (gr : Int), CsOf g GA gn gc gr HA hn hc ∧ g.val = .agg #[.slice GA gn gc, .int .i64 gr, .slice HA hn hc] :=
  ⟨_, _, _, _, _, _, _, cs_of g, cs_val (cs_of g)⟩
set_option maxHeartbeats 6400000 in
theorem sCp_ok {f : FV} {b : Ent} {t0 : Int} {Ts : List (List Ch)} {PA FA LA : Option Addr} {np pc m fc ln lc J : Nat} {r0 last : Int} {es0 : List It} (w : World) (G : Hid (Gl w)) (H : Hid (Stt w f b t0 Ts PA np pc r0 FA m fc LA ln lc last))
    (GK : Hid (Gok f.f es0 J)) (HB : Hid (b = lkp es0)) (hJ : J + Ts.flatten.length ≤ 72) (hla : last ≤ 900) :
    Calls Tryz.prog 10 #[.agg #[.slice PA np pc, .int .i64 r0, .slice FA m fc, .slice LA ln lc, .int .i64 last]] w (CpPost w (app b Ts.flatten) (J + Ts.flatten.length) last) := by
  obtain ⟨p, hp⟩ : ∃ p, w.heap.size = p := ⟨_, rfl⟩
  obtain ⟨W1, hW1⟩ : ∃ W1, w.alloc (.cells #[.slice PA np pc, .int .i64 r0, .slice FA m fc, .slice LA ln lc, .int .i64 last] 32) = W1 := ⟨_, rfl⟩
  have bw : Below w.heap.size w W1 := hW1 ▸ bal _ _
  have X : Hid (Bx W1 p [.slice PA np pc, .int .i64 r0, .slice FA m fc, .slice LA ln lc, .int .i64 last]) := hW1 ▸ Lib.hid (Bx.put _ hp #[.slice PA np pc, .int .i64 r0, .slice FA m fc, .slice LA ln lc, .int .i64 last] 32)
  have TX : Hid (Ty W1 p 32) := hW1 ▸ hp ▸ Lib.hid (Ty.new _ _ _)
  have HW1 := Lib.hid hW1
  clear hW1
  obtain ⟨R, hR⟩ : ∃ R, W1.heap.size = R := ⟨_, rfl⟩
  obtain ⟨W2, hW2⟩ : ∃ W2, W1.alloc (.cells #[.slice none 0 0, .int .i64 0, .slice none 0 0, .slice none 0 0, .int .i64 0] 32) = W2 := ⟨_, rfl⟩
  have v2 : Below W1.heap.size W1 W2 := hW2 ▸ bal _ _
  have Y : Hid (Bx W2 R [.slice none 0 0, .int .i64 0, .slice none 0 0, .slice none 0 0, .int .i64 0]) := hW2 ▸ Lib.hid (Bx.put _ hR #[.slice none 0 0, .int .i64 0, .slice none 0 0, .slice none 0 0, .int .i64 0] 32)
  have TY : Hid (Ty W2 R 32) := hW2 ▸ hR ▸ Lib.hid (Ty.new _ _ _)
  have HW2 := Lib.hid hW2
  clear hW2
  have hR' : w.heap.size ≤ R := by rw [← hR]; exact bw.size
  have eR : R = p + 1 := by rw [← hR, ← HW1.out, ← hp]; simp
  subst eR
  have X := Lib.hid (X.out.nx v2)
  have bw := bw.trans (v2.mono bw.size)
  have H2 := Lib.hid (H.out.nx bw)
  have VA := Lib.hid (Stt.valid H2 (Lib.hid (G.out.nx bw)))
  have x0 := X.out.at_ 0 (by simp)
  have x1 := X.out.at_ 1 (by simp)
  have x2 := X.out.at_ 2 (by simp)
  have x3 := X.out.at_ 3 (by simp)
  have x4 := X.out.at_ 4 (by simp)
  simp only [List.getElem?_cons_succ, List.getElem?_cons_zero] at x0 x1 x2 x3 x4
  go_enter Tryz.func10, Tryz.ntmps10
  go_upto_region 1 with fail
  rw [HW1.out, HW2.out]
  go_wp2_with fail
  go_at_call 13
  refine VA.out.mono ?_
  rintro e w3 ⟨rfl, b3⟩
  clear VA x0 x1 x2 x3 x4
  replace bw := bw.trans (b3.mono bw.size)
  replace X := Lib.hid (X.out.nx b3)
  replace Y := Lib.hid (Y.out.nx b3)
  replace TY := Lib.hid (TY.out.nx b3)
  replace H2 := Lib.hid (H2.out.nx b3)
  have x0 := X.out.at_ 0 (by simp)
  have x1 := X.out.at_ 1 (by simp)
  have x2 := X.out.at_ 2 (by simp)
  have x3 := X.out.at_ 3 (by simp)
  have x4 := X.out.at_ 4 (by simp)
  simp only [List.getElem?_cons_succ, List.getElem?_cons_zero] at x0 x1 x2 x3 x4
  have yl := Y.out.lt
  have wl := bw.size
  obtain ⟨q, hq⟩ : ∃ q, w3.heap.size = q := ⟨_, rfl⟩
  obtain ⟨W4, hW4⟩ : ∃ W4, w3.alloc (.cells #[.slice PA np pc, .int .i64 r0, .slice FA m fc] 29) = W4 := ⟨_, rfl⟩
  have b4 : Below w3.heap.size w3 W4 := hW4 ▸ bal _ _
  have Q : Hid (Bx W4 q [.slice PA np pc, .int .i64 r0, .slice FA m fc]) := hW4 ▸ Lib.hid (Bx.put _ hq #[.slice PA np pc, .int .i64 r0, .slice FA m fc] 29)
  have TQ : Hid (Ty W4 q 29) := hW4 ▸ hq ▸ Lib.hid (Ty.new _ _ _)
  have HW4 := Lib.hid hW4
  clear hW4
  replace bw := bw.trans (b4.mono bw.size)
  replace X := Lib.hid (X.out.nx b4)
  replace Y := Lib.hid (Y.out.nx b4)
  replace TY := Lib.hid (TY.out.nx b4)
  replace H2 := Lib.hid (H2.out.nx b4)
  have HQ : Hid (W4.heap[q]? = some (.cells #[.slice PA np pc, .int .i64 r0, .slice FA m fc] 29 (0, 0))) := Lib.hid (by rw [← HW4.out, ← hq, heap_alloc_new])
  have lq := Q.out.lt
  have hwq : w.heap.size ≤ q := by omega
  have hpq : p + 1 < q := by omega
  have CH := Lib.hid (changes_any (last := last) W4 (Lib.hid H2.out.st) H2.out.l0.1 (by have := H2.out.l0.2; omega) (Lib.hid H2.out.tr))
  go_upto_region 4 with fail
  rw [HW4.out]
  clear x0 x1 x2 x3 x4
  have x0 := X.out.at_ 0 (by simp)
  have x1 := X.out.at_ 1 (by simp)
  have x2 := X.out.at_ 2 (by simp)
  have x3 := X.out.at_ 3 (by simp)
  have x4 := X.out.at_ 4 (by simp)
  simp only [List.getElem?_cons_succ, List.getElem?_cons_zero] at x0 x1 x2 x3 x4
  go_wp2_with fail
  go_at_call 33
  refine CH.out.mono ?_
  rintro e w5 ⟨A, n, c, l, rfl, hl, co, hn, b5, u, u1, u2, hown⟩
  have HU : u.heap[q]? = some (.cells #[.slice PA np pc, .int .i64 r0, .slice FA m fc] 29 (0, 0)) := (u1.block q lq).trans HQ.out
  have NE : Hid (∀ x ∈ l, Ne q x) := Lib.hid fun x hx =>
    ⟨bytes_ne HU (fun _ h => by cases h) (fun _ h => by cases h) (fun _ h => by cases h) (hown.out.2 x hx).k, bytes_ne HU (fun _ h => by cases h) (fun _ h => by cases h) (fun _ h => by cases h) (hown.out.2 x hx).v⟩
  have NR : Hid (0 < n → blk A ≠ some q) := Lib.hid fun _ e => by have := (own_blk_le co.out.own e).1; omega
  have okL : Hid (∀ x ∈ l, x.ch.ok = true) := Lib.hid (flat_ok H2.out.tr hl.out)
  have NL : Hid (l.length = n) := Lib.hid co.out.len.symm
  have LT : Hid (Ts.flatten.length = n) := Lib.hid (by rw [← hl.out, List.length_map]; exact NL.out)
  have C5 := Lib.hid co.out.cr
  have nJ : J + n ≤ 72 := by rw [← LT.out]; exact hJ
  clear CH HU hown u1 u2 co x0 x1 x2 x3 x4
  replace bw := bw.trans (b5.mono bw.size)
  replace X := Lib.hid (X.out.nx b5)
  replace Y := Lib.hid (Y.out.nx b5)
  replace TY := Lib.hid (TY.out.nx b5)
  replace Q := Lib.hid (Q.out.nx b5)
  replace TQ := Lib.hid (TQ.out.nx b5)
  replace H2 := Lib.hid (H2.out.nx b5)
  have E0 : Hid (Gok f.f es0 (J + 0) ∧ lkp es0 = app b ((l.take 0).map CV.ch)) := Lib.hid ⟨GK.out, HB.out.symm⟩
  have l0' := H2.out.l0
  have ht1 := H2.out.t1
  go_wp2_with fail
  go_loopw [19] (fun iv wr => ∃ (i : Nat) (g : FV) (es : List It) (GA HA : Option Addr) (gn gc hn hc : Nat) (gr : Int), i ≤ n ∧ iv = .int .i64 i ∧ Hid (Bx wr q [.slice GA gn gc, .int .i64 gr, .slice HA hn hc]) ∧ Hid (Ty wr q 29) ∧ CsOf g GA gn gc gr HA hn hc ∧ Hid (Fl wr g) ∧
    Hid (Gok g.f es (J + i) ∧ lkp es = app b ((l.take i).map CV.ch)) ∧ Hid (Cr wr A n c l) ∧ Hid (Bx wr p [.slice PA np pc, .int .i64 r0, .slice FA m fc, .slice LA ln lc, .int .i64 last]) ∧ Hid (Bx wr (p + 1) [.slice none 0 0, .int .i64 0, .slice none 0 0, .slice none 0 0, .int .i64 0]) ∧ Hid (Ty wr (p + 1) 32) ∧ Below w.heap.size w wr) (fun iv _ => (n - intOf iv).toNat)
  case atStart => exact ⟨0, f, es0, PA, FA, np, pc, m, fc, r0, by omega, rfl, Q, TQ, H2.out.st.cs, Lib.hid H2.out.st.fl, E0, C5, X, Y, TY, bw⟩
  case round =>
    obtain ⟨i, g, es, GA, HA, gn, gc, hn', hc, gr, hi, rfl, Q6, TQ6, CSG, FL6, GE, C6, X6, Y6, TY6, bw6⟩ := hrel
    clear X Y TY Q TQ H2 C5 E0
    by_cases hlt : i < n
    · have d1 : decide ((i : Int) < (n : Int)) = true := decide_eq_true (by omega)
      obtain ⟨g', o', y, rfl, hg', hy, a0, a1, a2⟩ := C6.out.item hlt
      have OKY := Lib.hid (okL.out y (List.mem_of_getElem? hy))
      have OKI := Lib.hid (ok_iff.1 OKY.out)
      have DY := Lib.hid (C6.out.dat y (List.mem_of_getElem? hy))
      have TK : Hid ((l.take (i + 1)).map CV.ch = (l.take i).map CV.ch ++ [y.ch]) := Lib.hid (by rw [List.take_add_one, hy]; simp)
      obtain ⟨kn, hkn⟩ : ∃ kn, y.k.length = kn := ⟨_, rfl⟩
      obtain ⟨vn, hvn⟩ : ∃ vn, y.v.length = vn := ⟨_, rfl⟩
      rw [hkn] at a0
      rw [hvn] at a1
      have HKN := Lib.hid hkn.symm
      have HVN := Lib.hid hvn.symm
      clear hy hkn hvn
      obtain ⟨q6, hq6⟩ : ∃ q6, wr.heap.size = q6 := ⟨_, rfl⟩
      obtain ⟨W6, hW6⟩ : ∃ W6, wr.alloc (.cells #[.slice y.A kn y.c, .slice y.B vn y.d, .bool y.del] 52) = W6 := ⟨_, rfl⟩
      have v6 : Below wr.heap.size wr W6 := hW6 ▸ bal _ _
      have V : Hid (Bx W6 q6 [.slice y.A kn y.c, .slice y.B vn y.d, .bool y.del]) := hW6 ▸ Lib.hid (Bx.put _ hq6 #[.slice y.A kn y.c, .slice y.B vn y.d, .bool y.del] 52)
      have TV : Hid (Ty W6 q6 52) := hW6 ▸ hq6 ▸ Lib.hid (Ty.new _ _ _)
      have HW6 := Lib.hid hW6
      clear hW6
      obtain ⟨q8, hq8⟩ : ∃ q8, W6.heap.size = q8 := ⟨_, rfl⟩
      obtain ⟨W8, hW8⟩ : ∃ W8, W6.alloc (.cells #[.slice none 0 0, .int .i64 0, .slice none 0 0] 29) = W8 := ⟨_, rfl⟩
      have v8 : Below W6.heap.size W6 W8 := hW8 ▸ bal _ _
      have T : Hid (Bx W8 q8 [.slice none 0 0, .int .i64 0, .slice none 0 0]) := hW8 ▸ Lib.hid (Bx.put _ hq8 #[.slice none 0 0, .int .i64 0, .slice none 0 0] 29)
      have TT : Hid (Ty W8 q8 29) := hW8 ▸ hq8 ▸ Lib.hid (Ty.new _ _ _)
      have HW8 := Lib.hid hW8
      clear hW8
      have v68 := v6.trans (v8.mono v6.size)
      have V8 := Lib.hid (V.out.nx v8)
      have Q8 := Lib.hid (Q6.out.nx v68)
      have bw8 := bw6.trans (v68.mono bw6.size)
      have G8 := Lib.hid (G.out.nx bw8)
      have FL8 := Lib.hid (FL6.out.nx v68)
      have K8 : Hid (Rd W8 1 y.A kn y.c (bv y.k)) := Lib.hid (by rw [HKN.out]; exact (DY.out.nx v68).k)
      have P8 : Hid (Rd W8 1 y.B vn y.d (bv y.v)) := Lib.hid (by rw [HVN.out]; exact (DY.out.nx v68).v)
      have hq8 : wr.heap.size ≤ q8 := by have := v6.size; omega
      have hqq : q < q8 := by have := Q6.out.lt; omega
      go_upto_region 7 with fail
      rw [HW6.out]
      go_upto_region 9 with fail
      rw [HW8.out]
      clear a0 a1 a2
      have v0 := V8.out.at_ 0 (by simp)
      have v1 := V8.out.at_ 1 (by simp)
      have v2 := V8.out.at_ 2 (by simp)
      simp only [List.getElem?_cons_succ, List.getElem?_cons_zero] at v0 v1 v2
      have z0 := Q8.out.at_ 0 (by simp)
      have z1 := Q8.out.at_ 1 (by simp)
      have z2 := Q8.out.at_ 2 (by simp)
      simp only [List.getElem?_cons_succ, List.getElem?_cons_zero] at z0 z1 z2
      cases hdel : y.del with
      | true =>
        rw [hdel] at v2
        have HDEL : Hid (y.ch.del = true) := Lib.hid hdel
        have DL := Lib.hid (Delete_cs CSG W8 G8 FL8 K8)
        clear hdel
        go_wp2_with fail
        go_at_call 34
        refine DL.out.mono ?_
        rintro e w9 ⟨g2, er, hO, rfl, F9, b9⟩
        obtain ⟨GA2, HA2, gn2, gc2, hn2, hc2, gr2, CS2, hval⟩ := cs_ex g2
        rw [hval]
        have v9 := v68.trans (b9.mono v68.size)
        rcases cp_del GE.out.1 (by omega) OKY.out HDEL.out hO with ⟨rfl, hG2, hL2⟩ | ⟨rfl, es2, hG2, hL2⟩
        · have GE2 : Hid (Gok g.f es (J + (i + 1)) ∧ lkp es = app b ((l.take (i + 1)).map CV.ch)) := Lib.hid ⟨by rw [← Nat.add_assoc]; exact hG2, by rw [TK.out, app_snoc, ← GE.out.2]; exact hL2⟩
          clear hG2 hL2 hO hval DL v0 v1 v2 z0 z1 z2
          have T9 := Lib.hid (T.out.nx b9)
          have t0 := T9.out.at_ 0 (by simp)
          have t1 := T9.out.at_ 1 (by simp)
          have t2 := T9.out.at_ 2 (by simp)
          simp only [List.getElem?_cons_succ, List.getElem?_cons_zero] at t0 t1 t2
          have f0 := T9.out.fz 0 (by simp)
          have f1 := T9.out.fz 1 (by simp)
          have f2 := T9.out.fz 2 (by simp)
          have b10 : Below wr.heap.size wr (((w9.setCell ⟨q8, 0, none⟩ (.slice GA2 gn2 gc2)).setCell ⟨q8, 1, none⟩ (.int .i64 gr2)).setCell ⟨q8, 2, none⟩ (.slice HA2 hn2 hc2)) := res_below v9 hq8
          go_wp2_with fail
          go_roundw
          case rel => exact ⟨i + 1, g, es, GA, HA, gn, gc, hn', hc, gr, by omega, by go_num, Lib.hid (Q6.out.nx b10), Lib.hid (TQ6.out.nx b10), CSG, Lib.hid (FL6.out.nx b10), GE2, Lib.hid (C6.out.nx b10), Lib.hid (X6.out.nx b10), Lib.hid (Y6.out.nx b10), Lib.hid (TY6.out.nx b10), bw6.trans (b10.mono bw6.size)⟩
          case measure => simp [intOf]; omega
        · skip
          have GE2 : Hid (Gok g2.f es2 (J + (i + 1)) ∧ lkp es2 = app b ((l.take (i + 1)).map CV.ch)) := Lib.hid ⟨by rw [← Nat.add_assoc]; exact hG2, by rw [TK.out, app_snoc, ← GE.out.2]; exact hL2⟩
          clear hG2 hL2 hO hval v0 v1 v2 z0 z1 z2
          have T9 := Lib.hid (T.out.nx b9)
          have TT9 := Lib.hid (TT.out.nx b9)
          have F10 := Lib.hid (fl_res (a := .slice GA2 gn2 gc2) (b := .int .i64 gr2) (c := .slice HA2 hn2 hc2) F9.out TT9.out)
          have T10 := Lib.hid (bx3_set T9.out rfl (.slice GA2 gn2 gc2) (.int .i64 gr2) (.slice HA2 hn2 hc2))
          have b10 := res_below (R := q8) (a := .slice GA2 gn2 gc2) (b := .int .i64 gr2) (c := .slice HA2 hn2 hc2) v9 hq8
          have t0 := T9.out.at_ 0 (by simp)
          have t1 := T9.out.at_ 1 (by simp)
          have t2 := T9.out.at_ 2 (by simp)
          simp only [List.getElem?_cons_succ, List.getElem?_cons_zero] at t0 t1 t2
          have f0 := T9.out.fz 0 (by simp)
          have f1 := T9.out.fz 1 (by simp)
          have f2 := T9.out.fz 2 (by simp)
          go_upto_region 11 with fail
          obtain ⟨W10, hW10⟩ : ∃ u, (((w9.setCell ⟨q8, 0, none⟩ (.slice GA2 gn2 gc2)).setCell ⟨q8, 1, none⟩ (.int .i64 gr2)).setCell ⟨q8, 2, none⟩ (.slice HA2 hn2 hc2)) = u := ⟨_, rfl⟩
          rw [hW10] at F10 T10 b10 ⊢
          clear hW10 t0 t1 t2 f0 f1 f2
          have Q10 := Lib.hid (Q6.out.nx b10)
          have TQ10 := Lib.hid (TQ6.out.nx b10)
          have X10 := Lib.hid (X6.out.nx b10)
          have Y10 := Lib.hid (Y6.out.nx b10)
          have TY10 := Lib.hid (TY6.out.nx b10)
          have C10 := Lib.hid (C6.out.nx b10)
          have bw10 := bw6.trans (b10.mono bw6.size)
          have F11 := Lib.hid (fl_res (a := .slice GA2 gn2 gc2) (b := .int .i64 gr2) (c := .slice HA2 hn2 hc2) F10.out TQ10.out)
          have Q11 := Lib.hid (bx3_set Q10.out rfl (.slice GA2 gn2 gc2) (.int .i64 gr2) (.slice HA2 hn2 hc2))
          have TQ11 := Lib.hid (ty3_set (R := q) (a := .slice GA2 gn2 gc2) (b := .int .i64 gr2) (c := .slice HA2 hn2 hc2) TQ10.out)
          have X11 := Lib.hid (bx3_other (a := .slice GA2 gn2 gc2) (b := .int .i64 gr2) (c := .slice HA2 hn2 hc2) X10.out (show q ≠ p by omega))
          have Y11 := Lib.hid (bx3_other (a := .slice GA2 gn2 gc2) (b := .int .i64 gr2) (c := .slice HA2 hn2 hc2) Y10.out (show q ≠ p + 1 by omega))
          have TY11 := Lib.hid (ty3_set (R := q) (a := .slice GA2 gn2 gc2) (b := .int .i64 gr2) (c := .slice HA2 hn2 hc2) TY10.out)
          have C11 := Lib.hid (cr3_set (a := .slice GA2 gn2 gc2) (b := .int .i64 gr2) (d := .slice HA2 hn2 hc2) C10.out NR.out NE.out)
          have bw11 := res_below (R := q) (a := .slice GA2 gn2 gc2) (b := .int .i64 gr2) (c := .slice HA2 hn2 hc2) bw10 hwq
          have t0 := T10.out.at_ 0 (by simp)
          have t1 := T10.out.at_ 1 (by simp)
          have t2 := T10.out.at_ 2 (by simp)
          simp only [List.getElem?_cons_succ, List.getElem?_cons_zero] at t0 t1 t2
          have z0 := Q10.out.at_ 0 (by simp)
          have z1 := Q10.out.at_ 1 (by simp)
          have z2 := Q10.out.at_ 2 (by simp)
          simp only [List.getElem?_cons_succ, List.getElem?_cons_zero] at z0 z1 z2
          have f0 := Q10.out.fz 0 (by simp)
          have f1 := Q10.out.fz 1 (by simp)
          have f2 := Q10.out.fz 2 (by simp)
          go_wp2_with fail
          go_roundw
          case rel => exact ⟨i + 1, g2, es2, GA2, HA2, gn2, gc2, hn2, hc2, gr2, by omega, by go_num, Q11, TQ11, CS2, Lib.hid F11.out.fl, GE2, C11, X11, Y11, TY11, bw11⟩
          case measure => simp [intOf]; omega
      | false =>
        rw [hdel] at v2
        have HDEL : Hid (y.ch.del = false) := Lib.hid hdel
        have PT := Lib.hid (Put_cs CSG W8 G8 FL8 K8 P8)
        clear hdel
        go_wp2_with fail
        go_at_call 35
        refine PT.out.mono ?_
        rintro e w9 ⟨g2, er, hO, rfl, F9, b9⟩
        obtain ⟨GA2, HA2, gn2, gc2, hn2, hc2, gr2, CS2, hval⟩ := cs_ex g2
        rw [hval]
        have v9 := v68.trans (b9.mono v68.size)
        obtain ⟨rfl, es2, hG2, hL2⟩ := cp_put GE.out.1 (by omega) OKY.out HDEL.out hO
        have GE2 : Hid (Gok g2.f es2 (J + (i + 1)) ∧ lkp es2 = app b ((l.take (i + 1)).map CV.ch)) := Lib.hid ⟨by rw [← Nat.add_assoc]; exact hG2, by rw [TK.out, app_snoc, ← GE.out.2]; exact hL2⟩
        clear hG2 hL2 hO hval v0 v1 v2 z0 z1 z2
        have T9 := Lib.hid (T.out.nx b9)
        have TT9 := Lib.hid (TT.out.nx b9)
        have F10 := Lib.hid (fl_res (a := .slice GA2 gn2 gc2) (b := .int .i64 gr2) (c := .slice HA2 hn2 hc2) F9.out TT9.out)
        have T10 := Lib.hid (bx3_set T9.out rfl (.slice GA2 gn2 gc2) (.int .i64 gr2) (.slice HA2 hn2 hc2))
        have b10 := res_below (R := q8) (a := .slice GA2 gn2 gc2) (b := .int .i64 gr2) (c := .slice HA2 hn2 hc2) v9 hq8
        have t0 := T9.out.at_ 0 (by simp)
        have t1 := T9.out.at_ 1 (by simp)
        have t2 := T9.out.at_ 2 (by simp)
        simp only [List.getElem?_cons_succ, List.getElem?_cons_zero] at t0 t1 t2
        have f0 := T9.out.fz 0 (by simp)
        have f1 := T9.out.fz 1 (by simp)
        have f2 := T9.out.fz 2 (by simp)
        go_upto_region 13 with fail
        obtain ⟨W10, hW10⟩ : ∃ u, (((w9.setCell ⟨q8, 0, none⟩ (.slice GA2 gn2 gc2)).setCell ⟨q8, 1, none⟩ (.int .i64 gr2)).setCell ⟨q8, 2, none⟩ (.slice HA2 hn2 hc2)) = u := ⟨_, rfl⟩
        rw [hW10] at F10 T10 b10 ⊢
        clear hW10 t0 t1 t2 f0 f1 f2
        have Q10 := Lib.hid (Q6.out.nx b10)
        have TQ10 := Lib.hid (TQ6.out.nx b10)
        have X10 := Lib.hid (X6.out.nx b10)
        have Y10 := Lib.hid (Y6.out.nx b10)
        have TY10 := Lib.hid (TY6.out.nx b10)
        have C10 := Lib.hid (C6.out.nx b10)
        have bw10 := bw6.trans (b10.mono bw6.size)
        have F11 := Lib.hid (fl_res (a := .slice GA2 gn2 gc2) (b := .int .i64 gr2) (c := .slice HA2 hn2 hc2) F10.out TQ10.out)
        have Q11 := Lib.hid (bx3_set Q10.out rfl (.slice GA2 gn2 gc2) (.int .i64 gr2) (.slice HA2 hn2 hc2))
        have TQ11 := Lib.hid (ty3_set (R := q) (a := .slice GA2 gn2 gc2) (b := .int .i64 gr2) (c := .slice HA2 hn2 hc2) TQ10.out)
        have X11 := Lib.hid (bx3_other (a := .slice GA2 gn2 gc2) (b := .int .i64 gr2) (c := .slice HA2 hn2 hc2) X10.out (show q ≠ p by omega))
        have Y11 := Lib.hid (bx3_other (a := .slice GA2 gn2 gc2) (b := .int .i64 gr2) (c := .slice HA2 hn2 hc2) Y10.out (show q ≠ p + 1 by omega))
        have TY11 := Lib.hid (ty3_set (R := q) (a := .slice GA2 gn2 gc2) (b := .int .i64 gr2) (c := .slice HA2 hn2 hc2) TY10.out)
        have C11 := Lib.hid (cr3_set (a := .slice GA2 gn2 gc2) (b := .int .i64 gr2) (d := .slice HA2 hn2 hc2) C10.out NR.out NE.out)
        have bw11 := res_below (R := q) (a := .slice GA2 gn2 gc2) (b := .int .i64 gr2) (c := .slice HA2 hn2 hc2) bw10 hwq
        have t0 := T10.out.at_ 0 (by simp)
        have t1 := T10.out.at_ 1 (by simp)
        have t2 := T10.out.at_ 2 (by simp)
        simp only [List.getElem?_cons_succ, List.getElem?_cons_zero] at t0 t1 t2
        have z0 := Q10.out.at_ 0 (by simp)
        have z1 := Q10.out.at_ 1 (by simp)
        have z2 := Q10.out.at_ 2 (by simp)
        simp only [List.getElem?_cons_succ, List.getElem?_cons_zero] at z0 z1 z2
        have f0 := Q10.out.fz 0 (by simp)
        have f1 := Q10.out.fz 1 (by simp)
        have f2 := Q10.out.fz 2 (by simp)
        go_wp2_with fail
        go_roundw
        case rel => exact ⟨i + 1, g2, es2, GA2, HA2, gn2, gc2, hn2, hc2, gr2, by omega, by go_num, Q11, TQ11, CS2, Lib.hid F11.out.fl, GE2, C11, X11, Y11, TY11, bw11⟩
        case measure => simp [intOf]; omega
    · obtain rfl : i = n := by omega
      have d1 : decide ((i : Int) < (i : Int)) = false := decide_eq_false (by omega)
      have VL : Hid (Vld g.f) := Lib.hid GE.out.1.vld
      have RC := Lib.hid (Reclaim_nil CSG wr (Lib.hid (G.out.nx bw6)) FL6 VL)
      have GE2 : Hid (Gok g.f es (J + i) ∧ lkp es = app b Ts.flatten) := Lib.hid ⟨GE.out.1, by rw [GE.out.2, List.take_of_length_le (by have := NL.out; omega), hl.out]⟩
      have z0 := Q6.out.at_ 0 (by simp)
      have z1 := Q6.out.at_ 1 (by simp)
      have z2 := Q6.out.at_ 2 (by simp)
      simp only [List.getElem?_cons_succ, List.getElem?_cons_zero] at z0 z1 z2
      go_wp2_with fail
      go_at_call 36
      refine RC.out.mono ?_
      rintro e w9 ⟨g2, rfl, hr, F9, b9⟩
      obtain ⟨GA2, HA2, gn2, gc2, hn2, hc2, gr2, CS2, hval⟩ := cs_ex g2
      rw [hval]
      have RG := Lib.hid (rcl_gok GE2.out.1 hr)
      clear hval hr z0 z1 z2 RC
      have Q9 := Lib.hid (Q6.out.nx b9)
      have TQ9 := Lib.hid (TQ6.out.nx b9)
      have X9 := Lib.hid (X6.out.nx b9)
      have Y9 := Lib.hid (Y6.out.nx b9)
      have TY9 := Lib.hid (TY6.out.nx b9)
      have bw9 := bw6.trans (b9.mono bw6.size)
      have F10 := Lib.hid (fl_res (a := .slice GA2 gn2 gc2) (b := .int .i64 gr2) (c := .slice HA2 hn2 hc2) F9.out TQ9.out)
      have Q10 := Lib.hid (bx3_set Q9.out rfl (.slice GA2 gn2 gc2) (.int .i64 gr2) (.slice HA2 hn2 hc2))
      have X10 := Lib.hid (bx3_other (a := .slice GA2 gn2 gc2) (b := .int .i64 gr2) (c := .slice HA2 hn2 hc2) X9.out (show q ≠ p by omega))
      have Y10 := Lib.hid (bx3_other (a := .slice GA2 gn2 gc2) (b := .int .i64 gr2) (c := .slice HA2 hn2 hc2) Y9.out (show q ≠ p + 1 by omega))
      have TY10 := Lib.hid (ty3_set (R := q) (a := .slice GA2 gn2 gc2) (b := .int .i64 gr2) (c := .slice HA2 hn2 hc2) TY9.out)
      have bw10 := res_below (R := q) (a := .slice GA2 gn2 gc2) (b := .int .i64 gr2) (c := .slice HA2 hn2 hc2) bw9 hwq
      have z0 := Q9.out.at_ 0 (by simp)
      have z1 := Q9.out.at_ 1 (by simp)
      have z2 := Q9.out.at_ 2 (by simp)
      simp only [List.getElem?_cons_succ, List.getElem?_cons_zero] at z0 z1 z2
      have f0 := Q9.out.fz 0 (by simp)
      have f1 := Q9.out.fz 1 (by simp)
      have f2 := Q9.out.fz 2 (by simp)
      go_upto_region 18 with fail
      obtain ⟨W10, hW10⟩ : ∃ u, (((w9.setCell ⟨q, 0, none⟩ (.slice GA2 gn2 gc2)).setCell ⟨q, 1, none⟩ (.int .i64 gr2)).setCell ⟨q, 2, none⟩ (.slice HA2 hn2 hc2)) = u := ⟨_, rfl⟩
      rw [hW10] at F10 Q10 X10 Y10 TY10 bw10 ⊢
      clear hW10 z0 z1 z2 f0 f1 f2
      have F11 := Lib.hid (flt_set5 (a := .slice GA2 gn2 gc2) (b := .int .i64 gr2) (c := .slice HA2 hn2 hc2) (d := .slice none 0 0) (e := .int .i64 last) F10.out TY10.out)
      have R11 := Lib.hid (res5_cells Y10.out rfl (.slice GA2 gn2 gc2) (.int .i64 gr2) (.slice HA2 hn2 hc2) (.slice none 0 0) (.int .i64 last))
      have bF := res5_below (a := .slice GA2 gn2 gc2) (b := .int .i64 gr2) (c := .slice HA2 hn2 hc2) (d := .slice none 0 0) (e := .int .i64 last) bw10 hR'
      have z0 := Q10.out.at_ 0 (by simp)
      have z1 := Q10.out.at_ 1 (by simp)
      have z2 := Q10.out.at_ 2 (by simp)
      simp only [List.getElem?_cons_succ, List.getElem?_cons_zero] at z0 z1 z2
      have x0 := X10.out.at_ 0 (by simp)
      have x1 := X10.out.at_ 1 (by simp)
      have x2 := X10.out.at_ 2 (by simp)
      have x3 := X10.out.at_ 3 (by simp)
      have x4 := X10.out.at_ 4 (by simp)
      simp only [List.getElem?_cons_succ, List.getElem?_cons_zero] at x0 x1 x2 x3 x4
      have y0 := Y10.out.at_ 0 (by simp)
      have y1 := Y10.out.at_ 1 (by simp)
      have y2 := Y10.out.at_ 2 (by simp)
      have y3 := Y10.out.at_ 3 (by simp)
      have y4 := Y10.out.at_ 4 (by simp)
      simp only [List.getElem?_cons_succ, List.getElem?_cons_zero] at y0 y1 y2 y3 y4
      have f0 := Y10.out.fz 0 (by simp)
      have f1 := Y10.out.fz 1 (by simp)
      have f2 := Y10.out.fz 2 (by simp)
      have f3 := Y10.out.fz 3 (by simp)
      have f4 := Y10.out.fz 4 (by simp)
      go_wp2_with fail
      obtain ⟨W11, hW11⟩ : ∃ u, (((((W10.setCell ⟨p + 1, 0, none⟩ (.slice GA2 gn2 gc2)).setCell ⟨p + 1, 1, none⟩ (.int .i64 gr2)).setCell ⟨p + 1, 2, none⟩ (.slice HA2 hn2 hc2)).setCell ⟨p + 1, 3, none⟩ (.slice none 0 0)).setCell ⟨p + 1, 4, none⟩ (.int .i64 last)) = u := ⟨_, rfl⟩
      rw [hW11] at F11 R11 bF ⊢
      have s0 := R11.out.at_ 0 (by simp)
      have s1 := R11.out.at_ 1 (by simp)
      have s2 := R11.out.at_ 2 (by simp)
      have s3 := R11.out.at_ 3 (by simp)
      have s4 := R11.out.at_ 4 (by simp)
      simp only [List.getElem?_cons_succ, List.getElem?_cons_zero] at s0 s1 s2 s3 s4
      refine bodyPost_ret (v := .tuple #[.agg #[.slice GA2 gn2 gc2, .int .i64 gr2, .slice HA2 hn2 hc2, .slice none 0 0, .int .i64 last], .int .i64 0]) (by simp [results, Tryz.results10, go_sem, s0, s1, s2, s3, s4]) rfl ?_
      refine ⟨g2, es, GA2, HA2, gn2, gc2, hn2, hc2, gr2, rfl, Lib.hid ?_, F11, Lib.hid ⟨by rw [LT.out]; exact RG.out.1, GE2.out.2.symm, RG.out.2⟩, bF⟩
      refine ⟨⟨CS2, F11.out.fl, rfl, Rd.nil_ _ _, by omega⟩, ?_, by omega, by omega, by simp, by simp, by simp⟩
      rw [← GE2.out.2]; exact gok_fent RG.out.1
end Go.Proofs.YtpmkohnljngbhaaGreatDoor.Sr
