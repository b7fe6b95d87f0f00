/- The walk of page.decode. -/
import Derived.Test.YtpmkohnljngbhaaGreatDoorPgB3
namespace Go.Proofs.YtpmkohnljngbhaaGreatDoor.Pg
set_option linter.unusedVariables false
set_option linter.unusedSimpArgs false
set_option maxRecDepth 1000000
open Go.RowKit Wl

theorem val4 (l : List UInt8) {x0 x1 x2 x3 : UInt8} (h0 : l[0]? = some x0) (h1 : l[1]? = some x1) (h2 : l[2]? = some x2) (h3 : l[3]? = some x3) :
    val (l.take 4) = ((x0.toNat * 256 + x1.toNat) * 256 + x2.toNat) * 256 + x3.toNat := by
  have e : l.take 4 = [x0, x1, x2, x3] := by
    rw [show (4 : Nat) = 3 + 1 by rfl, List.take_add_one, h3, show (3 : Nat) = 2 + 1 by rfl, List.take_add_one, h2, show (2 : Nat) = 1 + 1 by rfl, List.take_add_one, h1, show (1 : Nat) = 0 + 1 by rfl, List.take_add_one, h0]; rfl
  rw [e]; simp [val]
theorem info_item : (Tryz.prog.info? 96).map (fun i => (i.zero, i.size, i.bytes)) = some (some (.agg #[.slice none 0 0, .slice none 0 0, .int .i64 0]), 3, 56) := by kernel_rfl
theorem eql_nil (W : World) : Sem.run Tryz.prog (binOp BinOp.eql 30 (.slice none 0 0) (.slice none 0 0)) W = .ok (.bool true) W := by
  kernel_rfl
theorem eql_some (a : Addr) (n c : Nat) (W : World) : Sem.run Tryz.prog (binOp BinOp.eql 30 (.slice (some a) n c) (.slice none 0 0)) W = .ok (.bool false) W := by
  kernel_rfl
theorem KB {w w1 w2 : World} {b : Nat} (h : Below w.heap.size w w1) (k : Kp w1 w2 (· = b)) (hb : w.heap.size ≤ b := by omega) : Below w.heap.size w w2 :=
  h.trans (k.low h.size fun i e => by omega)
theorem chain6 {w0 w1 w2 w3 w4 w5 w6 w7 : World} {b X : Nat} (h0 : Kp w0 w1 fun _ => False) (h1 : Kp w1 w2 (· = b)) (h2 : Kp w2 w3 (· = X)) (h3 : Kp w3 w4 (· = b)) (h4 : Kp w4 w5 (· = X)) (h5 : Kp w5 w6 (· = b)) (h6 : Kp w6 w7 (· = X)) (hX : w0.heap.size = X) (hb : b < X) : Kp w0 w7 (· = b) := by
  have f0 : Kp w0 w1 (fun i => i = b ∨ i = X) := h0.mono fun _ _ h => h.elim
  have f1 := f0.trans h1 (fun _ _ h => .inl h)
  have f2 := f1.trans h2 (fun _ _ h => .inr h)
  have f3 := f2.trans h3 (fun _ _ h => .inl h)
  have f4 := f3.trans h4 (fun _ _ h => .inr h)
  have f5 := f4.trans h5 (fun _ _ h => .inl h)
  have f6 := f5.trans h6 (fun _ _ h => .inr h)
  refine f6.mono fun i hi h => ?_
  rcases h with h | h
  · exact h
  · omega
theorem all_nz (r : List UInt8) : r.all (· == 0) = !nz r := by
  unfold nz; induction r with
  | nil => rfl
  | cons x r ih => simp only [List.all_cons, List.any_cons, ih, Bool.not_or]; congr 1; cases h : (x == 0) <;> simp_all
theorem or_i64 (a b : Nat) (ha : a < 256) (hb : b < 256) : bits .or .i64 ((a : Int) * 256) (b : Int) = ((a * 256 + b : Nat) : Int) := by
  have hx : a * 256 ||| b < 2 ^ 16 := Nat.or_lt_two_pow (by omega) (by omega)
  have hj := nat_join 8 (a * 256) b (by omega) (by omega)
  have e1 : (BitVec.ofInt 64 ((a : Int) * 256)).toNat = a * 256 := by rw [show (a : Int) * 256 = ((a * 256 : Nat) : Int) by omega]; exact ofInt_u64 _ (by omega)
  show IntKind.i64.wrap ((BitVec.ofInt 64 ((a : Int) * 256) ||| BitVec.ofInt 64 (b : Int)).toNat : Int) = _
  rw [BitVec.toNat_or, e1, ofInt_u64 b (by omega), hj]
  simp [IntKind.wrap, IntKind.bits, IntKind.signed]
  omega
/-- An item whose bytes lie in block g. -/
structure Kg (w : World) (g : Nat) (x : IV) : Prop where
  k : Rd w 1 x.kA x.k.length x.kc (bv x.k)
  v : Rd w 1 x.vA x.v.length x.vc (bv x.v)
  bk : blk x.kA = some g
  bv : blk x.vA = some g
theorem Kg.kp {w w' : World} {g : Nat} {x : IV} {X : Nat → Prop} (h : Kg w g x) (k : Kp w w' X) (hX : ¬ X g) : Kg w' g x :=
  ⟨Rd.kp h.k k fun q _ e => by rw [h.bk] at e; injection e with e; exact e ▸ hX, Rd.kp h.v k fun q _ e => by rw [h.bv] at e; injection e with e; exact e ▸ hX, h.bk, h.bv⟩
/-- What decode's loop has read. -/
structure Dl (w0 wr : World) (g kd : Nat) (p : List UInt8) (i : Nat) (A : Option Addr) (c' : Nat) (L : List IV) (o' m d : Nat) (r : List UInt8) : Prop where
  box : Bx wr w0.heap.size [.slice (some ⟨g, o', none⟩) m d]
  rd : Rd wr 1 (some ⟨g, o', none⟩) m d (bv r)
  m2 : m ≤ 250
  dn : dn kd i (p.drop 6) = some (its L, r)
  own : wr.ownsRow (w0.heap.size + 1) 96 3 (.slice A i c') i (ic L)
  dat : ∀ x ∈ L, Kg wr g x
  bw : Below w0.heap.size w0 wr
def DecPost (w : World) (g : Nat) (p : List UInt8) (e : Ending) (w' : World) : Prop :=
  ((dec p = none ∧ e = .returned (.tuple #[.int .i64 0, .slice none 0 0, .bool false])) ∨
    ∃ (kd : Nat) (A : Option Addr) (n c' : Nat) (L : List IV), dec p = some (kd, its L) ∧ e = .returned (.tuple #[.int .i64 (kd : Int), .slice A n c', .bool true]) ∧ Hid (w'.ownsRow w.heap.size 96 3 (.slice A n c') n (ic L)) ∧ Hid (∀ x ∈ L, Kg w' g x)) ∧ Below w.heap.size w w'
set_option maxRecDepth 1000000 in
set_option maxHeartbeats 25600000 in
theorem decode_any {g o c : Nat} {p : List UInt8} (w : World) (G : Hid (Gl w)) (h : Hid (Rd w 1 (some ⟨g, o, none⟩) 256 c (bv p))) :
    Calls Tryz.prog 85 #[.slice (some ⟨g, o, none⟩) 256 c] w (DecPost w g p) := by
  have hc := h.out.nc
  have hc2 := h.out.c63
  have hpl := h.out.len
  rw [bv_len] at hpl
  obtain ⟨g', o', x0, e', hg, hx0, c0⟩ := h.out.byte (k := 0) (by omega)
  injection e' with e'; injection e' with e1 e2; subst e1 e2
  obtain ⟨g', o', x1, e', _, hx1, c1⟩ := h.out.byte (k := 1) (by omega)
  injection e' with e'; injection e' with e1 e2; subst e1 e2
  obtain ⟨g', o', x2, e', _, hx2, c2⟩ := h.out.byte (k := 2) (by omega)
  injection e' with e'; injection e' with e1 e2; subst e1 e2
  obtain ⟨g', o', x3, e', _, hx3, c3⟩ := h.out.byte (k := 3) (by omega)
  injection e' with e'; injection e' with e1 e2; subst e1 e2
  obtain ⟨g', o', x4, e', _, hx4, c4⟩ := h.out.byte (k := 4) (by omega)
  injection e' with e'; injection e' with e1 e2; subst e1 e2
  obtain ⟨g', o', x5, e', _, hx5, c5⟩ := h.out.byte (k := 5) (by omega)
  injection e' with e'; injection e' with e1 e2; subst e1 e2
  have HV := val4 p hx0 hx1 hx2 hx3
  have HK : (p.getD 4 0).toNat = x4.toNat := by rw [List.getD_eq_getElem?_getD, hx4]; rfl
  have HN : (p.getD 5 0).toNat = x5.toNat := by rw [List.getD_eq_getElem?_getD, hx5]; rfl
  have hor := or_four x0 x1 x2 x3
  have l4 := x4.toNat_lt
  have l5 := x5.toNat_lt
  rw [Nat.add_zero] at c0
  have l0 := x0.toNat_lt
  have l1 := x1.toNat_lt
  have l2 := x2.toNat_lt
  have l3 := x3.toNat_lt
  obtain ⟨s, hs⟩ : ∃ s, val (p.take 4) = s := ⟨_, rfl⟩
  rw [hs] at HV
  rw [← HV] at hor
  have hs4 : s < 4294967296 := by omega
  obtain ⟨kd, hkd⟩ : ∃ kd, x4.toNat = kd := ⟨_, rfl⟩
  obtain ⟨nn, hnn⟩ : ∃ nn, x5.toNat = nn := ⟨_, rfl⟩
  rw [hkd] at c4 HK l4
  rw [hnn] at c5 HN l5
  obtain ⟨cr, hcr⟩ : ∃ cr, crc (p.drop 4) = cr := ⟨_, rfl⟩
  have hr4 := crc_lt (p.drop 4)
  rw [hcr] at hr4
  have HS := Lib.hid hs
  have HCR := Lib.hid hcr
  have HK := Lib.hid HK
  have HN := Lib.hid HN
  clear hx0 hx1 hx2 hx3 hx4 hx5 hkd hnn hs hcr HV
  have HT : Hid (Rd w 1 (some ⟨g, o + 4, none⟩) 252 (c - 4) (bv (p.drop 4))) := Lib.hid (h.out.tail (lo := 4) (by omega))
  have H6 : Hid (Rd w 1 (some ⟨g, o + 6, none⟩) 250 (c - 6) (bv (p.drop 6))) := Lib.hid (h.out.tail (lo := 6) (by omega))
  have HL : Hid (252 = (p.drop 4).length) := Lib.hid (by rw [List.length_drop]; omega)
  have hc4 : ¬ c = 4 := by omega
  have hc6 : ¬ c = 6 := by omega
  by_cases H : s = cr ∧ (kd = 1 ∨ kd = 2) ∧ kd ≤ nn
  · obtain ⟨rfl, hkd, hkn⟩ := H
    rcases hkd with rfl | rfl
    · obtain ⟨i0, hi, hz0, hz1, hz2⟩ := info_parts info_item
      go_enter Tryz.func85, Tryz.ntmps85
      go_wp2_with fail
      go_quiet (fail)
      go_wp2_with fail
      go_quiet (fail)
      go_wp2_with fail
      go_at_call 112
      refine (Sum_any _ HL (Lib.hid (HT.out.drewN _))).mono ?_
      rw [HCR.out]
      rintro e w1 ⟨rfl, hw1⟩
      have bw1 : Below w.heap.size w w1 := hw1 ▸ bdrewN (Below.refl _ _)
      have sz1 : w1.heap.size = w.heap.size := by rw [← hw1]; rfl
      have R6 : Hid (Rd w1 1 (some ⟨g, o + 6, none⟩) 250 (c - 6) (bv (p.drop 6))) := Lib.hid (hw1 ▸ H6.out.drewN _)
      clear hw1 hor c0 c1 c2 c3 c4 c5 l0 l1 l2 l3
      go_wp2_with fail
      go_loopw [8, 68] (fun ov iv wr => ∃ (i : Nat) (A : Option Addr) (c' : Nat) (L : List IV) (o' m d : Nat) (r : List UInt8), i ≤ nn ∧ iv = .int .i64 i ∧ ov = .slice A i c' ∧ Hid (Dl w wr g 1 p i A c' L o' m d r)) (fun _ i _ => (nn - intOf i).toNat)
      case atStart => exact ⟨0, none, 0, [], o + 6, 250, c - 6, p.drop 6, by omega, rfl, rfl, Lib.hid ⟨Bx.put w1 sz1 #[.slice (some ⟨g, o + 6, none⟩) 250 (c - 6)] _, R6.out.alloc _, by omega, rfl, World.ownsRow_nil _ _ _ _, by simp, bel_alloc bw1 (Nat.le_refl _) _⟩⟩
      case round =>
        obtain ⟨i, A, c', L, o', m, d, r, hi', rfl, rfl, D⟩ := hrel
        have dm := D.out.m2
        have dbw := D.out.bw
        have dz := dbw.size
        have drl := D.out.rd.len
        rw [bv_len, Nat.mul_one] at drl
        have hdn := Lib.hid D.out.dn
        have DA : ∀ q, blk A = some q → w.heap.size + 1 ≤ q ∧ q < wr.heap.size := fun q e => own_blk_le D.out.own e
        have dlt := D.out.box.lt
        have DL := Lib.hid (len3 (Rd.of_own D.out.own))
        have en := eql_nil
        have es := eql_some
        by_cases hlt : i < nn
        · have bx := bal wr (.cells #[.slice none 0 0, .slice none 0 0, .int .i64 0] 96)
          obtain ⟨X, hX⟩ : ∃ X, wr.heap.size = X := ⟨_, rfl⟩
          have DX := Lib.hid (Bx.put wr hX #[.slice none 0 0, .slice none 0 0, .int .i64 0] 96)
          have KX : Hid (Kp wr (wr.alloc (.cells #[.slice none 0 0, .slice none 0 0, .int .i64 0] 96)) fun _ => False) := Lib.hid (Kp.of_below bx _)
          have zX : (wr.alloc (.cells #[.slice none 0 0, .slice none 0 0, .int .i64 0] 96)).heap.size = X + 1 := by rw [← hX]; simp
          have DB := Lib.hid (D.out.box.step bx)
          have DR := Lib.hid (D.out.rd.below bx)
          have bwx := dbw.trans (bx.mono dz)
          have gX : g < X := by omega
          have bX : w.heap.size < X := by omega
          by_cases hm2 : m < 2
          · have HD : Hid (dec p = none) := Lib.hid (dec_no2 HK.out HN.out (dn_none hdn.out (di1_short (by omega)) hlt))
            go_wp2_with fail
            go_at_call 113
            refine (take_nil (k := 2) _ rfl DB hm2 (by omega)).mono ?_
            rintro e w2 ⟨rfl, K2, z2, B2⟩
            have bw2 := KB bwx K2.out
            go_wp2_with fail
            exact bodyPost_ret (v := .tuple #[.int .i64 0, .slice none 0 0, .bool false]) (by simp [results, Tryz.results85, go_sem]) rfl ⟨.inl ⟨HD.out, rfl⟩, bw2⟩
          · go_wp2_with fail
            go_at_call 113
            refine (take_got (k := 2) _ rfl DB DR (by omega) (by omega) (by omega)).mono ?_
            rintro e w2 ⟨o1, rfl, K2, z2, B2, R2, P2⟩
            obtain ⟨q1, q2, y0, e', _, hy0, k0⟩ := P2.out.byte (k := 0) (by omega)
            injection e' with e'; injection e' with e1 e2; subst e1 e2
            obtain ⟨q1, q2, y1, e', _, hy1, k1⟩ := P2.out.byte (k := 1) (by omega)
            injection e' with e'; injection e' with e1 e2; subst e1 e2
            rw [List.getElem?_take, if_pos (by omega)] at hy0 hy1
            rw [Nat.add_zero] at k0
            have HDI := Lib.hid (di1_some hy0 hy1)
            have ly0 := y0.toNat_lt
            have ly1 := y1.toNat_lt
            obtain ⟨kl, hkl⟩ : ∃ kl, y0.toNat = kl := ⟨_, rfl⟩
            obtain ⟨ml, hml⟩ : ∃ ml, y1.toNat = ml := ⟨_, rfl⟩
            rw [hkl] at k0 ly0 HDI
            rw [hml] at k1 ly1 HDI
            rw [drl] at HDI
            clear hy0 hy1 hkl hml
            have DX2 := Lib.hid (DX.out.kp K2.out (by omega))
            have bw2 := KB bwx K2.out
            have zz2 : w2.heap.size = X + 1 := by omega
            by_cases OK : 1 ≤ kl ∧ kl ≤ 40 ∧ ml ≤ 120 ∧ kl + ml ≤ m - 2
            · go_wp2_with fail
              go_quiet (fail)
              go_wp2_with fail
              go_at_call 113
              refine (take_got (k := kl) _ rfl (Lib.hid (B2.out.drewN _)) (Lib.hid (R2.out.drewN _)) (by omega) (by omega) (by omega)).mono ?_
              rintro e w3 ⟨o2, rfl, K3, z3, B3, R3, P3⟩
              have DX3 := Lib.hid ((DX2.out.drewN _).kp K3.out (by omega))
              have bw3 := KB (bdrewN bw2) K3.out
              have zz3 : w3.heap.size = X + 1 := by rw [z3]; exact zz2
              have a0 := DX3.out.at_ 0 (by simp)
              have f0 := DX3.out.fz 0 (by simp)
              have t3 := DX3.out.lt
              go_wp2_with fail
              go_at_call 113
              have B3' := Lib.hid (B3.out.other (q := X) (by omega) 0 (.slice (some ⟨g, o1, none⟩) kl (d - 2)))
              have R3' := Lib.hid (Rd.set R3.out ⟨X, 0, none⟩ (.slice (some ⟨g, o1, none⟩) kl (d - 2)) (by intro _ e; simp [blk] at e; omega))
              have DX3' := Lib.hid (DX3.out.set (j := 0) (by simp) (.slice (some ⟨g, o1, none⟩) kl (d - 2)))
              refine (take_got (k := ml) _ rfl B3' R3' (by omega) (by omega) (by omega)).mono ?_
              rintro e w4 ⟨o3, rfl, K4, z4, B4, R4, P4⟩
              have DX4 := Lib.hid (DX3'.out.kp K4.out (by omega))
              have bw4 := KB (Below.setCell bw3 (show w.heap.size ≤ X by omega) _) K4.out
              clear a0 f0 t3
              have a0 := DX4.out.at_ 0 (by simp)
              have a1 := DX4.out.at_ 1 (by simp)
              have a2 := DX4.out.at_ 2 (by simp)
              have f1 := DX4.out.fz 1 (by simp)
              have t4 := DX4.out.lt
              have HDI : Hid (di 1 r = some ((⟨some ⟨g, o1, none⟩, d - 2, (r.drop 2).take kl, some ⟨g, o2, none⟩, d - 2 - kl, ((r.drop 2).drop kl).take ml, 0⟩ : IV).it, ((r.drop 2).drop kl).drop ml)) := by rw [HDI.out, if_pos OK]; exact Lib.hid rfl
              have dsl := Lib.hid (dn_succ hdn.out HDI.out)
              have lk : ((r.drop 2).take kl).length = kl := by rw [List.length_take, List.length_drop]; omega
              have lv : (((r.drop 2).drop kl).take ml).length = ml := by rw [List.length_take, List.length_drop, List.length_drop]; omega
              have zz4 : w4.heap.size = X + 1 := by rw [z4]; simp; exact zz3
              have W4 : Kp w4 (w4.setCell ⟨X, 1, none⟩ (.slice (some ⟨g, o2, none⟩) ml (d - 2 - kl))) (fun i => i = X) := Kp.of_set w4 ⟨X, 1, none⟩ _ rfl
              have KA := Lib.hid (chain6 KX.out K2.out (Kp.drewN w2 _ fun i => i = X) K3.out (Kp.of_set w3 ⟨X, 0, none⟩ (.slice (some ⟨g, o1, none⟩) kl (d - 2)) rfl) K4.out W4 hX (by omega))
              have own5 := own_kp D.out.own KA.out (fun q e h => by have := (DA q e).1; omega)
              have OW5 := Lib.hid own5
              have hB6 : w.heap.size + 1 ≤ ((w4.setCell ⟨X, 1, none⟩ (.slice (some ⟨g, o2, none⟩) ml (d - 2 - kl))).alloc (.cells #[.slice (some ⟨g, o1, none⟩) kl (d - 2), .slice (some ⟨g, o2, none⟩) ml (d - 2 - kl), .int .i64 (0)] 96)).heap.size := by simp; omega
              clear W4 own5
              go_wp2_with (at_builtin; apply hold)
              all_goals
                unfold Hold
                refine wpList_app _ rfl (.tmp 135) (.tmp 137) 92 rfl (w.heap.size + 1) 96 i0 (.agg #[.slice none 0 0, .slice none 0 0, .int .i64 0]) 3 56 Tryz.underlying92 hi hz0 hz1 hz2 rfl (by omega) (by rfl) (own_alloc OW5.out _) (by rfl) (rd_lit (q := X + 1) _ (by simp; omega) 96 3 #[.slice (some ⟨g, o1, none⟩) kl (d - 2), .slice (some ⟨g, o2, none⟩) ml (d - 2 - kl), .int .i64 (0)] 1 (by omega) rfl) (one3 _ _ _ rfl rfl rfl) (by omega) (by omega) hB6 ?_
                intro A3 c3 w6 own6 g6
                have OW6 := Lib.hid own6
                have G6 := Lib.hid g6
                have KG : Hid (Kp _ w6 fun i => blk A = some i) := Lib.hid (Kp.of_grew g6 fun _ e => e)
                clear own6 g6 a0 a1 a2 f1 t4
                go_wp2_with fail
                go_roundw
                case rel =>
                  have hAb : ∀ q, blk A = some q → q ≠ w.heap.size ∧ q ≠ g := fun q e => by have := (DA q e).1; omega
                  have hng : ¬ blk A = some g := fun e => (hAb g e).2 rfl
                  have hnb : ¬ blk A = some w.heap.size := fun e => (hAb _ e).1 rfl
                  have K45 : Kp w4 _ (fun i => i = X) := (Kp.of_set (X := fun i => i = X) w4 ⟨X, 1, none⟩ (.slice (some ⟨g, o2, none⟩) ml (d - 2 - kl)) rfl).below (bal _ (.cells #[.slice (some ⟨g, o1, none⟩) kl (d - 2), .slice (some ⟨g, o2, none⟩) ml (d - 2 - kl), .int .i64 (0)] 96))
                  have K46 : Kp w4 w6 (fun i => i = X ∨ blk A = some i) := (K45.mono (Y := fun i => i = X ∨ blk A = some i) fun _ _ h => .inl h).trans KG.out (fun _ _ h => .inr h)
                  have K36 : Kp w3 w6 (fun i => i = w.heap.size ∨ i = X ∨ blk A = some i) := (((Kp.of_set (X := fun i => i = X) w3 ⟨X, 0, none⟩ (.slice (some ⟨g, o1, none⟩) kl (d - 2)) rfl).mono (Y := fun i => i = w.heap.size ∨ i = X ∨ blk A = some i) fun _ _ h => .inr (.inl h)).trans K4.out (fun _ _ h => .inl h)).trans K46 (fun _ _ h => .inr h)
                  have KR6 : Kp wr w6 (fun i => i = w.heap.size ∨ blk A = some i) := ((KA.out.mono (Y := fun i => i = w.heap.size ∨ blk A = some i) fun _ _ h => .inl h).below (bal _ (.cells #[.slice (some ⟨g, o1, none⟩) kl (d - 2), .slice (some ⟨g, o2, none⟩) ml (d - 2 - kl), .int .i64 (0)] 96))).trans KG.out (fun _ _ h => .inr h)
                  have n3 : ¬ (g = w.heap.size ∨ g = X ∨ blk A = some g) := by rintro (h | h | h) <;> first | omega | exact hng h
                  have n4 : ¬ (g = X ∨ blk A = some g) := by rintro (h | h) <;> first | omega | exact hng h
                  have hk6 : Rd w6 1 (some ⟨g, o1, none⟩) ((r.drop 2).take kl).length (d - 2) (bv ((r.drop 2).take kl)) := by rw [lk]; exact Rd.kp P3.out K36 fun q _ e => by simp [blk] at e; subst e; exact n3
                  have hv6 : Rd w6 1 (some ⟨g, o2, none⟩) (((r.drop 2).drop kl).take ml).length (d - 2 - kl) (bv (((r.drop 2).drop kl).take ml)) := by rw [lv]; exact Rd.kp P4.out K46 fun q _ e => by simp [blk] at e; subst e; exact n4
                  refine ⟨i + 1, A3, c3, L ++ [(⟨some ⟨g, o1, none⟩, d - 2, (r.drop 2).take kl, some ⟨g, o2, none⟩, d - 2 - kl, ((r.drop 2).drop kl).take ml, 0⟩ : IV)], o3, m - 2 - kl - ml, d - 2 - kl - ml, ((r.drop 2).drop kl).drop ml, by omega, by go_num, rfl, Lib.hid ⟨?_, ?_, ?_, ?_, ?_, ?_, ?_⟩⟩
                  · exact B4.out.kp K46 (by rintro (h | h) <;> first | omega | exact hnb h)
                  · exact Rd.kp R4.out K46 fun q _ e => by simp [blk] at e; subst e; exact n4
                  · omega
                  · rw [its_app]; exact dsl.out
                  · have ecs : ((⟨some ⟨g, o1, none⟩, d - 2, (r.drop 2).take kl, some ⟨g, o2, none⟩, d - 2 - kl, ((r.drop 2).drop kl).take ml, 0⟩ : IV)).cs = (#[.slice (some ⟨g, o1, none⟩) kl (d - 2), .slice (some ⟨g, o2, none⟩) ml (d - 2 - kl), .int .i64 (0)] : Array Value).toList := by simp only [IV.cs, IV.kv, IV.vv, lk, lv]; rfl
                    rw [ic_snoc, ecs]; exact OW6.out
                  · intro x hx
                    rcases List.mem_append.1 hx with hx | hx
                    · exact (D.out.dat x hx).kp KR6 (by rintro (h | h) <;> first | omega | exact hng h)
                    · obtain rfl : x = (⟨some ⟨g, o1, none⟩, d - 2, (r.drop 2).take kl, some ⟨g, o2, none⟩, d - 2 - kl, ((r.drop 2).drop kl).take ml, 0⟩ : IV) := by simpa using hx
                      exact ⟨hk6, hv6, rfl, rfl⟩
                  · exact dbw.trans (KR6.low (B := w.heap.size) (by omega) fun q h => by rcases h with h | h <;> first | omega | (have := (DA q h).1; omega))
                case measure => simp [intOf]; omega
            · have HD : Hid (dec p = none) := Lib.hid (dec_no2 HK.out HN.out (dn_none hdn.out (by rw [HDI.out, if_neg OK]) hlt))
              by_cases ck : kl ≤ m - 2
              · by_cases cv : ml ≤ m - 2 - kl
                · go_wp2_with fail
                  go_quiet (fail)
                  go_wp2_with fail
                  go_at_call 113
                  refine (take_got (k := kl) _ rfl (Lib.hid (B2.out.drewN _)) (Lib.hid (R2.out.drewN _)) (by omega) (by omega) (by omega)).mono ?_
                  rintro e w3 ⟨o2, rfl, K3, z3, B3, R3, P3⟩
                  have DX3 := Lib.hid ((DX2.out.drewN _).kp K3.out (by omega))
                  have bw3 := KB (bdrewN bw2) K3.out
                  have zz3 : w3.heap.size = X + 1 := by rw [z3]; exact zz2
                  have a0 := DX3.out.at_ 0 (by simp)
                  have f0 := DX3.out.fz 0 (by simp)
                  have t3 := DX3.out.lt
                  go_wp2_with fail
                  go_at_call 113
                  have B3' := Lib.hid (B3.out.other (q := X) (by omega) 0 (.slice (some ⟨g, o1, none⟩) kl (d - 2)))
                  have R3' := Lib.hid (Rd.set R3.out ⟨X, 0, none⟩ (.slice (some ⟨g, o1, none⟩) kl (d - 2)) (by intro _ e; simp [blk] at e; omega))
                  have DX3' := Lib.hid (DX3.out.set (j := 0) (by simp) (.slice (some ⟨g, o1, none⟩) kl (d - 2)))
                  refine (take_got (k := ml) _ rfl B3' R3' (by omega) (by omega) (by omega)).mono ?_
                  rintro e w4 ⟨o3, rfl, K4, z4, B4, R4, P4⟩
                  have DX4 := Lib.hid (DX3'.out.kp K4.out (by omega))
                  have bw4 := KB (Below.setCell bw3 (show w.heap.size ≤ X by omega) _) K4.out
                  clear a0 f0 t3
                  have a0 := DX4.out.at_ 0 (by simp)
                  have a1 := DX4.out.at_ 1 (by simp)
                  have a2 := DX4.out.at_ 2 (by simp)
                  have f1 := DX4.out.fz 1 (by simp)
                  have t4 := DX4.out.lt
                  go_wp2_with fail
                  all_goals first
                    | exact bodyPost_ret (v := .tuple #[.int .i64 0, .slice none 0 0, .bool false]) (by simp [results, Tryz.results85, go_sem]) rfl ⟨.inl ⟨HD.out, rfl⟩, (Below.setCell bw4 (show w.heap.size ≤ X by omega) _)⟩
                    | (exfalso; omega)
                · go_wp2_with fail
                  go_quiet (fail)
                  go_wp2_with fail
                  go_at_call 113
                  refine (take_got (k := kl) _ rfl (Lib.hid (B2.out.drewN _)) (Lib.hid (R2.out.drewN _)) (by omega) (by omega) (by omega)).mono ?_
                  rintro e w3 ⟨o2, rfl, K3, z3, B3, R3, P3⟩
                  have DX3 := Lib.hid ((DX2.out.drewN _).kp K3.out (by omega))
                  have bw3 := KB (bdrewN bw2) K3.out
                  have zz3 : w3.heap.size = X + 1 := by rw [z3]; exact zz2
                  have a0 := DX3.out.at_ 0 (by simp)
                  have f0 := DX3.out.fz 0 (by simp)
                  have t3 := DX3.out.lt
                  go_wp2_with fail
                  go_at_call 113
                  have B3' := Lib.hid (B3.out.other (q := X) (by omega) 0 (.slice (some ⟨g, o1, none⟩) kl (d - 2)))
                  have R3' := Lib.hid (Rd.set R3.out ⟨X, 0, none⟩ (.slice (some ⟨g, o1, none⟩) kl (d - 2)) (by intro _ e; simp [blk] at e; omega))
                  have DX3' := Lib.hid (DX3.out.set (j := 0) (by simp) (.slice (some ⟨g, o1, none⟩) kl (d - 2)))
                  refine (take_nil (k := ml) _ rfl B3' (by omega) (by omega)).mono ?_
                  rintro e w4 ⟨rfl, K4, z4, B4⟩
                  have DX4 := Lib.hid (DX3'.out.kp K4.out (by omega))
                  have bw4 := KB (Below.setCell bw3 (show w.heap.size ≤ X by omega) _) K4.out
                  clear a0 f0 t3
                  have a0 := DX4.out.at_ 0 (by simp)
                  have a1 := DX4.out.at_ 1 (by simp)
                  have a2 := DX4.out.at_ 2 (by simp)
                  have f1 := DX4.out.fz 1 (by simp)
                  have t4 := DX4.out.lt
                  go_wp2_with fail
                  all_goals first
                    | exact bodyPost_ret (v := .tuple #[.int .i64 0, .slice none 0 0, .bool false]) (by simp [results, Tryz.results85, go_sem]) rfl ⟨.inl ⟨HD.out, rfl⟩, (Below.setCell bw4 (show w.heap.size ≤ X by omega) _)⟩
                    | (exfalso; omega)
              · by_cases cv : ml ≤ m - 2
                · go_wp2_with fail
                  go_quiet (fail)
                  go_wp2_with fail
                  go_at_call 113
                  refine (take_nil (k := kl) _ rfl (Lib.hid (B2.out.drewN _)) (by omega) (by omega)).mono ?_
                  rintro e w3 ⟨rfl, K3, z3, B3⟩
                  have R3 := Lib.hid (Rd.kp (R2.out.drewN _) K3.out (by intro q _ e; simp [blk] at e; omega))
                  have DX3 := Lib.hid ((DX2.out.drewN _).kp K3.out (by omega))
                  have bw3 := KB (bdrewN bw2) K3.out
                  have zz3 : w3.heap.size = X + 1 := by rw [z3]; exact zz2
                  have a0 := DX3.out.at_ 0 (by simp)
                  have f0 := DX3.out.fz 0 (by simp)
                  have t3 := DX3.out.lt
                  go_wp2_with fail
                  go_at_call 113
                  have B3' := Lib.hid (B3.out.other (q := X) (by omega) 0 (.slice none 0 0))
                  have R3' := Lib.hid (Rd.set R3.out ⟨X, 0, none⟩ (.slice none 0 0) (by intro _ e; simp [blk] at e; omega))
                  have DX3' := Lib.hid (DX3.out.set (j := 0) (by simp) (.slice none 0 0))
                  refine (take_got (k := ml) _ rfl B3' R3' (by omega) (by omega) (by omega)).mono ?_
                  rintro e w4 ⟨o3, rfl, K4, z4, B4, R4, P4⟩
                  have DX4 := Lib.hid (DX3'.out.kp K4.out (by omega))
                  have bw4 := KB (Below.setCell bw3 (show w.heap.size ≤ X by omega) _) K4.out
                  clear a0 f0 t3
                  have a0 := DX4.out.at_ 0 (by simp)
                  have a1 := DX4.out.at_ 1 (by simp)
                  have a2 := DX4.out.at_ 2 (by simp)
                  have f1 := DX4.out.fz 1 (by simp)
                  have t4 := DX4.out.lt
                  go_wp2_with fail
                  all_goals first
                    | exact bodyPost_ret (v := .tuple #[.int .i64 0, .slice none 0 0, .bool false]) (by simp [results, Tryz.results85, go_sem]) rfl ⟨.inl ⟨HD.out, rfl⟩, (Below.setCell bw4 (show w.heap.size ≤ X by omega) _)⟩
                    | (exfalso; omega)
                · go_wp2_with fail
                  go_quiet (fail)
                  go_wp2_with fail
                  go_at_call 113
                  refine (take_nil (k := kl) _ rfl (Lib.hid (B2.out.drewN _)) (by omega) (by omega)).mono ?_
                  rintro e w3 ⟨rfl, K3, z3, B3⟩
                  have R3 := Lib.hid (Rd.kp (R2.out.drewN _) K3.out (by intro q _ e; simp [blk] at e; omega))
                  have DX3 := Lib.hid ((DX2.out.drewN _).kp K3.out (by omega))
                  have bw3 := KB (bdrewN bw2) K3.out
                  have zz3 : w3.heap.size = X + 1 := by rw [z3]; exact zz2
                  have a0 := DX3.out.at_ 0 (by simp)
                  have f0 := DX3.out.fz 0 (by simp)
                  have t3 := DX3.out.lt
                  go_wp2_with fail
                  go_at_call 113
                  have B3' := Lib.hid (B3.out.other (q := X) (by omega) 0 (.slice none 0 0))
                  have R3' := Lib.hid (Rd.set R3.out ⟨X, 0, none⟩ (.slice none 0 0) (by intro _ e; simp [blk] at e; omega))
                  have DX3' := Lib.hid (DX3.out.set (j := 0) (by simp) (.slice none 0 0))
                  refine (take_nil (k := ml) _ rfl B3' (by omega) (by omega)).mono ?_
                  rintro e w4 ⟨rfl, K4, z4, B4⟩
                  have DX4 := Lib.hid (DX3'.out.kp K4.out (by omega))
                  have bw4 := KB (Below.setCell bw3 (show w.heap.size ≤ X by omega) _) K4.out
                  clear a0 f0 t3
                  have a0 := DX4.out.at_ 0 (by simp)
                  have a1 := DX4.out.at_ 1 (by simp)
                  have a2 := DX4.out.at_ 2 (by simp)
                  have f1 := DX4.out.fz 1 (by simp)
                  have t4 := DX4.out.lt
                  go_wp2_with fail
                  all_goals first
                    | exact bodyPost_ret (v := .tuple #[.int .i64 0, .slice none 0 0, .bool false]) (by simp [results, Tryz.results85, go_sem]) rfl ⟨.inl ⟨HD.out, rfl⟩, (Below.setCell bw4 (show w.heap.size ≤ X by omega) _)⟩
                    | (exfalso; omega)
        · obtain rfl : i = nn := by omega
          have HY := Lib.hid (dec_yes (by rw [HS.out, HCR.out]) HK.out HN.out (by omega) hkn hdn.out)
          have F1 := D.out.box.at_ 0 (by simp)
          have RR := Lib.hid D.out.rd
          have GR := Lib.hid (G.out.below dbw)
          go_wp2_with fail
          go_at_call 114
          refine (contains_any _ GR RR (by omega)).mono ?_
          rintro e w2 ⟨rfl, b2⟩
          have bw2 := dbw.trans (b2.mono dz)
          have OW : w2.ownsRow w.heap.size 96 3 (.slice A i c') i (ic L) := own_base (own_below D.out.own b2) (by omega)
          have DT : ∀ x ∈ L, Kg w2 g x := fun x hx => (D.out.dat x hx).kp (Kp.of_below b2 fun _ => False) (fun e => e)
          by_cases hz : nz r = true
          · have HD : Hid (dec p = none) := by rw [HY.out, all_nz, hz]; exact Lib.hid rfl
            rw [hz]
            go_wp2_with fail
            exact bodyPost_ret (v := .tuple #[.int .i64 0, .slice none 0 0, .bool false]) (by simp [results, Tryz.results85, go_sem]) rfl ⟨.inl ⟨HD.out, rfl⟩, bw2⟩
          · have hz : nz r = false := by simpa using hz
            have HD : Hid (dec p = some (1, its L)) := by rw [HY.out, all_nz, hz]; exact Lib.hid rfl
            rw [hz]
            go_wp2_with fail
            exact bodyPost_ret (v := .tuple #[.int .i64 1, .slice A i c', .bool true]) (by simp [results, Tryz.results85, go_sem]) rfl ⟨.inr ⟨1, A, i, c', L, HD.out, rfl, Lib.hid OW, Lib.hid DT⟩, bw2⟩
    · obtain ⟨i0, hi, hz0, hz1, hz2⟩ := info_parts info_item
      go_enter Tryz.func85, Tryz.ntmps85
      go_wp2_with fail
      go_quiet (fail)
      go_wp2_with fail
      go_quiet (fail)
      go_wp2_with fail
      go_at_call 112
      refine (Sum_any _ HL (Lib.hid (HT.out.drewN _))).mono ?_
      rw [HCR.out]
      rintro e w1 ⟨rfl, hw1⟩
      have bw1 : Below w.heap.size w w1 := hw1 ▸ bdrewN (Below.refl _ _)
      have sz1 : w1.heap.size = w.heap.size := by rw [← hw1]; rfl
      have R6 : Hid (Rd w1 1 (some ⟨g, o + 6, none⟩) 250 (c - 6) (bv (p.drop 6))) := Lib.hid (hw1 ▸ H6.out.drewN _)
      clear hw1 hor c0 c1 c2 c3 c4 c5 l0 l1 l2 l3
      go_wp2_with fail
      go_loopw [8, 68] (fun ov iv wr => ∃ (i : Nat) (A : Option Addr) (c' : Nat) (L : List IV) (o' m d : Nat) (r : List UInt8), i ≤ nn ∧ iv = .int .i64 i ∧ ov = .slice A i c' ∧ Hid (Dl w wr g 2 p i A c' L o' m d r)) (fun _ i _ => (nn - intOf i).toNat)
      case atStart => exact ⟨0, none, 0, [], o + 6, 250, c - 6, p.drop 6, by omega, rfl, rfl, Lib.hid ⟨Bx.put w1 sz1 #[.slice (some ⟨g, o + 6, none⟩) 250 (c - 6)] _, R6.out.alloc _, by omega, rfl, World.ownsRow_nil _ _ _ _, by simp, bel_alloc bw1 (Nat.le_refl _) _⟩⟩
      case round =>
        obtain ⟨i, A, c', L, o', m, d, r, hi', rfl, rfl, D⟩ := hrel
        have dm := D.out.m2
        have dbw := D.out.bw
        have dz := dbw.size
        have drl := D.out.rd.len
        rw [bv_len, Nat.mul_one] at drl
        have hdn := Lib.hid D.out.dn
        have DA : ∀ q, blk A = some q → w.heap.size + 1 ≤ q ∧ q < wr.heap.size := fun q e => own_blk_le D.out.own e
        have dlt := D.out.box.lt
        have DL := Lib.hid (len3 (Rd.of_own D.out.own))
        have en := eql_nil
        have es := eql_some
        by_cases hlt : i < nn
        · have bx := bal wr (.cells #[.slice none 0 0, .slice none 0 0, .int .i64 0] 96)
          obtain ⟨X, hX⟩ : ∃ X, wr.heap.size = X := ⟨_, rfl⟩
          have DX := Lib.hid (Bx.put wr hX #[.slice none 0 0, .slice none 0 0, .int .i64 0] 96)
          have KX : Hid (Kp wr (wr.alloc (.cells #[.slice none 0 0, .slice none 0 0, .int .i64 0] 96)) fun _ => False) := Lib.hid (Kp.of_below bx _)
          have zX : (wr.alloc (.cells #[.slice none 0 0, .slice none 0 0, .int .i64 0] 96)).heap.size = X + 1 := by rw [← hX]; simp
          have DB := Lib.hid (D.out.box.step bx)
          have DR := Lib.hid (D.out.rd.below bx)
          have bwx := dbw.trans (bx.mono dz)
          have gX : g < X := by omega
          have bX : w.heap.size < X := by omega
          by_cases hm2 : m < 3
          · have HD : Hid (dec p = none) := Lib.hid (dec_no2 HK.out HN.out (dn_none hdn.out (di2_short (by omega)) hlt))
            go_wp2_with fail
            go_at_call 113
            refine (take_nil (k := 3) _ rfl DB hm2 (by omega)).mono ?_
            rintro e w2 ⟨rfl, K2, z2, B2⟩
            have bw2 := KB bwx K2.out
            go_wp2_with fail
            exact bodyPost_ret (v := .tuple #[.int .i64 0, .slice none 0 0, .bool false]) (by simp [results, Tryz.results85, go_sem]) rfl ⟨.inl ⟨HD.out, rfl⟩, bw2⟩
          · go_wp2_with fail
            go_at_call 113
            refine (take_got (k := 3) _ rfl DB DR (by omega) (by omega) (by omega)).mono ?_
            rintro e w2 ⟨o1, rfl, K2, z2, B2, R2, P2⟩
            obtain ⟨q1, q2, y0, e', _, hy0, k0⟩ := P2.out.byte (k := 0) (by omega)
            injection e' with e'; injection e' with e1 e2; subst e1 e2
            obtain ⟨q1, q2, y1, e', _, hy1, k1⟩ := P2.out.byte (k := 1) (by omega)
            injection e' with e'; injection e' with e1 e2; subst e1 e2
            obtain ⟨q1, q2, y2, e', _, hy2, k2⟩ := P2.out.byte (k := 2) (by omega)
            injection e' with e'; injection e' with e1 e2; subst e1 e2
            rw [List.getElem?_take, if_pos (by omega)] at hy0 hy1 hy2
            rw [Nat.add_zero] at k0
            have HDI := Lib.hid (di2_some hy0 hy1 hy2)
            have ly0 := y0.toNat_lt
            have ly1 := y1.toNat_lt
            have ly2 := y2.toNat_lt
            obtain ⟨u0, hu0⟩ : ∃ u0, y0.toNat = u0 := ⟨_, rfl⟩
            obtain ⟨u1, hu1⟩ : ∃ u1, y1.toNat = u1 := ⟨_, rfl⟩
            obtain ⟨kl, hkl⟩ : ∃ kl, y2.toNat = kl := ⟨_, rfl⟩
            rw [hu0] at k0 ly0 HDI
            rw [hu1] at k1 ly1 HDI
            rw [hkl] at k2 ly2 HDI
            rw [drl] at HDI
            obtain ⟨ch, hch0⟩ : ∃ ch, u0 * 256 + u1 = ch := ⟨_, rfl⟩
            have hch : bits .or .i64 ((u0 : Int) * 256) (u1 : Int) = (ch : Int) := by rw [← hch0]; exact or_i64 u0 u1 (by omega) (by omega)
            rw [hch0] at HDI
            clear hch0
            clear hy0 hy1 hy2 hu0 hu1 hkl
            have DX2 := Lib.hid (DX.out.kp K2.out (by omega))
            have bw2 := KB bwx K2.out
            have zz2 : w2.heap.size = X + 1 := by omega
            by_cases OK : 1 ≤ kl ∧ kl ≤ 40 ∧ kl ≤ m - 3
            · go_wp2_with fail
              have xa := DX2.out.at_ 2 (by simp)
              have xf := DX2.out.fz 2 (by simp)
              have xt := DX2.out.lt
              go_region
              clear xa xf xt
              go_wp2_with fail
              obtain ⟨w2q, hw2q⟩ : ∃ W, (w2.setCell ⟨X, 2, none⟩ (.int .i64 (ch : Int))).drew = W := ⟨_, rfl⟩
              have K2q : Hid (Kp w2 w2q (· = X)) := hw2q ▸ Lib.hid ((Kp.of_set (X := fun i => i = X) w2 ⟨X, 2, none⟩ (.int .i64 (ch : Int)) rfl).trans (Kp.drewN _ 1 fun _ => False) fun _ _ h => h.elim)
              have B2q : Hid (Bx w2q w.heap.size [.slice (some ⟨g, o1, none⟩) (m - 3) (d - 3)]) := hw2q ▸ Lib.hid ((B2.out.other (q := X) (by omega) 2 (.int .i64 (ch : Int))).drewN 1)
              have R2q : Hid (Rd w2q 1 (some ⟨g, o1, none⟩) (m - 3) (d - 3) (bv (r.drop 3))) := hw2q ▸ Lib.hid ((Rd.set R2.out ⟨X, 2, none⟩ (.int .i64 (ch : Int)) (by intro _ e; simp [blk] at e; omega)).drewN 1)
              have DX2q : Hid (Bx w2q X [.slice none 0 0, .slice none 0 0, .int .i64 (ch : Int)]) := hw2q ▸ Lib.hid ((DX2.out.set (j := 2) (by simp) (.int .i64 (ch : Int))).drewN 1)
              have zz2q : w2q.heap.size = X + 1 := by rw [← hw2q]; show (w2.setCell _ _).heap.size = _; simp; exact zz2
              have bw2q : Below w.heap.size w w2q := bw2.trans (K2q.out.low bw2.size fun q e => by omega)
              rw [hw2q]
              clear hw2q
              go_at_call 113
              refine (take_got (k := kl) _ rfl B2q R2q (by omega) (by omega) (by omega)).mono ?_
              rintro e w3 ⟨o2, rfl, K3, z3, B3, R3, P3⟩
              have DX3 := Lib.hid ((DX2q.out).kp K3.out (by omega))
              have bw3 := KB bw2q K3.out
              have zz3 : w3.heap.size = X + 1 := by rw [z3]; exact zz2q
              have a0 := DX3.out.at_ 0 (by simp)
              have f0 := DX3.out.fz 0 (by simp)
              have t3 := DX3.out.lt
              go_wp2_with fail
              go_at_call 113
              have B3' := Lib.hid (B3.out.other (q := X) (by omega) 0 (.slice (some ⟨g, o1, none⟩) kl (d - 3)))
              have R3' := Lib.hid (Rd.set R3.out ⟨X, 0, none⟩ (.slice (some ⟨g, o1, none⟩) kl (d - 3)) (by intro _ e; simp [blk] at e; omega))
              have DX3' := Lib.hid (DX3.out.set (j := 0) (by simp) (.slice (some ⟨g, o1, none⟩) kl (d - 3)))
              refine (take_got (k := 0) _ rfl B3' R3' (by omega) (by omega) (by omega)).mono ?_
              rintro e w4 ⟨o3, rfl, K4, z4, B4, R4, P4⟩
              have DX4 := Lib.hid (DX3'.out.kp K4.out (by omega))
              have bw4 := KB (Below.setCell bw3 (show w.heap.size ≤ X by omega) _) K4.out
              clear a0 f0 t3
              have a0 := DX4.out.at_ 0 (by simp)
              have a1 := DX4.out.at_ 1 (by simp)
              have a2 := DX4.out.at_ 2 (by simp)
              have f1 := DX4.out.fz 1 (by simp)
              have t4 := DX4.out.lt
              have HDI : Hid (di 2 r = some ((⟨some ⟨g, o1, none⟩, d - 3, (r.drop 3).take kl, some ⟨g, o2, none⟩, d - 3 - kl, [], ch⟩ : IV).it, (r.drop 3).drop kl)) := by rw [HDI.out, if_pos OK]; exact Lib.hid rfl
              have dsl := Lib.hid (dn_succ hdn.out HDI.out)
              have lk : ((r.drop 3).take kl).length = kl := by rw [List.length_take, List.length_drop]; omega

              have zz4 : w4.heap.size = X + 1 := by rw [z4]; simp; exact zz3
              have W4 : Kp w4 (w4.setCell ⟨X, 1, none⟩ (.slice (some ⟨g, o2, none⟩) 0 (d - 3 - kl))) (fun i => i = X) := Kp.of_set w4 ⟨X, 1, none⟩ _ rfl
              have KA := Lib.hid (chain6 KX.out K2.out K2q.out K3.out (Kp.of_set w3 ⟨X, 0, none⟩ (.slice (some ⟨g, o1, none⟩) kl (d - 3)) rfl) K4.out W4 hX (by omega))
              have own5 := own_kp D.out.own KA.out (fun q e h => by have := (DA q e).1; omega)
              have OW5 := Lib.hid own5
              have hB6 : w.heap.size + 1 ≤ ((w4.setCell ⟨X, 1, none⟩ (.slice (some ⟨g, o2, none⟩) 0 (d - 3 - kl))).alloc (.cells #[.slice (some ⟨g, o1, none⟩) kl (d - 3), .slice (some ⟨g, o2, none⟩) 0 (d - 3 - kl), .int .i64 ((ch : Int))] 96)).heap.size := by simp; omega
              clear W4 own5
              go_wp2_with (at_builtin; apply hold)
              all_goals
                unfold Hold
                refine wpList_app _ rfl (.tmp 135) (.tmp 137) 92 rfl (w.heap.size + 1) 96 i0 (.agg #[.slice none 0 0, .slice none 0 0, .int .i64 0]) 3 56 Tryz.underlying92 hi hz0 hz1 hz2 rfl (by omega) (by rfl) (own_alloc OW5.out _) (by rfl) (rd_lit (q := X + 1) _ (by simp; omega) 96 3 #[.slice (some ⟨g, o1, none⟩) kl (d - 3), .slice (some ⟨g, o2, none⟩) 0 (d - 3 - kl), .int .i64 ((ch : Int))] 1 (by omega) rfl) (one3 _ _ _ rfl rfl rfl) (by omega) (by omega) hB6 ?_
                intro A3 c3 w6 own6 g6
                have OW6 := Lib.hid own6
                have G6 := Lib.hid g6
                have KG : Hid (Kp _ w6 fun i => blk A = some i) := Lib.hid (Kp.of_grew g6 fun _ e => e)
                clear own6 g6 a0 a1 a2 f1 t4
                go_wp2_with fail
                go_roundw
                case rel =>
                  have hAb : ∀ q, blk A = some q → q ≠ w.heap.size ∧ q ≠ g := fun q e => by have := (DA q e).1; omega
                  have hng : ¬ blk A = some g := fun e => (hAb g e).2 rfl
                  have hnb : ¬ blk A = some w.heap.size := fun e => (hAb _ e).1 rfl
                  have K45 : Kp w4 _ (fun i => i = X) := (Kp.of_set (X := fun i => i = X) w4 ⟨X, 1, none⟩ (.slice (some ⟨g, o2, none⟩) 0 (d - 3 - kl)) rfl).below (bal _ (.cells #[.slice (some ⟨g, o1, none⟩) kl (d - 3), .slice (some ⟨g, o2, none⟩) 0 (d - 3 - kl), .int .i64 ((ch : Int))] 96))
                  have K46 : Kp w4 w6 (fun i => i = X ∨ blk A = some i) := (K45.mono (Y := fun i => i = X ∨ blk A = some i) fun _ _ h => .inl h).trans KG.out (fun _ _ h => .inr h)
                  have K36 : Kp w3 w6 (fun i => i = w.heap.size ∨ i = X ∨ blk A = some i) := (((Kp.of_set (X := fun i => i = X) w3 ⟨X, 0, none⟩ (.slice (some ⟨g, o1, none⟩) kl (d - 3)) rfl).mono (Y := fun i => i = w.heap.size ∨ i = X ∨ blk A = some i) fun _ _ h => .inr (.inl h)).trans K4.out (fun _ _ h => .inl h)).trans K46 (fun _ _ h => .inr h)
                  have KR6 : Kp wr w6 (fun i => i = w.heap.size ∨ blk A = some i) := ((KA.out.mono (Y := fun i => i = w.heap.size ∨ blk A = some i) fun _ _ h => .inl h).below (bal _ (.cells #[.slice (some ⟨g, o1, none⟩) kl (d - 3), .slice (some ⟨g, o2, none⟩) 0 (d - 3 - kl), .int .i64 ((ch : Int))] 96))).trans KG.out (fun _ _ h => .inr h)
                  have n3 : ¬ (g = w.heap.size ∨ g = X ∨ blk A = some g) := by rintro (h | h | h) <;> first | omega | exact hng h
                  have n4 : ¬ (g = X ∨ blk A = some g) := by rintro (h | h) <;> first | omega | exact hng h
                  have hk6 : Rd w6 1 (some ⟨g, o1, none⟩) ((r.drop 3).take kl).length (d - 3) (bv ((r.drop 3).take kl)) := by rw [lk]; exact Rd.kp P3.out K36 fun q _ e => by simp [blk] at e; subst e; exact n3
                  have hv6 : Rd w6 1 (some ⟨g, o2, none⟩) ([] : List UInt8).length (d - 3 - kl) (bv []) := by have := Rd.kp P4.out K46 (fun q _ e => by simp [blk] at e; subst e; exact n4); simpa using this
                  refine ⟨i + 1, A3, c3, L ++ [(⟨some ⟨g, o1, none⟩, d - 3, (r.drop 3).take kl, some ⟨g, o2, none⟩, d - 3 - kl, [], ch⟩ : IV)], o3, m - 3 - kl - 0, d - 3 - kl - 0, (r.drop 3).drop kl, by omega, by go_num, rfl, Lib.hid ⟨?_, ?_, ?_, ?_, ?_, ?_, ?_⟩⟩
                  · exact B4.out.kp K46 (by rintro (h | h) <;> first | omega | exact hnb h)
                  · exact Rd.kp R4.out K46 fun q _ e => by simp [blk] at e; subst e; exact n4
                  · omega
                  · rw [its_app]; exact dsl.out
                  · have ecs : ((⟨some ⟨g, o1, none⟩, d - 3, (r.drop 3).take kl, some ⟨g, o2, none⟩, d - 3 - kl, [], ch⟩ : IV)).cs = (#[.slice (some ⟨g, o1, none⟩) kl (d - 3), .slice (some ⟨g, o2, none⟩) 0 (d - 3 - kl), .int .i64 ((ch : Int))] : Array Value).toList := by simp only [IV.cs, IV.kv, IV.vv, lk]; rfl
                    rw [ic_snoc, ecs]; exact OW6.out
                  · intro x hx
                    rcases List.mem_append.1 hx with hx | hx
                    · exact (D.out.dat x hx).kp KR6 (by rintro (h | h) <;> first | omega | exact hng h)
                    · obtain rfl : x = (⟨some ⟨g, o1, none⟩, d - 3, (r.drop 3).take kl, some ⟨g, o2, none⟩, d - 3 - kl, [], ch⟩ : IV) := by simpa using hx
                      exact ⟨hk6, hv6, rfl, rfl⟩
                  · exact dbw.trans (KR6.low (B := w.heap.size) (by omega) fun q h => by rcases h with h | h <;> first | omega | (have := (DA q h).1; omega))
                case measure => simp [intOf]; omega
            · have HD : Hid (dec p = none) := Lib.hid (dec_no2 HK.out HN.out (dn_none hdn.out (by rw [HDI.out, if_neg OK]) hlt))
              by_cases ck : kl ≤ m - 3
              · go_wp2_with fail
                have xa := DX2.out.at_ 2 (by simp)
                have xf := DX2.out.fz 2 (by simp)
                have xt := DX2.out.lt
                go_region
                clear xa xf xt
                go_wp2_with fail
                obtain ⟨w2q, hw2q⟩ : ∃ W, (w2.setCell ⟨X, 2, none⟩ (.int .i64 (ch : Int))).drew = W := ⟨_, rfl⟩
                have K2q : Hid (Kp w2 w2q (· = X)) := hw2q ▸ Lib.hid ((Kp.of_set (X := fun i => i = X) w2 ⟨X, 2, none⟩ (.int .i64 (ch : Int)) rfl).trans (Kp.drewN _ 1 fun _ => False) fun _ _ h => h.elim)
                have B2q : Hid (Bx w2q w.heap.size [.slice (some ⟨g, o1, none⟩) (m - 3) (d - 3)]) := hw2q ▸ Lib.hid ((B2.out.other (q := X) (by omega) 2 (.int .i64 (ch : Int))).drewN 1)
                have R2q : Hid (Rd w2q 1 (some ⟨g, o1, none⟩) (m - 3) (d - 3) (bv (r.drop 3))) := hw2q ▸ Lib.hid ((Rd.set R2.out ⟨X, 2, none⟩ (.int .i64 (ch : Int)) (by intro _ e; simp [blk] at e; omega)).drewN 1)
                have DX2q : Hid (Bx w2q X [.slice none 0 0, .slice none 0 0, .int .i64 (ch : Int)]) := hw2q ▸ Lib.hid ((DX2.out.set (j := 2) (by simp) (.int .i64 (ch : Int))).drewN 1)
                have zz2q : w2q.heap.size = X + 1 := by rw [← hw2q]; show (w2.setCell _ _).heap.size = _; simp; exact zz2
                have bw2q : Below w.heap.size w w2q := bw2.trans (K2q.out.low bw2.size fun q e => by omega)
                rw [hw2q]
                clear hw2q
                go_at_call 113
                refine (take_got (k := kl) _ rfl B2q R2q (by omega) (by omega) (by omega)).mono ?_
                rintro e w3 ⟨o2, rfl, K3, z3, B3, R3, P3⟩
                have DX3 := Lib.hid ((DX2q.out).kp K3.out (by omega))
                have bw3 := KB bw2q K3.out
                have zz3 : w3.heap.size = X + 1 := by rw [z3]; exact zz2q
                have a0 := DX3.out.at_ 0 (by simp)
                have f0 := DX3.out.fz 0 (by simp)
                have t3 := DX3.out.lt
                go_wp2_with fail
                go_at_call 113
                have B3' := Lib.hid (B3.out.other (q := X) (by omega) 0 (.slice (some ⟨g, o1, none⟩) kl (d - 3)))
                have R3' := Lib.hid (Rd.set R3.out ⟨X, 0, none⟩ (.slice (some ⟨g, o1, none⟩) kl (d - 3)) (by intro _ e; simp [blk] at e; omega))
                have DX3' := Lib.hid (DX3.out.set (j := 0) (by simp) (.slice (some ⟨g, o1, none⟩) kl (d - 3)))
                refine (take_got (k := 0) _ rfl B3' R3' (by omega) (by omega) (by omega)).mono ?_
                rintro e w4 ⟨o3, rfl, K4, z4, B4, R4, P4⟩
                have DX4 := Lib.hid (DX3'.out.kp K4.out (by omega))
                have bw4 := KB (Below.setCell bw3 (show w.heap.size ≤ X by omega) _) K4.out
                clear a0 f0 t3
                have a0 := DX4.out.at_ 0 (by simp)
                have a1 := DX4.out.at_ 1 (by simp)
                have a2 := DX4.out.at_ 2 (by simp)
                have f1 := DX4.out.fz 1 (by simp)
                have t4 := DX4.out.lt
                go_wp2_with fail
                all_goals first
                  | exact bodyPost_ret (v := .tuple #[.int .i64 0, .slice none 0 0, .bool false]) (by simp [results, Tryz.results85, go_sem]) rfl ⟨.inl ⟨HD.out, rfl⟩, (Below.setCell bw4 (show w.heap.size ≤ X by omega) _)⟩
                  | (exfalso; omega)
              · go_wp2_with fail
                have xa := DX2.out.at_ 2 (by simp)
                have xf := DX2.out.fz 2 (by simp)
                have xt := DX2.out.lt
                go_region
                clear xa xf xt
                go_wp2_with fail
                obtain ⟨w2q, hw2q⟩ : ∃ W, (w2.setCell ⟨X, 2, none⟩ (.int .i64 (ch : Int))).drew = W := ⟨_, rfl⟩
                have K2q : Hid (Kp w2 w2q (· = X)) := hw2q ▸ Lib.hid ((Kp.of_set (X := fun i => i = X) w2 ⟨X, 2, none⟩ (.int .i64 (ch : Int)) rfl).trans (Kp.drewN _ 1 fun _ => False) fun _ _ h => h.elim)
                have B2q : Hid (Bx w2q w.heap.size [.slice (some ⟨g, o1, none⟩) (m - 3) (d - 3)]) := hw2q ▸ Lib.hid ((B2.out.other (q := X) (by omega) 2 (.int .i64 (ch : Int))).drewN 1)
                have R2q : Hid (Rd w2q 1 (some ⟨g, o1, none⟩) (m - 3) (d - 3) (bv (r.drop 3))) := hw2q ▸ Lib.hid ((Rd.set R2.out ⟨X, 2, none⟩ (.int .i64 (ch : Int)) (by intro _ e; simp [blk] at e; omega)).drewN 1)
                have DX2q : Hid (Bx w2q X [.slice none 0 0, .slice none 0 0, .int .i64 (ch : Int)]) := hw2q ▸ Lib.hid ((DX2.out.set (j := 2) (by simp) (.int .i64 (ch : Int))).drewN 1)
                have zz2q : w2q.heap.size = X + 1 := by rw [← hw2q]; show (w2.setCell _ _).heap.size = _; simp; exact zz2
                have bw2q : Below w.heap.size w w2q := bw2.trans (K2q.out.low bw2.size fun q e => by omega)
                rw [hw2q]
                clear hw2q
                go_at_call 113
                refine (take_nil (k := kl) _ rfl B2q (by omega) (by omega)).mono ?_
                rintro e w3 ⟨rfl, K3, z3, B3⟩
                have R3 := Lib.hid (Rd.kp R2q.out K3.out (by intro q _ e; simp [blk] at e; omega))
                have DX3 := Lib.hid ((DX2q.out).kp K3.out (by omega))
                have bw3 := KB bw2q K3.out
                have zz3 : w3.heap.size = X + 1 := by rw [z3]; exact zz2q
                have a0 := DX3.out.at_ 0 (by simp)
                have f0 := DX3.out.fz 0 (by simp)
                have t3 := DX3.out.lt
                go_wp2_with fail
                go_at_call 113
                have B3' := Lib.hid (B3.out.other (q := X) (by omega) 0 (.slice none 0 0))
                have R3' := Lib.hid (Rd.set R3.out ⟨X, 0, none⟩ (.slice none 0 0) (by intro _ e; simp [blk] at e; omega))
                have DX3' := Lib.hid (DX3.out.set (j := 0) (by simp) (.slice none 0 0))
                refine (take_got (k := 0) _ rfl B3' R3' (by omega) (by omega) (by omega)).mono ?_
                rintro e w4 ⟨o3, rfl, K4, z4, B4, R4, P4⟩
                have DX4 := Lib.hid (DX3'.out.kp K4.out (by omega))
                have bw4 := KB (Below.setCell bw3 (show w.heap.size ≤ X by omega) _) K4.out
                clear a0 f0 t3
                have a0 := DX4.out.at_ 0 (by simp)
                have a1 := DX4.out.at_ 1 (by simp)
                have a2 := DX4.out.at_ 2 (by simp)
                have f1 := DX4.out.fz 1 (by simp)
                have t4 := DX4.out.lt
                go_wp2_with fail
                all_goals first
                  | exact bodyPost_ret (v := .tuple #[.int .i64 0, .slice none 0 0, .bool false]) (by simp [results, Tryz.results85, go_sem]) rfl ⟨.inl ⟨HD.out, rfl⟩, (Below.setCell bw4 (show w.heap.size ≤ X by omega) _)⟩
                  | (exfalso; omega)
        · obtain rfl : i = nn := by omega
          have HY := Lib.hid (dec_yes (by rw [HS.out, HCR.out]) HK.out HN.out (by omega) hkn hdn.out)
          have F1 := D.out.box.at_ 0 (by simp)
          have RR := Lib.hid D.out.rd
          have GR := Lib.hid (G.out.below dbw)
          go_wp2_with fail
          go_at_call 114
          refine (contains_any _ GR RR (by omega)).mono ?_
          rintro e w2 ⟨rfl, b2⟩
          have bw2 := dbw.trans (b2.mono dz)
          have OW : w2.ownsRow w.heap.size 96 3 (.slice A i c') i (ic L) := own_base (own_below D.out.own b2) (by omega)
          have DT : ∀ x ∈ L, Kg w2 g x := fun x hx => (D.out.dat x hx).kp (Kp.of_below b2 fun _ => False) (fun e => e)
          by_cases hz : nz r = true
          · have HD : Hid (dec p = none) := by rw [HY.out, all_nz, hz]; exact Lib.hid rfl
            rw [hz]
            go_wp2_with fail
            exact bodyPost_ret (v := .tuple #[.int .i64 0, .slice none 0 0, .bool false]) (by simp [results, Tryz.results85, go_sem]) rfl ⟨.inl ⟨HD.out, rfl⟩, bw2⟩
          · have hz : nz r = false := by simpa using hz
            have HD : Hid (dec p = some (2, its L)) := by rw [HY.out, all_nz, hz]; exact Lib.hid rfl
            rw [hz]
            go_wp2_with fail
            exact bodyPost_ret (v := .tuple #[.int .i64 2, .slice A i c', .bool true]) (by simp [results, Tryz.results85, go_sem]) rfl ⟨.inr ⟨2, A, i, c', L, HD.out, rfl, Lib.hid OW, Lib.hid DT⟩, bw2⟩
  · have HD : Hid (dec p = none) := Lib.hid (dec_no1 HK.out HN.out (by rw [HS.out, HCR.out]; exact H))
    by_cases q1 : s = cr
    · have d1 : decide ((s : Int) = (cr : Int)) = true := decide_eq_true (by omega)
      by_cases q2 : kd = 1 ∨ kd = 2
      · have q3 : nn < kd := by omega
        rcases q2 with rfl | rfl
        all_goals
          go_enter Tryz.func85, Tryz.ntmps85
          go_wp2_with fail
          go_quiet (fail)
          go_wp2_with fail
          go_quiet (fail)
          go_wp2_with fail
          go_at_call 112
          refine (Sum_any _ HL (Lib.hid (HT.out.drewN _))).mono ?_
          rw [HCR.out]
          rintro e w1 ⟨rfl, rfl⟩
          go_wp2_with fail
          exact bodyPost_ret (v := .tuple #[.int .i64 0, .slice none 0 0, .bool false]) (by simp [results, Tryz.results85, go_sem]) rfl ⟨.inl ⟨HD.out, rfl⟩, bdrewN (Below.refl _ _)⟩
      · have q4 : kd ≠ 1 := fun e => q2 (.inl e)
        have q5 : kd ≠ 2 := fun e => q2 (.inr e)
        have d4 : decide ((kd : Int) = 1) = false := decide_eq_false (by omega)
        have d5 : decide ((kd : Int) = 2) = false := decide_eq_false (by omega)
        go_enter Tryz.func85, Tryz.ntmps85
        go_wp2_with fail
        go_quiet (fail)
        go_wp2_with fail
        go_quiet (fail)
        go_wp2_with fail
        go_at_call 112
        refine (Sum_any _ HL (Lib.hid (HT.out.drewN _))).mono ?_
        rw [HCR.out]
        rintro e w1 ⟨rfl, rfl⟩
        go_wp2_with fail
        exact bodyPost_ret (v := .tuple #[.int .i64 0, .slice none 0 0, .bool false]) (by simp [results, Tryz.results85, go_sem]) rfl ⟨.inl ⟨HD.out, rfl⟩, bdrewN (Below.refl _ _)⟩
    · have d1 : decide ((s : Int) = (cr : Int)) = false := decide_eq_false (by omega)
      go_enter Tryz.func85, Tryz.ntmps85
      go_wp2_with fail
      go_quiet (fail)
      go_wp2_with fail
      go_quiet (fail)
      go_wp2_with fail
      go_at_call 112
      refine (Sum_any _ HL (Lib.hid (HT.out.drewN _))).mono ?_
      rw [HCR.out]
      rintro e w1 ⟨rfl, rfl⟩
      go_wp2_with fail
      exact bodyPost_ret (v := .tuple #[.int .i64 0, .slice none 0 0, .bool false]) (by simp [results, Tryz.results85, go_sem]) rfl ⟨.inl ⟨HD.out, rfl⟩, bdrewN (Below.refl _ _)⟩
end Go.Proofs.YtpmkohnljngbhaaGreatDoor.Pg
