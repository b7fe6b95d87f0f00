/- Walk: the record at the beginning of some bytes. -/
import Derived.Test.YtfkeedeiafegiaaWalW4
import Derived.Deep.RegionHeld3
import Derived.Deep.DrawnRows
namespace Go.Proofs.Ytfkeedeiafegiaa.Wl
set_option linter.unusedVariables false
set_option linter.unusedSimpArgs false
open Go.RowKit
attribute [local go_sem ↓] Go.wp_at_zero Go.wp_at_succ

/-- What is read at the beginning of some bytes. -/
def On (w : World) (b : List UInt8) (e : Ending) (w' : World) : Prop :=
  (one b = none ∧ e = .returned (.tuple #[.agg #[.int .i64 0, .int .i64 0, .slice none 0 0], .int .i64 0]) ∧ Below w.heap.size w w') ∨
  ∃ r m A c, one b = some r ∧ m = r.d.length ∧ e = .returned (.tuple #[.agg #[.int .i64 r.k, .int .i64 r.t, .slice A m c], .int .i64 (21 + m : Nat)]) ∧
    w'.ownsRow w.heap.size 5 1 (.slice A m c) m (bv r.d) ∧ Below w.heap.size w w'
theorem Rd.sub {w : World} {n c g o lo k : Nat} {l : List UInt8} (h : Rd w 1 (some ⟨g, o, none⟩) n c (bv l)) (h2 : lo + k ≤ n) : Rd w 1 (some ⟨g, o + lo, none⟩) k (c - lo) (bv ((l.drop lo).take k)) := by
  have := h.cut1 (lo := lo) (hi := lo + k) (by omega) h2
  rwa [bv_drop, bv_take, show lo + k - lo = k by omega] at this
theorem ok_iff (r : Rec) : ok r ↔ r.t < 9223372036854775808 ∧ okV r.k r.t r.d.length = true := by
  unfold ok okV
  rw [decide_eq_true_iff]
  constructor
  · rintro ⟨h1, h2, h3, h4, h5, h6⟩; exact ⟨h4, h1, h2, h3, h5, fun h => by rw [h6 h]; rfl⟩
  · rintro ⟨h4, h1, h2, h3, h5, h6⟩; exact ⟨h1, h2, h3, h4, h5, fun h => List.eq_nil_of_length_eq_zero (h6 h)⟩
theorem sub_len {l : List UInt8} {n lo k : Nat} (hl : n = l.length) (h : lo + k ≤ n) : k = ((l.drop lo).take k).length := by simp; omega
/-- The worlds in which the result's place is there. -/
structure Res3 (w W : World) : Prop where
  bel : Below w.heap.size w W
  lt : w.heap.size < W.heap.size
  r0 : W.cell? ⟨w.heap.size, 0, none⟩ = some (.int .i64 0)
  r1 : W.cell? ⟨w.heap.size, 1, none⟩ = some (.int .i64 0)
  r2 : W.cell? ⟨w.heap.size, 2, none⟩ = some (.slice none 0 0)
  f0 : W.frozen? ⟨w.heap.size, 0, none⟩ = false
  f1 : W.frozen? ⟨w.heap.size, 1, none⟩ = false
  f2 : W.frozen? ⟨w.heap.size, 2, none⟩ = false
theorem Res3.new (w : World) : Res3 w (w.alloc (.cells #[.int .i64 0, .int .i64 0, .slice none 0 0] 24)) := by
  obtain ⟨a, b, c⟩ := box3 w (.int .i64 0) (.int .i64 0) (.slice none 0 0) 24
  exact ⟨(Below.refl _ _).alloc (Nat.le_refl _) _, by simp, a, b, c, by unfold World.frozen?; rw [heap_alloc_new]; rfl, by unfold World.frozen?; rw [heap_alloc_new]; rfl, by unfold World.frozen?; rw [heap_alloc_new]; rfl⟩
theorem Res3.more {w W U : World} (h : Res3 w W) (hb : Below W.heap.size W U) : Res3 w U :=
  ⟨h.bel.trans (hb.mono h.bel.size), Nat.lt_of_lt_of_le h.lt hb.size, (hb.cell (p := ⟨_, _, _⟩) h.lt).trans h.r0, (hb.cell (p := ⟨_, _, _⟩) h.lt).trans h.r1, (hb.cell (p := ⟨_, _, _⟩) h.lt).trans h.r2,
    (hb.frozen (p := ⟨_, _, _⟩) h.lt).trans h.f0, (hb.frozen (p := ⟨_, _, _⟩) h.lt).trans h.f1, (hb.frozen (p := ⟨_, _, _⟩) h.lt).trans h.f2⟩
/-- Behind the making of the record. -/
structure Fin3 (w : World) (p : Nat) (k t : Int) (A : Option Addr) (x c : Nat) (d : List UInt8) (W : World) : Prop where
  res : Res3 w W
  sz : p < W.heap.size
  k0 : W.cell? ⟨p, 0, none⟩ = some (.int .i64 k)
  k1 : W.cell? ⟨p, 1, none⟩ = some (.int .i64 t)
  k2 : W.cell? ⟨p, 2, none⟩ = some (.slice A x c)
  own : W.ownsRow w.heap.size 5 1 (.slice A x c) x (bv d)
theorem Fin3.mk1 {w W U w2 : World} {k t : Int} {A : Option Addr} {x c : Nat} {d : List UInt8} (h : Res3 w W) (h1 : Below W.heap.size W U) (h2 : Below U.heap.size U w2) (hz : W.heap.size < U.heap.size)
    (hp0 : ∀ o, o < 3 → (U.cell? ⟨W.heap.size, o, none⟩).isSome = true) (own : w2.ownsRow U.heap.size 5 1 (.slice A x c) x (bv d)) :
    Fin3 w W.heap.size k t A x c d (((w2.setCell ⟨W.heap.size, 0, none⟩ (.int .i64 k)).setCell ⟨W.heap.size, 1, none⟩ (.int .i64 t)).setCell ⟨W.heap.size, 2, none⟩ (.slice A x c)) := by
  have ha : blk A ≠ some W.heap.size := fun e => by have := (own_blk_le own e).1; omega
  have hot : ∀ (V : World) (o o' : Nat) (v : Value), o ≠ o' → (V.setCell ⟨W.heap.size, o, none⟩ v).cell? ⟨W.heap.size, o', none⟩ = V.cell? ⟨W.heap.size, o', none⟩ := fun V o o' v h => World.cell?_setCell_other _ _ _ _ (fun e => by injection e; omega)
  have hp1 : ∀ o, o < 3 → (w2.cell? ⟨W.heap.size, o, none⟩).isSome = true := fun o ho => by rw [h2.cell (p := ⟨W.heap.size, o, none⟩) hz]; exact hp0 o ho
  have hw := h1.size
  have hu := h2.size
  refine ⟨h.more ?_, by simp [World.setCell]; omega, ?_, ?_, ?_, ?_⟩
  · exact (((h1.trans (h2.mono hw)).setCell (p := ⟨W.heap.size, 0, none⟩) (Nat.le_refl _) _).setCell (p := ⟨W.heap.size, 1, none⟩) (Nat.le_refl _) _).setCell (p := ⟨W.heap.size, 2, none⟩) (Nat.le_refl _) _
  · rw [hot _ _ _ _ (by omega), hot _ _ _ _ (by omega)]; exact World.cell?_setCell_same' _ _ _ (hp1 0 (by omega))
  · rw [hot _ _ _ _ (by omega)]; exact World.cell?_setCell_same' _ _ _ (by rw [hot _ _ _ _ (by omega)]; exact hp1 1 (by omega))
  · exact World.cell?_setCell_same' _ _ _ (by rw [hot _ _ _ _ (by omega), hot _ _ _ _ (by omega)]; exact hp1 2 (by omega))
  · have := h.lt
    exact own_base (own_set (own_set (own_set own _ _ ha) _ _ ha) _ _ ha) (by omega)
theorem Fin3.mk2 {w W U w2 : World} {k t : Int} {A : Option Addr} {x c : Nat} {d : List UInt8} (h : Res3 w W) (h1 : Below W.heap.size W U) (h2 : Below U.heap.size U w2) (own : w2.ownsRow U.heap.size 5 1 (.slice A x c) x (bv d)) :
    Fin3 w w2.heap.size k t A x c d (w2.alloc (.cells #[.int .i64 k, .int .i64 t, .slice A x c] 24)) := by
  obtain ⟨a, b, c'⟩ := box3 w2 (.int .i64 k) (.int .i64 t) (.slice A x c) 24
  have hw := h1.size
  have := h.lt
  exact ⟨h.more (bel_alloc (h1.trans (h2.mono hw)) (Nat.le_refl _) _), by simp, a, b, c', own_base (own_alloc own _) (by omega)⟩
set_option maxHeartbeats 1600000 in
theorem one_any {A : Option Addr} {n c : Nat} {b : List UInt8} (w : World) (hl : Hid (n = b.length)) (h : Hid (Rd w 1 A n c (bv b))) (hn : n ≤ 1073741824) :
    Calls Try.prog 49 #[.slice A n c] w (On w b) := by
  have hnc := h.out.nc
  have hc63 := h.out.c63
  by_cases h21 : n < 21
  · have R := Lib.hid (one_short (b := b) (by have := hl.out; omega))
    go_enter Try.func49, Try.ntmps49
    go_wp2
    exact bodyPost_ret (v := .tuple #[.agg #[.int .i64 0, .int .i64 0, .slice none 0 0], .int .i64 0]) (by simp [results, Try.results49, go_sem]) rfl (.inl ⟨R.out, rfl, (Below.refl _ _).alloc (Nat.le_refl _) _⟩)
  · obtain ⟨g, o, rfl, hg, _⟩ := h.out.at_ (by omega)
    have rd0 := Lib.hid (h.out.alloc (.cells #[.int .i64 0, .int .i64 0, .slice none 0 0] 24))
    have l4 := val_lt (b.take 4)
    have l4' : (b.take 4).length = 4 := by have := hl.out; simp; omega
    rw [l4'] at l4
    have v4 : Hid (val ((b.drop 0).take 4) = val (b.take 4)) := Lib.hid rfl
    have l8 := val_lt ((b.drop 4).take 4)
    have l8' : ((b.drop 4).take 4).length = 4 := by have := hl.out; simp; omega
    rw [l8'] at l8
    clear l4' l8'
    obtain ⟨x, hx⟩ : ∃ x, val (b.take 4) = x := ⟨_, rfl⟩
    obtain ⟨y, hy⟩ : ∃ y, val ((b.drop 4).take 4) = y := ⟨_, rfl⟩
    rw [hx] at l4 v4
    rw [hy] at l8
    have hx4 : x < 4294967296 := l4
    have hy4 : y < 4294967296 := l8
    have HX := Lib.hid hx
    have HY := Lib.hid hy
    clear hx hy l4 l8
    have hxor := u32_not x hx4
    obtain ⟨q, hq⟩ : ∃ q, 4294967295 - x = q := ⟨_, rfl⟩
    rw [hq] at hxor
    have HQ := Lib.hid hq; clear hq
    have hs : IntKind.u32.signed = false := rfl
    go_enter Try.func49, Try.ntmps49
    go_wp2_with fail
    go_at_call 58
    refine (value_any (l := (b.drop 0).take 4) _ (Lib.hid (sub_len hl.out (by omega))) (by omega) (Lib.hid (rd0.out.sub (lo := 0) (k := 4) (by omega)))).mono ?_
    rintro e w' ⟨rfl, rfl⟩
    rw [v4.out]
    go_wp2_with fail
    go_at_call 58
    refine (value_any (l := (b.drop 4).take 4) _ (Lib.hid (sub_len hl.out (by omega))) (by omega) (Lib.hid (rd0.out.sub (lo := 4) (k := 4) (by omega)))).mono ?_
    rintro e w' ⟨rfl, rfl⟩
    rw [HY.out]
    by_cases hyq : y = q
    · subst hyq
      by_cases hx5 : x ≤ 4096
      · by_cases hnx : 21 + x ≤ n
        · go_wp2_with fail
          have k1 : (0 : Int) ≤ 17 + (x : Int) := by omega
          have k2 : (17 : Int) + (x : Int) ≤ 17 + (x : Int) + 4 := by omega
          have k3 : (17 : Int) + (x : Int) + 4 ≤ (c : Int) := by omega
          have k4 : (8 : Int) ≤ 17 + (x : Int) := by omega
          have k5 : (17 : Int) + (x : Int) ≤ (c : Int) := by omega
          have k6 : IntKind.i64.wrap (17 + (x : Int) + 4) = 17 + (x : Int) + 4 := by simp only [IntKind.wrap_i64]; omega
          have k7 : ¬ c = 17 + x := by omega
          have k8 : ((17 : Int) + (x : Int)).toNat = 17 + x := by omega
          have k9 : ((17 : Int) + (x : Int) + 4).toNat = 21 + x := by omega
          have k11 : 21 + x - (17 + x) = 4 := by omega
          have k12 : 17 + x - 8 = 9 + x := by omega
          have k10 : ¬ c = 8 := by omega
          have l3 := val_lt ((b.drop (17 + x)).take 4)
          have hl3 : ((b.drop (17 + x)).take 4).length = 4 := by have := hl.out; simp; omega
          rw [hl3] at l3
          clear hl3
          obtain ⟨z, hz⟩ : ∃ z, val ((b.drop (17 + x)).take 4) = z := ⟨_, rfl⟩
          rw [hz] at l3
          have hz4 : z < 4294967296 := l3
          have hck := chk_lt ((b.drop 8).take (9 + x))
          obtain ⟨ck, hc⟩ : ∃ ck, chk ((b.drop 8).take (9 + x)) = ck := ⟨_, rfl⟩
          rw [hc] at hck
          have HZ := Lib.hid hz
          have HC := Lib.hid hc
          clear hz hc l3
          have CV : Hid (∀ W', (∃ a, W' = (w.alloc (.cells #[.int .i64 0, .int .i64 0, .slice none 0 0] 24)).drewN a) → Calls Try.prog 58 #[.slice (some ⟨g, o + (17 + x), none⟩) 4 (c - (17 + x))] W' fun e w' => e = .returned (.int .u64 (z : Nat)) ∧ W' = w') := by
            refine Lib.hid fun W' ⟨a, ha⟩ => ?_
            subst ha
            rw [← HZ.out]
            exact value_any _ (Lib.hid (sub_len hl.out (by omega))) (by omega) (Lib.hid ((rd0.out.sub (lo := 17 + x) (k := 4) (by omega)).drewN _))
          have CC : Hid (∀ W', (∃ a, W' = (w.alloc (.cells #[.int .i64 0, .int .i64 0, .slice none 0 0] 24)).drewN a) → Calls Try.prog 57 #[.slice (some ⟨g, o + 8, none⟩) (9 + x) (c - 8)] W' fun e w' => e = .returned (.int .u32 (ck : Nat)) ∧ W' = w') := by
            refine Lib.hid fun W' ⟨a, ha⟩ => ?_
            subst ha
            rw [← HC.out]
            exact check_any _ (Lib.hid (sub_len hl.out (by omega))) (Lib.hid ((rd0.out.sub (lo := 8) (k := 9 + x) (by omega)).drewN _))
          go_quiet ((first | (go_at_call 58; exact q0_same (CV.out _ ⟨_, rfl⟩)) | (go_at_call 57; exact q0_same (CC.out _ ⟨_, rfl⟩))))
          clear k1 k2 k3 k6 k9 k11 k12 CV CC
          by_cases hzc : z = ck
          · subst hzc
            obtain ⟨W1, hW1⟩ : ∃ W1, (w.alloc (.cells #[.int .i64 0, .int .i64 0, .slice none 0 0] 24)).drewN nq = W1 := ⟨_, rfl⟩
            rw [hW1]
            have bw1 : Below w.heap.size w W1 := hW1 ▸ bdrewN ((Below.refl _ _).alloc (Nat.le_refl _) _)
            have z1 : w.heap.size < W1.heap.size := by rw [← hW1]; simp
            have RS : Hid (Res3 w W1) := Lib.hid (hW1 ▸ (Res3.new w).more (bdrewN (Below.refl _ _)))
            have rd1 := Lib.hid (hW1 ▸ rd0.out.drewN nq)
            clear hW1
            have l9 := val_lt ((b.drop 9).take 8)
            have l9' : ((b.drop 9).take 8).length = 8 := by have := hl.out; simp; omega
            rw [l9'] at l9
            clear l9'
            obtain ⟨t, ht⟩ : ∃ t, val ((b.drop 9).take 8) = t := ⟨_, rfl⟩
            rw [ht] at l9
            have ht8 : t < 18446744073709551616 := l9
            have HT := Lib.hid ht
            clear ht l9
            go_wp2_with fail
            go_at_call 58
            refine (value_any (l := (b.drop 9).take 8) _ (Lib.hid (sub_len hl.out (by omega))) (by omega) (Lib.hid (rd1.out.sub (lo := 9) (k := 8) (by omega)))).mono ?_
            rintro e w' ⟨rfl, rfl⟩
            rw [HT.out]
            go_wp2_with fail
            obtain ⟨g', o', b8, e8, _, hb8, c8⟩ := rd1.out.byte (k := 8) (by omega)
            cases e8
            have hg1 : g < W1.heap.size := by omega
            have hn8 : (8 : Int) < (n : Int) := by omega
            have k6 : (17 : Int) ≤ 17 + (x : Int) := by omega
            have k9 : ¬ c = 17 := by omega
            have k12 : 17 + x - 17 = x := by omega
            have HK : Hid (∀ U, Below W1.heap.size W1 U → (U.cell? ⟨g, o + 8, none⟩ = some (.int .u8 (b8.toNat : Int)) ∧ Below W1.heap.size W1 U)) := Lib.hid fun U hU => ⟨(hU.cell (p := ⟨g, o + 8, none⟩) hg1).trans c8, hU⟩
            have k13 : IntKind.i64.wrap (b8.toNat : Int) = (b8.toNat : Int) := by have := b8.toNat_lt; simp only [IntKind.wrap_i64]; omega
            obtain ⟨tv, htv⟩ : ∃ tv, IntKind.i64.wrap (t : Int) = tv := ⟨_, rfl⟩
            have htt : t < 9223372036854775808 → tv = t := fun h => by rw [← htv]; simp only [IntKind.wrap_i64]; omega
            have HTT := Lib.hid htt
            clear htt
            have HR : Hid (rec1 b x = ⟨(b8.toNat : Int), (t : Int), (b.drop 17).take x⟩) := by
              refine Lib.hid ?_
              unfold rec1
              rw [HT.out, List.getD_eq_getElem?_getD, hb8]; rfl
            have HXL : Hid (((b.drop 17).take x).length = x) := Lib.hid (sub_len hl.out (by omega)).symm
            clear hb8
            have CL : Hid (∀ U, Below W1.heap.size W1 U → Calls Try.prog 28 #[.slice (some ⟨g, o + 17, none⟩) x (c - 17)] U (Mk U x ((b.drop 17).take x))) :=
              Lib.hid fun U hU => clone_any U (Lib.hid ((rd1.out.below hU).sub (lo := 17) (k := x) (by omega))) (by omega)
            go_region_held3 (fun w' => w'.cell? ⟨g, o + 8, none⟩ = some (.int .u8 (b8.toNat : Int)) ∧ Below W1.heap.size W1 w')
              ((refine HK.out _ ?_; repeat (first | exact Below.refl _ _ | assumption | (refine Below.drew ?_) | (refine bel_alloc ?_ (Nat.le_refl _) _) | (refine bel_step ?_ (by assumption) (Nat.le_refl _)) | (refine Below.setCell ?_ (by simp) _) | (refine Below.setCell ?_ (by simp; omega) _) | exact And.right (by assumption))))
              (first | (go_at_call 28; refine (CL.out _ (And.right (by assumption))).mono ?_; rintro e w2 ⟨A2, c2, rfl, own2, hb2⟩; obtain ⟨bc, bf⟩ := bcell hb2))
            · refine gen_world (Q := fun W => Exit.then _ _ Exit.normal _ W) (Fin3 w w2.heap.size b8.toNat tv A2 x c2 ((b.drop 17).take x)) (Fin3.mk2 RS.out (Below.refl _ _).drew hb2 own2) ?_
              have AB : blk A2 ≠ some w.heap.size := fun e => by have := (own_blk_le own2 e).1; have := hb2.size; simp at *; omega
              intro W3 F
              obtain ⟨⟨bel, lt, r0, r1, r2, f0, f1, f2⟩, sz, q0, q1, q2, own⟩ := F
              have OW := Lib.hid own
              clear own
              by_cases ht63 : t < 9223372036854775808
              · obtain rfl : tv = (t : Int) := HTT.out ht63
                rcases hv : okV b8.toNat t x with _ | _
                · have R := Lib.hid (one_n3 HX.out (by rw [HR.out, ok_iff]; rintro ⟨_, h⟩; rw [HXL.out, hv] at h; cases h))
                  have HV := Lib.hid hv
                  clear hv
                  go_wp2_with fail
                  go_at_call 42
                  refine (valid_any _ _ A2 x c2 _).mono ?_
                  rintro e w4 ⟨rfl, hb4⟩
                  rw [HV.out]
                  have RS4 := Res3.more ⟨bel, lt, r0, r1, r2, f0, f1, f2⟩ hb4
                  obtain ⟨bel4, lt4, s0, s1, s2, g0, g1, g2⟩ := RS4
                  clear hb4
                  go_wp2_with fail
                  exact bodyPost_ret (v := .tuple #[.agg #[.int .i64 0, .int .i64 0, .slice none 0 0], .int .i64 0]) (by simp [results, Try.results49, go_sem, s0, s1, s2]) rfl (.inl ⟨R.out, rfl, ((bel4.setCell (by simp) _).setCell (by simp) _).setCell (by simp) _⟩)
                · have R := Lib.hid (one_y HX.out (by rw [HY.out, HQ.out]; have := hl.out; omega) (by rw [HZ.out, HC.out]) (by rw [HR.out, ok_iff]; exact ⟨by show (t : Int) < _; omega, by rw [HXL.out]; exact hv⟩))
                  have HV := Lib.hid hv
                  clear hv
                  go_wp2_with fail
                  go_at_call 42
                  refine (valid_any _ _ A2 x c2 _).mono ?_
                  rintro e w4 ⟨rfl, hb4⟩
                  rw [HV.out]
                  have RS4 := Res3.more ⟨bel, lt, r0, r1, r2, f0, f1, f2⟩ hb4
                  obtain ⟨bel4, lt4, s0, s1, s2, g0, g1, g2⟩ := RS4
                  have p0 := (hb4.cell (p := ⟨w2.heap.size, 0, none⟩) sz).trans q0
                  have p1 := (hb4.cell (p := ⟨w2.heap.size, 1, none⟩) sz).trans q1
                  have p2 := (hb4.cell (p := ⟨w2.heap.size, 2, none⟩) sz).trans q2
                  have OW4 := own_below OW.out hb4
                  clear hb4
                  go_wp2_with fail
                  exact bodyPost_ret (v := .tuple #[.agg #[.int .i64 b8.toNat, .int .i64 t, .slice A2 x c2], .int .i64 (17 + x + 4)]) (by simp [results, Try.results49, go_sem, s0, s1, s2]) rfl (.inr ⟨_, x, A2, c2, R.out, by rw [HR.out]; exact HXL.out.symm, ret_val (by rw [HR.out]; simp; omega),
                    by rw [HR.out]; exact own_set (own_set (own_set OW4 _ _ AB) _ _ AB) _ _ AB, ((bel4.setCell (by simp) _).setCell (by simp) _).setCell (by simp) _⟩)
              · have R := Lib.hid (one_n3 HX.out (by rw [HR.out, ok_iff]; rintro ⟨h, _⟩; exact ht63 (by have : (t : Int) < _ := h; omega)))
                go_wp2_with fail
                exact bodyPost_ret (v := .tuple #[.agg #[.int .i64 0, .int .i64 0, .slice none 0 0], .int .i64 0]) (by simp [results, Try.results49, go_sem, r0, r1, r2]) rfl (.inl ⟨R.out, rfl, ((bel.setCell (by simp) _).setCell (by simp) _).setCell (by simp) _⟩)
            · refine gen_world (Q := fun W => Exit.then _ _ Exit.normal _ W) (Fin3 w W1.heap.size b8.toNat tv A2 x c2 ((b.drop 17).take x)) (Fin3.mk1 RS.out ((Below.refl _ _).alloc (Nat.le_refl _) _).drew hb2 (by simp) ?_ own2) ?_
              · intro o ho
                obtain ⟨a, b, c⟩ := box3 W1 (.int .i64 0) (.int .i64 0) (.slice none 0 0) 24
                have : o = 0 ∨ o = 1 ∨ o = 2 := by omega
                rcases this with rfl | rfl | rfl
                · exact Option.isSome_of_eq_some a
                · exact Option.isSome_of_eq_some b
                · exact Option.isSome_of_eq_some c
              have AB : blk A2 ≠ some w.heap.size := fun e => by have := (own_blk_le own2 e).1; have := hb2.size; simp at *; omega
              intro W3 F
              obtain ⟨⟨bel, lt, r0, r1, r2, f0, f1, f2⟩, sz, q0, q1, q2, own⟩ := F
              have OW := Lib.hid own
              clear own
              by_cases ht63 : t < 9223372036854775808
              · obtain rfl : tv = (t : Int) := HTT.out ht63
                rcases hv : okV b8.toNat t x with _ | _
                · have R := Lib.hid (one_n3 HX.out (by rw [HR.out, ok_iff]; rintro ⟨_, h⟩; rw [HXL.out, hv] at h; cases h))
                  have HV := Lib.hid hv
                  clear hv
                  go_wp2_with fail
                  go_at_call 42
                  refine (valid_any _ _ A2 x c2 _).mono ?_
                  rintro e w4 ⟨rfl, hb4⟩
                  rw [HV.out]
                  have RS4 := Res3.more ⟨bel, lt, r0, r1, r2, f0, f1, f2⟩ hb4
                  obtain ⟨bel4, lt4, s0, s1, s2, g0, g1, g2⟩ := RS4
                  clear hb4
                  go_wp2_with fail
                  exact bodyPost_ret (v := .tuple #[.agg #[.int .i64 0, .int .i64 0, .slice none 0 0], .int .i64 0]) (by simp [results, Try.results49, go_sem, s0, s1, s2]) rfl (.inl ⟨R.out, rfl, ((bel4.setCell (by simp) _).setCell (by simp) _).setCell (by simp) _⟩)
                · have R := Lib.hid (one_y HX.out (by rw [HY.out, HQ.out]; have := hl.out; omega) (by rw [HZ.out, HC.out]) (by rw [HR.out, ok_iff]; exact ⟨by show (t : Int) < _; omega, by rw [HXL.out]; exact hv⟩))
                  have HV := Lib.hid hv
                  clear hv
                  go_wp2_with fail
                  go_at_call 42
                  refine (valid_any _ _ A2 x c2 _).mono ?_
                  rintro e w4 ⟨rfl, hb4⟩
                  rw [HV.out]
                  have RS4 := Res3.more ⟨bel, lt, r0, r1, r2, f0, f1, f2⟩ hb4
                  obtain ⟨bel4, lt4, s0, s1, s2, g0, g1, g2⟩ := RS4
                  have p0 := (hb4.cell (p := ⟨W1.heap.size, 0, none⟩) sz).trans q0
                  have p1 := (hb4.cell (p := ⟨W1.heap.size, 1, none⟩) sz).trans q1
                  have p2 := (hb4.cell (p := ⟨W1.heap.size, 2, none⟩) sz).trans q2
                  have OW4 := own_below OW.out hb4
                  clear hb4
                  go_wp2_with fail
                  exact bodyPost_ret (v := .tuple #[.agg #[.int .i64 b8.toNat, .int .i64 t, .slice A2 x c2], .int .i64 (17 + x + 4)]) (by simp [results, Try.results49, go_sem, s0, s1, s2]) rfl (.inr ⟨_, x, A2, c2, R.out, by rw [HR.out]; exact HXL.out.symm, ret_val (by rw [HR.out]; simp; omega),
                    by rw [HR.out]; exact own_set (own_set (own_set OW4 _ _ AB) _ _ AB) _ _ AB, ((bel4.setCell (by simp) _).setCell (by simp) _).setCell (by simp) _⟩)
              · have R := Lib.hid (one_n3 HX.out (by rw [HR.out, ok_iff]; rintro ⟨h, _⟩; exact ht63 (by have : (t : Int) < _ := h; omega)))
                go_wp2_with fail
                exact bodyPost_ret (v := .tuple #[.agg #[.int .i64 0, .int .i64 0, .slice none 0 0], .int .i64 0]) (by simp [results, Try.results49, go_sem, r0, r1, r2]) rfl (.inl ⟨R.out, rfl, ((bel.setCell (by simp) _).setCell (by simp) _).setCell (by simp) _⟩)
          · have R := Lib.hid (one_n2 (b := b) (by rw [HX.out, HZ.out, HC.out]; exact hzc))
            have hd : ((z : Int) != (ck : Int)) = true := by simp; omega
            go_wp2
            exact bodyPost_ret (v := .tuple #[.agg #[.int .i64 0, .int .i64 0, .slice none 0 0], .int .i64 0]) (by simp [results, Try.results49, go_sem]) rfl (.inl ⟨R.out, rfl, (((bdrewN ((Below.refl _ _).alloc (Nat.le_refl _) _)).setCell (by simp) _).setCell (by simp) _).setCell (by simp) _⟩)
        · have R := Lib.hid (one_n1 (b := b) (by rw [HX.out]; right; right; have := hl.out; omega))
          go_wp2
          exact bodyPost_ret (v := .tuple #[.agg #[.int .i64 0, .int .i64 0, .slice none 0 0], .int .i64 0]) (by simp [results, Try.results49, go_sem]) rfl (.inl ⟨R.out, rfl, (Below.refl _ _).alloc (Nat.le_refl _) _⟩)
      · have R := Lib.hid (one_n1 (b := b) (by rw [HX.out]; right; left; omega))
        go_wp2
        exact bodyPost_ret (v := .tuple #[.agg #[.int .i64 0, .int .i64 0, .slice none 0 0], .int .i64 0]) (by simp [results, Try.results49, go_sem]) rfl (.inl ⟨R.out, rfl, (Below.refl _ _).alloc (Nat.le_refl _) _⟩)
    · have R := Lib.hid (one_n1 (b := b) (by rw [HX.out, HY.out, HQ.out]; left; exact hyq))
      have hd : ((y : Int) != (q : Int)) = true := by simp; omega
      go_wp2
      exact bodyPost_ret (v := .tuple #[.agg #[.int .i64 0, .int .i64 0, .slice none 0 0], .int .i64 0]) (by simp [results, Try.results49, go_sem]) rfl (.inl ⟨R.out, rfl, (Below.refl _ _).alloc (Nat.le_refl _) _⟩)
end Go.Proofs.Ytfkeedeiafegiaa.Wl
