/- Walk: the code of a record by the reference. -/
import Derived.Test.YtfkeedeiafegiaaWalW3
namespace Go.Proofs.Ytfkeedeiafegiaa.Wl
set_option linter.unusedVariables false
set_option linter.unusedSimpArgs false
open Go.RowKit

theorem rEncode_bad {B : Option Addr} {m d : Nat} (k t : Int) (w : World) (hv : okV k t m = false) :
    Calls Try.prog 15 #[.agg #[.int .i64 k, .int .i64 t, .slice B m d]] w (Er w 1) := by
  have HV := Lib.hid hv; clear hv
  go_enter Try.func15, Try.ntmps15
  go_wp2_with fail
  go_at_call 44
  refine (rValid_any k t B m d _).mono ?_
  rintro e w1 ⟨rfl, hb⟩
  rw [HV.out]
  have hbw : Below w.heap.size w w1 := ((Below.refl _ _).alloc (Nat.le_refl _) _).trans (hb.mono (by simp))
  clear hb
  go_wp2_with fail
  go_ret2
  exact ⟨rfl, hbw⟩
set_option maxHeartbeats 1600000 in
theorem rEncode_nat {B : Option Addr} {m d : Nat} {data : List UInt8} (k t : Nat) (w : World) (hd : Hid (Rd w 1 B m d (bv data))) (hv : okV k t m = true) (k1 : 1 ≤ k) (k2 : k ≤ 3) (t1 : 1 ≤ t) (t2 : t ≤ 9223372036854775807) (hm : m ≤ 4096) :
    Calls Try.prog 15 #[.agg #[.int .i64 k, .int .i64 t, .slice B m d]] w (En w (21 + m) (enc ⟨k, t, data⟩)) := by
  obtain ⟨i0, hi, hz0, hz1, hz2⟩ := info_parts info_u8
  have hd0 := Lib.hid (hd.out.alloc (.cells #[.int .i64 k, .int .i64 t, .slice B m d] 24))
  have HV := Lib.hid hv; clear hv
  obtain ⟨x0, x1, x2⟩ := box3 w (.int .i64 k) (.int .i64 t) (.slice B m d) 24
  have X0 := Lib.hid x0
  have X1 := Lib.hid x1
  have X2 := Lib.hid x2
  clear x0 x1 x2
  go_enter Try.func15, Try.ntmps15
  go_wp2_with fail
  go_at_call 44
  refine (rValid_any k t B m d _).mono ?_
  rintro e w1 ⟨rfl, hb⟩
  rw [HV.out]
  obtain ⟨W0, hW0⟩ : ∃ W0, w.alloc (.cells #[.int .i64 k, .int .i64 t, .slice B m d] 24) = W0 := ⟨_, rfl⟩
  have hz' : W0.heap.size = w.heap.size + 1 := by rw [← hW0]; simp
  have bw : Below w.heap.size w W0 := hW0 ▸ (Below.refl _ _).alloc (Nat.le_refl _) _
  rw [hW0] at X0 X1 X2 hb hd0
  clear hW0
  have hlt : w.heap.size < W0.heap.size := by omega
  clear hz'
  have hz := hb.size
  have x0 := (hb.cell (p := ⟨w.heap.size, 0, none⟩) hlt).trans X0.out
  have x1 := (hb.cell (p := ⟨w.heap.size, 1, none⟩) hlt).trans X1.out
  have x2 := (hb.cell (p := ⟨w.heap.size, 2, none⟩) hlt).trans X2.out
  go_wp2_with fail
  clear x0 x1 x2
  have bw1 : Below W0.heap.size W0 (w1.alloc (.cells #[.int .u8 k] 5)) := hb.alloc hz _
  have own1 : (w1.alloc (.cells #[.int .u8 k] 5)).ownsRow W0.heap.size 5 1 (.slice (some ⟨w1.heap.size, 0, none⟩) 1 1) 1 (bv [UInt8.ofNat k]) := by
    have := own_lit w1 (base := W0.heap.size) 5 1 #[.int .u8 k] 1 hz (by unfold maxLen; omega) rfl
    have e : bv [UInt8.ofNat k] = (#[Value.int .u8 k] : Array Value).toList := by
      show [Value.int .u8 ((UInt8.ofNat k).toNat : Int)] = [.int .u8 k]
      rw [show (UInt8.ofNat k).toNat = k by simp; omega]
    rw [e]; exact this
  have OW1 := Lib.hid own1
  clear own1 hb
  go_loopw [5, 6] (fun v i wr => ∃ j A' c', j ≤ 8 ∧ i = .int .i64 (j : Nat) ∧ v = .slice A' (1 + j) c' ∧ Hid (wr.ownsRow W0.heap.size 5 1 (.slice A' (1 + j) c') (1 + j) (bv (UInt8.ofNat k :: (be 8 t).take j))) ∧ Below W0.heap.size W0 wr) (fun _ i _ => (8 - intOf i).toNat)
  case atStart => exact ⟨0, _, _, by omega, rfl, rfl, OW1, bw1⟩
  case round =>
    obtain ⟨j, A', c', hj, rfl, rfl, own2, b2⟩ := hrel
    clear OW1 bw1
    have z2 := b2.size
    by_cases hlt8 : j < 8
    · have x1 := (b2.cell (p := ⟨w.heap.size, 1, none⟩) hlt).trans X1.out
      go_wp2_with (at_builtin; refine wpList_app _ rfl (.tmp 23) (.tmp 33) 22 rfl W0.heap.size 5 i0 (.int .u8 0) 1 1 Try.underlying22 hi hz0 hz1 hz2 rfl (by omega) (by rfl) (own_alloc own2.out _) (by rfl) (Rd.lit _ _ 1 #[_] 1 (by omega) rfl) (one1 _ rfl) (by omega) (by omega) (by simp; omega) ?_; intro A3 c3 w3 own3 g3)
      have hv8 : Value.int .u8 ((t : Int) / 2 ^ (56 - 8 * j) % 256) = .int .u8 ((UInt8.ofNat (t / 256 ^ (7 - j))).toNat : Int) := by
        have : (2 : Nat) ^ (56 - 8 * j) = 256 ^ (7 - j) := by rw [show 56 - 8 * j = 8 * (7 - j) by omega, Nat.pow_mul]
        congr 1
        rw [show ((2 : Int) ^ (56 - 8 * j)) = ((2 ^ (56 - 8 * j) : Nat) : Int) by simp, this]
        simp
      have hs := be_get 8 t j hlt8
      rw [show 8 - 1 - j = 7 - j by omega] at hs
      refine ⟨⟨j + 1, A3, c3, by omega, by go_num, rfl, ?_, g3.low (b2.alloc z2 _) (by simp; omega) (fun g e => (own_blk_le own2.out e).1)⟩, by simp [intOf]; omega⟩
      rw [take_snoc hs, ← List.cons_append, bv_app]
      rw [hv8] at own3
      exact own3
    · obtain rfl : j = 8 := by omega
      have x2 := (b2.cell (p := ⟨w.heap.size, 2, none⟩) hlt).trans X2.out
      have rd2 := hd0.out.below b2
      rw [List.take_of_length_le (Nat.le_of_eq (be_len 8 t))] at own2
      go_wp2_with (at_builtin; refine wpList_app _ rfl (.tmp 35) (.tmp 37) 22 rfl W0.heap.size 5 i0 (.int .u8 0) 1 1 Try.underlying22 hi hz0 hz1 hz2 rfl (by omega) (by rfl) own2.out (by rfl) rd2 (bv_one _) (by omega) (by omega) z2 ?_; intro A3 c3 w3 own3 g3)
      have b3 : Below W0.heap.size W0 w3 := g3.low b2 z2 (fun g e => (own_blk_le own2.out e).1)
      have z3 := b3.size
      have HB : Hid (bv (UInt8.ofNat k :: be 8 t) ++ bv data = bv (body ⟨k, t, data⟩)) := by
        refine Lib.hid ?_
        rw [← bv_app]; simp [body]
      rw [HB.out] at own3
      clear x2 rd2 own2 g3 HB
      have hx := u32_flip m (by omega)
      have hx2 : 4294967295 - m < 4294967296 := by omega
      obtain ⟨q, hq⟩ : ∃ q, 4294967295 - m = q := ⟨_, rfl⟩
      rw [hq] at hx hx2
      have HQ := Lib.hid hq; clear hq
      go_at_call 45
      refine (four_any m _ (by omega)).mono ?_
      rintro e w4 ⟨A4, c4, rfl, own4, b4⟩
      have own3' := own_below own3 b4
      have ap := own_apart own3 own4 (Nat.le_refl _)
      have own9 := own3
      clear own3
      have z4 := b4.size
      go_wp2_with fail
      go_at_call 45
      refine (four_any q _ (by omega)).mono ?_
      rintro e w5 ⟨A5, c5, rfl, own5, b5⟩
      have own3 := own_below own3' b5
      have own4' := own_below own4 b5
      clear own3'
      have z5 := b5.size
      go_wp2_with (first
        | (at_builtin; refine wpList_app _ rfl (.tmp 40) (.tmp 43) 22 rfl w3.heap.size 5 i0 (.int .u8 0) 1 1 Try.underlying22 hi hz0 hz1 hz2 rfl (by omega) (by rfl) own4' (by rfl) (Rd.of_own own5) (bv_one _) (by omega) (by omega) (by omega) ?_; intro A6 c6 w6 own6 g6; have own3' := own_grew own3 g6 ap; clear own3 own4'; have z6 := g6.by_.size; have ap2 := own_apart own9 own6 (Nat.le_refl _))
        | (at_builtin; refine wpList_app _ rfl (.tmp 45) (.tmp 46) 22 rfl w3.heap.size 5 i0 (.int .u8 0) 1 1 Try.underlying22 hi hz0 hz1 hz2 rfl (by omega) (by rfl) own6 (by rfl) (Rd.of_own own3') (bv_one _) (by omega) (by omega) (by omega) ?_; intro A7 c7 w7 own7 g7; have own3 := own_grew own3' g7 ap2; clear own3' own6; have z7 := g7.by_.size))
      have hml : m = data.length := by have := hd.out.len; rw [bv_len] at this; omega
      have HM : Hid (1 + 8 + m = (body ⟨k, t, data⟩).length) := by refine Lib.hid ?_; rw [body_len]; show _ = 9 + data.length; omega
      have HN := Lib.hid hml
      clear hml
      have hrd := Lib.hid (Rd.of_own own3)
      go_at_call 46
      refine (rCheck_any (l := body ⟨k, t, data⟩) _ HM hrd).mono ?_
      rintro e w' ⟨rfl, rfl⟩
      have hck := chk_lt (body ⟨k, t, data⟩)
      obtain ⟨ck, hck'⟩ : ∃ ck, chk (body ⟨k, t, data⟩) = ck := ⟨_, rfl⟩
      rw [hck'] at hck ⊢
      have HC := Lib.hid hck'
      clear hck' hrd
      go_wp2_with fail
      go_at_call 45
      refine (four_any ck _ hck).mono ?_
      rintro e w8 ⟨A8, c8, rfl, own8, b8⟩
      have own7' := own_below own7 b8
      have z8 := b8.size
      clear own7
      go_wp2_with (at_builtin; refine wpList_app _ rfl (.tmp 48) (.tmp 51) 22 rfl w3.heap.size 5 i0 (.int .u8 0) 1 1 Try.underlying22 hi hz0 hz1 hz2 rfl (by omega) (by rfl) own7' (by rfl) (Rd.of_own own8) (bv_one _) (by omega) (by omega) (by omega) ?_; intro A9 c9' w9 own9' g9)
      go_ret2
      have e : 4 + 4 + (1 + 8 + m) + 4 = 21 + m := by omega
      rw [e] at own9'
      have g69 : Grew w5 A4 w9 A9 := ((g6.trans g7).below b8).trans g9
      have bL : Below w.heap.size w w9 := by
        refine g69.low (((bw.trans (b3.mono (by omega))).trans (b4.mono (by omega))).trans (b5.mono (by omega))) (by omega) fun g e => ?_
        have := (own_blk_le own4 e).1
        omega
      refine ⟨A9, c9', ?_, ?_, bL⟩
      · exact ret_val (by simp; omega)
      · have hE : enc ⟨k, t, data⟩ = be 4 m ++ be 4 q ++ body ⟨k, t, data⟩ ++ be 4 ck := by
          unfold enc; rw [HC.out]; show be 4 data.length ++ (be 4 (4294967295 - data.length) ++ _) = _
          rw [← HN.out, HQ.out]; simp
        rw [hE, bv_app, bv_app, bv_app]
        exact own_base own9' (by omega)
theorem rEncode_ok {B : Option Addr} {m d : Nat} {data : List UInt8} (k t : Int) (w : World) (hd : Hid (Rd w 1 B m d (bv data))) (hv : okV k t m = true) (t2 : t ≤ 9223372036854775807) :
    Calls Try.prog 15 #[.agg #[.int .i64 k, .int .i64 t, .slice B m d]] w (En w (21 + m) (enc ⟨k, t, data⟩)) := by
  obtain ⟨k1, k2, t1, hm, _⟩ := okV_p hv
  obtain ⟨k, rfl⟩ := Int.eq_ofNat_of_zero_le (show 0 ≤ k by omega)
  obtain ⟨t, rfl⟩ := Int.eq_ofNat_of_zero_le (show 0 ≤ t by omega)
  exact rEncode_nat k t w hd hv (by omega) (by omega) (by omega) (by omega) hm
end Go.Proofs.Ytfkeedeiafegiaa.Wl
