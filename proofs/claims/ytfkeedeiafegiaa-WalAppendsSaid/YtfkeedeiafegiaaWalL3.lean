/- The law: WalAppends. -/
import Derived.Test.YtfkeedeiafegiaaWalL2
namespace Go.Proofs.Ytfkeedeiafegiaa.Wl
set_option linter.unusedVariables false
set_option linter.unusedSimpArgs false
open Go.RowKit

theorem aerr_bd (b : List UInt8) (r : Rec) : aerr b r = 0 ∨ aerr b r = 1 ∨ aerr b r = 5 ∨ aerr b r = 16 := by
  unfold aerr; split; simp; split; simp; split <;> simp
set_option maxHeartbeats 1600000 in
theorem WalAppends_walk (A : Option Addr) (n c : Nat) (l : List RV) (B : Option Addr) (m d : Nat) (x : List UInt8) (k t : Int) (C : Option Addr) (n2 c2 : Nat) (dat : List UInt8) (w : World) (h : Hid (Rr w A n c l)) (hf : Hid (Fit l)) (hx : Hid (Rd w 1 B m d (bv x)))
    (t2 : t ≤ 9223372036854775807) (hd : Hid (Rd w 1 C n2 c2 (bv dat))) :
    Calls Try.prog 5 #[.slice A n c, .slice B m d, .agg #[.int .i64 k, .int .i64 t, .slice C n2 c2]] w fun e w' => e = .returned (.bool true) ∧ Below w.heap.size w w' := by
  obtain ⟨i0, hi, hz0, hz1, hz2⟩ := info_parts info_u8
  obtain ⟨W0, hW0⟩ : ∃ W0, w.alloc (.cells #[.int .i64 k, .int .i64 t, .slice C n2 c2] 24) = W0 := ⟨_, rfl⟩
  obtain ⟨y0, y1, y2⟩ := box3 w (.int .i64 k) (.int .i64 t) (.slice C n2 c2) 24
  rw [hW0] at y0 y1 y2
  have bw0 : Below w.heap.size w W0 := hW0 ▸ (Below.refl _ _).alloc (Nat.le_refl _) _
  have hp : w.heap.size < W0.heap.size := by rw [← hW0]; simp
  have h0 := Lib.hid (h.out.below bw0)
  have x0 := Lib.hid (hx.out.below bw0)
  have d0 := Lib.hid (hd.out.below bw0)
  have KE : Hid (∀ U, Below W0.heap.size W0 U → U.cell? ⟨w.heap.size, 0, none⟩ = some (.int .i64 k) ∧ U.cell? ⟨w.heap.size, 1, none⟩ = some (.int .i64 t) ∧ U.cell? ⟨w.heap.size, 2, none⟩ = some (.slice C n2 c2)) :=
    Lib.hid fun U hU => ⟨(hU.cell (p := ⟨w.heap.size, 0, none⟩) hp).trans y0, (hU.cell (p := ⟨w.heap.size, 1, none⟩) hp).trans y1, (hU.cell (p := ⟨w.heap.size, 2, none⟩) hp).trans y2⟩
  have HW0 := Lib.hid hW0
  have hdl : Hid (n2 = dat.length) := Lib.hid (by have := hd.out.len; rw [bv_len] at this; omega)
  clear y0 y1 y2 hW0
  go_enter Try.func5, Try.ntmps5
  go_wp2_with fail
  rw [HW0.out]
  go_at_call 13
  refine (awake_any _).mono ?_
  rintro e w1 ⟨rfl, b1⟩
  have h1 := Lib.hid (h0.out.below b1)
  have x1 := Lib.hid (x0.out.below b1)
  have d1 := Lib.hid (d0.out.below b1)
  go_wp2_with fail
  go_at_call 17
  refine (great_any _ h1).mono ?_
  rintro e w2 ⟨rfl, b2⟩
  have h2 := Lib.hid (h1.out.below b2)
  have x2 := Lib.hid (x1.out.below b2)
  have d2 := Lib.hid (d1.out.below b2)
  have v2 := b1.trans (b2.mono b1.size)
  clear b1 b2 h1 x1 d1
  rcases hg : greatB l with _ | _
  · have hgr := greatB_f hg
    have h40 : n ≤ 40 := by rw [h.out.len]; exact hgr.1
    have h5 := Lib.hid hgr.2
    have hll := log_le hg
    have HGB := Lib.hid hg
    clear hg hgr
    obtain ⟨z0, z1, z2⟩ := KE.out _ v2
    go_wp2_with fail
    obtain ⟨w3, hw3⟩ : ∃ w3, w2.alloc (.cells #[.int .i64 k, .int .i64 t, .slice C n2 c2] 24) = w3 := ⟨_, rfl⟩
    have b3 : Below w2.heap.size w2 w3 := hw3 ▸ (Below.refl _ _).alloc (Nat.le_refl _) _
    have r3 : Hid (Rr w3 (some ⟨w2.heap.size, 0, none⟩) 1 1 [⟨k, t, C, c2, dat⟩]) := Lib.hid (hw3 ▸ Rr.lit #[.int .i64 k, .int .i64 t, .slice C n2 c2] 1 rfl (by omega) rfl (by rw [hdl.out]; rfl) (by
      intro y hy
      obtain rfl : y = _ := by simpa using hy
      show Rd w2 1 C dat.length c2 _
      rw [← hdl.out]; exact d2.out))
    have HW3 := Lib.hid hw3
    have v3 := v2.trans (b3.mono v2.size)
    have h3 := Lib.hid (h2.out.below b3)
    have x3 := Lib.hid (x2.out.below b3)
    have d3 := Lib.hid (d2.out.below b3)
    clear hw3 b3 z0 z1 z2 h2 x2 d2 v2
    rw [HW3.out]
    go_at_call 17
    refine (great_any _ r3).mono ?_
    rintro e w4 ⟨rfl, b4⟩
    have h4 := Lib.hid (h3.out.below b4)
    have x4 := Lib.hid (x3.out.below b4)
    have d4 := Lib.hid (d3.out.below b4)
    have v4 := v3.trans (b4.mono v3.size)
    have bw4 := bw0.trans (v4.mono bw0.size)
    clear b4 h3 x3 d3 v3 r3
    rcases hg2 : greatB [⟨k, t, C, c2, dat⟩] with _ | _
    · have hn5 : n2 ≤ 5000 := by have := (greatB_f hg2).2 _ (List.mem_singleton.2 rfl); rw [hdl.out]; exact this
      clear hg2
      by_cases hm : m ≤ 1000
      · go_wp2_with fail
        go_at_call 18
        refine (log_any _ h4 hf h40 h5).mono ?_
        obtain ⟨q, hq⟩ : ∃ q, (encs (vals l)).length = q := ⟨_, rfl⟩
        rw [hq] at hll ⊢
        have HQ := Lib.hid hq
        clear hq
        rintro e w5 ⟨A5, c5, rfl, own5, b5⟩
        have x5 := x4.out.below b5
        have d5 := d4.out.below b5
        have zz5 := b5.size
        go_wp2_with (at_builtin; refine wpList_app _ rfl (.tmp 27) (.tmp 28) 22 rfl w4.heap.size 5 i0 (.int .u8 0) 1 1 Try.underlying22 hi hz0 hz1 hz2 rfl (by omega) (by rfl) own5 (by rfl) x5 (bv_one _) (by omega) (by omega) zz5 ?_; intro A6 c6 w6 own6 g6; have b46 := g6.low b5 zz5 (fun g e => (own_blk_le own5 e).1); have v6 := v4.trans (b46.mono v4.size); obtain ⟨z0, z1, z2⟩ := KE.out _ v6)
        have R6 : Hid (Rd w6 1 A6 (q + m) c6 (bv (encs (vals l) ++ x))) := Lib.hid (by rw [bv_app]; exact Rd.of_own own6)
        have HL : Hid (q + m = (encs (vals l) ++ x).length) := Lib.hid (by rw [List.length_append, HQ.out]; have := hx.out.len; rw [bv_len] at this; omega)
        have d6 := Lib.hid (d4.out.below b46)
        clear own5 own6 g6 x5 d5 d4 x4 h4 b5 b46 v4 bw4
        obtain ⟨b, hb⟩ : ∃ b, encs (vals l) ++ x = b := ⟨_, rfl⟩
        rw [hb] at R6 HL
        clear hb
        go_at_call 22
        refine (Append_any k t _ HL R6 (by omega) hdl d6 t2).mono ?_
        rintro e w7 ⟨A7, n7, c7, rfl, own7, b7⟩
        have v7 := v6.trans (b7.mono v6.size)
        have R7 := Lib.hid (R6.out.below b7)
        have d7 := Lib.hid (d6.out.below b7)
        have O7 := Lib.hid (Rd.of_own own7)
        obtain ⟨er, her⟩ : ∃ er, aerr b ⟨k, t, dat⟩ = er := ⟨_, rfl⟩
        rw [her]
        have HER := Lib.hid her
        clear her b7 own7 R6 d6 v6 z0 z1 z2
        obtain ⟨z0, z1, z2⟩ := KE.out _ v7
        go_wp2_with fail
        go_at_call 23
        refine (rAppend_any k t _ HL R7 (by omega) hdl d7 t2).mono ?_
        rintro e w8 ⟨A8, n8, c8, rfl, own8, b8⟩
        have v8 := v7.trans (b8.mono v7.size)
        have O7' := Lib.hid (O7.out.below b8)
        have O8 := Lib.hid (Rd.of_own own8)
        have bw8 := bw0.trans (v8.mono bw0.size)
        rw [HER.out]
        clear b8 own8 R7 d7 v7 z0 z1 z2 O7
        go_wp2_with fail
        go_at_call 16
        refine (Equal_any _ O7' O8).mono ?_
        rintro e w' ⟨rfl, rfl⟩
        rw [eqB_self]
        go_wp2_with fail
        go_ret
        exact ⟨rfl, bw8⟩
      · go_wp2_with fail
        go_ret
        exact ⟨rfl, bw4⟩
    · go_wp2_with fail
      go_ret
      exact ⟨rfl, bw4⟩
  · have bw2 := bw0.trans (v2.mono bw0.size)
    go_wp2_with fail
    go_ret
    exact ⟨rfl, bw2⟩
end Go.Proofs.Ytfkeedeiafegiaa.Wl
