/- The law: WalKeeps. -/
import Derived.Test.YtfkeedeiafegiaaWalW23
namespace Go.Proofs.Ytfkeedeiafegiaa.Wl
set_option linter.unusedVariables false
set_option linter.unusedSimpArgs false
open Go.RowKit

theorem keepL_map (f : Int) (l : List RV) : (keepL f l).map RV.r = (l.map RV.r).filter (fun x => decide (f ≤ x.t)) := by
  unfold keepL; rw [List.filter_map]; rfl
theorem rend_encs {l : List Rec} (h : ∀ r ∈ l, ok r) (hu : upc l = l) : rend (encs l) = (encs l).length := by
  unfold rend; rw [rd_encs h, hu]
theorem com_len (l : List Rec) : (com l).length ≤ l.length * l.length := by
  have h := sts_le l
  unfold com
  have : ∀ (q : List (Int × List Rec)) (k : Nat), (∀ p ∈ q, p.2.length ≤ k) → ((q.map (·.2)).flatten).length ≤ q.length * k := by
    intro q k
    induction q with
    | nil => intro _; simp
    | cons p q ih =>
      intro hq
      have := ih fun p hp => hq p (by simp [hp])
      have := hq p (by simp)
      simp only [List.map_cons, List.flatten_cons, List.length_append, List.length_cons, Nat.add_mul]
      omega
  have h1 := this (trs l) l.length h.2.2
  have h2 : (trs l).length * l.length ≤ l.length * l.length := Nat.mul_le_mul_right _ h.2.1
  omega
set_option maxRecDepth 20000 in
set_option maxHeartbeats 3200000 in
theorem WalKeeps_walk (A : Option Addr) (n c : Nat) (l : List RV) (B : Option Addr) (m d : Nat) (x : List UInt8) (f : Int) (w : World) (h : Hid (Rr w A n c l)) (hf : Hid (Fit l)) (hx : Hid (Rd w 1 B m d (bv x))) (f1 : -9223372036854775808 ≤ f) (f2 : f ≤ 9223372036854775807) :
    Calls Try.prog 12 #[.slice A n c, .slice B m d, .int .i64 f] w fun e w' => e = .returned (.bool true) ∧ Below w.heap.size w w' := by
  obtain ⟨i0, hi, hz0, hz1, hz2⟩ := info_parts info_u8
  go_enter Try.func12, Try.ntmps12
  go_wp2_with fail
  obtain ⟨W0, hW0⟩ : ∃ W0, w.alloc (.cells #[.int .i64 f] 3) = W0 := ⟨_, rfl⟩
  have b0 : Below w.heap.size w W0 := hW0 ▸ (Below.refl _ _).alloc (Nat.le_refl _) _
  have hpz : w.heap.size < W0.heap.size := by rw [← hW0]; simp
  have q0 : W0.cell? ⟨w.heap.size, 0, none⟩ = some (.int .i64 f) := by rw [← hW0]; unfold World.cell?; rw [heap_alloc_new]; rfl
  have KE : Hid (∀ U, Below W0.heap.size W0 U → U.cell? ⟨w.heap.size, 0, none⟩ = some (.int .i64 f)) := Lib.hid fun U hU => (hU.cell (p := ⟨w.heap.size, 0, none⟩) hpz).trans q0
  have h0 := Lib.hid (h.out.below b0)
  have x0 := Lib.hid (hx.out.below b0)
  rw [hW0]
  clear hW0 q0
  go_at_call 13
  refine (awake_any _).mono ?_
  rintro e w1 ⟨rfl, b1⟩
  have h1 := Lib.hid (h0.out.below b1)
  have x1 := Lib.hid (x0.out.below b1)
  go_wp2_with fail
  go_at_call 17
  refine (great_any _ h1).mono ?_
  rintro e w2 ⟨rfl, b2⟩
  have h2 := Lib.hid (h1.out.below b2)
  have x2 := Lib.hid (x1.out.below b2)
  have bw2 := b1.trans (b2.mono b1.size)
  clear b1 b2 h1 x1
  rcases hg : greatB l with _ | _
  · have hgr := greatB_f hg
    have h40 : n ≤ 40 := by rw [h.out.len]; exact hgr.1
    have h5 := Lib.hid hgr.2
    have hll := log_le hg
    have HGB := Lib.hid hg
    clear hg hgr
    by_cases hm : m ≤ 1000
    · go_wp2_with fail
      go_at_call 18
      refine (log_any _ h2 hf h40 h5).mono ?_
      obtain ⟨q, hq⟩ : ∃ q, (encs (vals l)).length = q := ⟨_, rfl⟩
      rw [hq] at hll ⊢
      have HQ := Lib.hid hq
      clear hq
      rintro e w3 ⟨A3, c3, rfl, own3, b3⟩
      have x3 := x2.out.below b3
      have z3 := b3.size
      go_wp2_with (at_builtin; refine wpList_app _ rfl (.tmp 25) (.tmp 26) 22 rfl w2.heap.size 5 i0 (.int .u8 0) 1 1 Try.underlying22 hi hz0 hz1 hz2 rfl (by omega) (by rfl) own3 (by rfl) x3 (bv_one _) (by omega) (by omega) z3 ?_; intro A4 c4 w4 own4 g4)
      have bw4 := bw2.trans ((g4.low b3 z3 (fun g e => (own_blk_le own3 e).1)).mono bw2.size)
      have R4 : Hid (Rd w4 1 A4 (q + m) c4 (bv (encs (vals l) ++ x))) := Lib.hid (by rw [bv_app]; exact Rd.of_own own4)
      have HL : Hid (q + m = (encs (vals l) ++ x).length) := Lib.hid (by rw [List.length_append, HQ.out]; have := hx.out.len; rw [bv_len] at this; omega)
      clear own3 own4 g4 x3 x2 h2 b3 bw2
      obtain ⟨b, hb⟩ : ∃ b, encs (vals l) ++ x = b := ⟨_, rfl⟩
      rw [hb] at R4 HL
      clear hb
      have hok := rd_ok b
      obtain ⟨nr, hnr⟩ : ∃ nr, rend b = nr := ⟨_, rfl⟩
      obtain ⟨rb, hrb⟩ : ∃ rb, encs (upc (rd b)) = rb := ⟨_, rfl⟩
      have hrt : b.take nr = rb := by rw [← hnr, ← hrb]; exact rend_take b
      have hnrl : Hid (nr = rb.length) := Lib.hid (by rw [← hnr, ← hrb]; rfl)
      have hnr1 : nr ≤ q + m := by rw [HL.out, ← hnr]; exact rend_le b
      have F1 : Hid (com (rd rb) = com (rd b)) := Lib.hid (by rw [← hrb, rd_encs (upc_ok _ hok), com_upc])
      have F2 : Hid (rend rb = nr ∧ rb.take nr = rb) := Lib.hid (by
        have : rend rb = rb.length := by rw [← hrb]; exact rend_encs (upc_ok _ hok) (upc_upc _)
        exact ⟨by rw [this, hnrl.out], by rw [hnrl.out, List.take_length]⟩)
      have F3 : Hid (b.take rb.length = rb) := Lib.hid (by rw [← hnrl.out]; exact hrt)
      have G1 : Hid (∀ f, com (rd (encs (cmp (rd b) f))) = (com (rd b)).filter (fun x => decide (f ≤ x.t))) := Lib.hid fun f => by rw [rd_encs (cmp_ok _ f hok), com_cmp]
      have G2 : Hid (rend (encs (cmp (rd b) 1)) = (encs (cmp (rd b) 1)).length) := Lib.hid (rend_encs (cmp_ok _ 1 hok) (upc_cmp _ _))
      have G3 : Hid (com (rd (encs (cmp (rd b) 1))) = com (rd b)) := Lib.hid (by rw [rd_encs (cmp_ok _ 1 hok), com_cmp1 _ hok])
      have G4 : Hid (∀ f, (encs (cmp (rd b) f)).length ≤ q + m) := Lib.hid fun f => by
        have h2 := cmp_len (rd b) f hok
        have h3 := glen_le b
        unfold glen at h3
        have := HL.out
        omega
      have HNR := Lib.hid hnr
      clear hok hnr hrb
      have HRT := Lib.hid hrt
      clear hrt
      go_at_call 24
      refine (Committed_any _ HL R4 (by omega)).mono ?_
      rintro e w5 ⟨A5, n5, c5, l5, rfl, rs5, hl5, b5⟩
      have bw5 := bw4.trans (b5.mono bw4.size)
      have R5 := Lib.hid (R4.out.below b5)
      have S5 := Lib.hid rs5
      have HL5 := Lib.hid hl5
      clear b5 rs5 hl5 R4 bw4
      go_wp2_with fail
      go_at_call 35
      refine (Repair_any _ HL R5 (by omega)).mono ?_
      rintro e w6 ⟨A6, c6, rfl, own6, b6⟩
      rw [HNR.out] at own6 ⊢
      rw [HRT.out] at own6
      have bw6 := bw5.trans (b6.mono bw5.size)
      have R6 := Lib.hid (R5.out.below b6)
      have S6 := Lib.hid (S5.out.below b6)
      have D6 := Lib.hid (Rd.of_own own6)
      clear own6 b6 R5 S5 bw5
      go_wp2_with fail
      go_at_call 32
      refine (Compact_ok 1 _ HL R6 (by omega) (by omega) (by omega)).mono ?_
      rintro e w7 ⟨A7, nc, c7, rfl, hnc, own7, b7⟩
      obtain ⟨cb, hcb⟩ : ∃ cb, encs (cmp (rd b) 1) = cb := ⟨_, rfl⟩
      have hcq : nc ≤ q + m := by rw [hnc]; exact G4.out 1
      rw [hcb] at own7 G2 G3 hnc
      have HNC := Lib.hid hnc
      have bw7 := bw6.trans (b7.mono bw6.size)
      have R7 := Lib.hid (R6.out.below b7)
      have S7 := Lib.hid (S6.out.below b7)
      have D7 := Lib.hid (D6.out.below b7)
      have E7 := Lib.hid (Rd.of_own own7)
      clear own7 b7 R6 S6 D6 bw6 hcb hnc
      go_wp2_with fail
      go_at_call 24
      refine (Committed_any _ hnrl D7 (by omega)).mono ?_
      rintro e w8 ⟨A8, n8, c8, l8, rfl, rs8, hl8, b8⟩
      have bw8 := bw7.trans (b8.mono bw7.size)
      have R8 := Lib.hid (R7.out.below b8)
      have S8 := Lib.hid (S7.out.below b8)
      have D8 := Lib.hid (D7.out.below b8)
      have E8 := Lib.hid (E7.out.below b8)
      have T8 := Lib.hid rs8.rr
      have HL8 := Lib.hid hl8
      clear b8 rs8 hl8 R7 S7 D7 E7 bw7
      go_wp2_with fail
      go_at_call 21
      refine (equal_any _ T8 (Lib.hid S8.out.rr)).mono ?_
      rintro e w9 ⟨rfl, b9⟩
      rw [show eqR (l8.map RV.r) (l5.map RV.r) = true by rw [HL8.out, HL5.out, F1.out]; exact eqR_self _]
      have bw9 := bw8.trans (b9.mono bw8.size)
      have R9 := Lib.hid (R8.out.below b9)
      have S9 := Lib.hid (S8.out.below b9)
      have D9 := Lib.hid (D8.out.below b9)
      have E9 := Lib.hid (E8.out.below b9)
      clear b9 R8 S8 D8 E8 bw8 T8 HL8
      go_wp2_with fail
      go_at_call 24
      refine (Committed_any _ HNC E9 (by omega)).mono ?_
      rintro e w10 ⟨A10, n10, c10, l10, rfl, rs10, hl10, b10⟩
      have bw10 := bw9.trans (b10.mono bw9.size)
      have R10 := Lib.hid (R9.out.below b10)
      have S10 := Lib.hid (S9.out.below b10)
      have D10 := Lib.hid (D9.out.below b10)
      have E10 := Lib.hid (E9.out.below b10)
      have T10 := Lib.hid rs10.rr
      have HL10 := Lib.hid hl10
      clear b10 rs10 hl10 R9 S9 D9 E9 bw9
      go_wp2_with fail
      go_at_call 21
      refine (equal_any _ T10 (Lib.hid S10.out.rr)).mono ?_
      rintro e w11 ⟨rfl, b11⟩
      rw [show eqR (l10.map RV.r) (l5.map RV.r) = true by rw [HL10.out, HL5.out, G3.out]; exact eqR_self _]
      have bw11 := bw10.trans (b11.mono bw10.size)
      have R11 := Lib.hid (R10.out.below b11)
      have S11 := Lib.hid (S10.out.below b11)
      have D11 := Lib.hid (D10.out.below b11)
      have E11 := Lib.hid (E10.out.below b11)
      clear b11 R10 S10 D10 E10 bw10 T10 HL10
      go_wp2_with fail
      go_at_call 35
      refine (Repair_any _ hnrl D11 (by omega)).mono ?_
      rintro e w12 ⟨A12, c12, rfl, own12, b12⟩
      rw [F2.out.1] at own12 ⊢
      rw [F2.out.2] at own12
      have bw12 := bw11.trans (b12.mono bw11.size)
      have R12 := Lib.hid (R11.out.below b12)
      have S12 := Lib.hid (S11.out.below b12)
      have D12 := Lib.hid (D11.out.below b12)
      have E12 := Lib.hid (E11.out.below b12)
      have T12 := Lib.hid (Rd.of_own own12)
      clear b12 own12 R11 S11 D11 E11 bw11
      go_wp2_with fail
      go_at_call 16
      refine (Equal_any _ T12 D12).mono ?_
      rintro e w' ⟨rfl, rfl⟩
      rw [eqB_self]
      go_wp2_with fail
      go_at_call 35
      refine (Repair_any _ HNC E12 (by omega)).mono ?_
      rintro e w13 ⟨A13, c13, rfl, own13, b13⟩
      rw [G2.out, List.take_length, ← HNC.out] at own13
      rw [G2.out, ← HNC.out]
      have bw13 := bw12.trans (b13.mono bw12.size)
      have R13 := Lib.hid (R12.out.below b13)
      have S13 := Lib.hid (S12.out.below b13)
      have D13 := Lib.hid (D12.out.below b13)
      have E13 := Lib.hid (E12.out.below b13)
      have T13 := Lib.hid (Rd.of_own own13)
      clear b13 own13 R12 S12 D12 E12 bw12 T12
      go_wp2_with fail
      go_at_call 16
      refine (Equal_any _ T13 E13).mono ?_
      rintro e w' ⟨rfl, rfl⟩
      rw [eqB_self]
      go_wp2_with fail
      go_at_call 31
      refine (HasPrefix_any _ R13 D13).mono ?_
      rintro e w' ⟨rfl, rfl⟩
      rw [F3.out, eqB_self]
      have pc := KE.out _ bw13
      clear T13 D13 E13
      rcases Int.lt_or_le f 1 with hf1 | hf1
      · have HF := Lib.hid hf1
        go_wp2_with fail
        go_at_call 32
        refine (Compact_bad f _ HF.out).mono ?_
        rintro e w14 ⟨rfl, b14⟩
        have bw14 := bw13.trans (b14.mono bw13.size)
        have pc14 := KE.out _ bw14
        have hfb : decide (f < 1) = true := by simp; omega
        clear pc b14
        go_wp2_with fail
        go_ret
        exact ⟨rfl, b0.trans (bw14.mono b0.size)⟩
      · have HF := Lib.hid hf1
        go_wp2_with fail
        go_at_call 32
        refine (Compact_ok f _ HL R13 (by omega) HF.out f2).mono ?_
        rintro e w14 ⟨A14, n14, c14, rfl, hn14, own14, b14⟩
        have bw14 := bw13.trans (b14.mono bw13.size)
        have S14 := Lib.hid (S13.out.below b14)
        have HN14 := Lib.hid hn14
        have hq14 : n14 ≤ q + m := by rw [hn14]; exact G4.out f
        have O14 := Lib.hid own14
        have hn5 : n5 ≤ 1073741824 := by
          have e1 := S14.out.len
          have e2 := congrArg List.length HL5.out
          rw [List.length_map] at e2
          have e3 := com_len (rd b)
          have e4 := rd_small b
          have e5 := HL.out
          have e6 : (rd b).length * (rd b).length ≤ 8000 * 8000 := Nat.mul_le_mul (by omega) (by omega)
          omega
        clear pc b14 S13 R13 bw13 own14 hn14
        go_wp2_with fail
        go_at_call 38
        refine (rclone_any _ (Lib.hid S14.out.rr.row) (cells_one _) hn5).mono ?_
        rintro e w15 ⟨A15, c15, rfl, own15, b15⟩
        have bw15 := bw14.trans (b15.mono bw14.size)
        have S15 := Lib.hid (S14.out.below b15)
        have O15 := Lib.hid (own_below O14.out b15)
        have C15 := Lib.hid own15
        have pc15 := KE.out _ bw15
        have z15 := bw15.size
        have z145 := b15.size
        have z14 := bw14.size
        have hpA : Hid (blk A15 ≠ some w.heap.size) := Lib.hid fun e => by have := (own_blk_le C15.out e).1; omega
        clear b15 own15 S14 O14
        go_wp2_with fail
        go_at_call 37
        refine (DeleteLate_any f _ C15 (Lib.hid S15.out.rr.dat) pc15 (by omega) hpA).mono ?_
        rintro e w16 ⟨n16, c16, rfl, rd16, g16⟩
        have O16 := Lib.hid (O15.out.kept g16 (by rw [own_blk]; exact own_ne O15.out C15.out (by decide)))
        have T16 : Hid (Rr w16 A15 n16 c16 (keepL f l5)) := Lib.hid ⟨rd16, fun y hy => by
          have hy5 : y ∈ l5 := (List.mem_filter.1 hy).1
          exact Rd.of_own ((S15.out.dat y hy5).kept g16 (by rw [own_blk]; exact own_ne (S15.out.dat y hy5) C15.out (by decide)))⟩
        have bw16 : Below W0.heap.size W0 w16 := bw15.grown g16 z15 (fun k e => by have := (own_blk_le C15.out e).1; omega)
        clear rd16 g16 S15 O15 C15 pc15
        go_wp2_with fail
        go_at_call 24
        refine (Committed_any _ HN14 (Lib.hid (Rd.of_own O16.out)) (by omega)).mono ?_
        rintro e w17 ⟨A17, n17, c17, l17, rfl, rs17, hl17, b17⟩
        have bw17 := bw16.trans (b17.mono bw16.size)
        have T17 := Lib.hid (T16.out.below b17)
        have U17 := Lib.hid rs17.rr
        have HL17 := Lib.hid hl17
        clear b17 rs17 hl17 T16 O16
        go_wp2_with fail
        go_at_call 21
        refine (equal_any _ U17 T17).mono ?_
        rintro e w18 ⟨rfl, b18⟩
        rw [show eqR (l17.map RV.r) ((keepL f l5).map RV.r) = true by rw [HL17.out, keepL_map, HL5.out, G1.out]; exact eqR_self _]
        have bw18 := bw17.trans (b18.mono bw17.size)
        go_wp2_with fail
        go_ret
        exact ⟨rfl, b0.trans (bw18.mono b0.size)⟩
    · go_wp2_with fail
      go_ret
      exact ⟨rfl, b0.trans (bw2.mono b0.size)⟩
  · go_wp2_with fail
    go_ret
    exact ⟨rfl, b0.trans (bw2.mono b0.size)⟩
end Go.Proofs.Ytfkeedeiafegiaa.Wl
