/- Walk: Crash. -/
import Derived.Test.YtpmkohnljngbhaaDoorSrW11
import Derived.Test.YtpmkohnljngbhaaDoorWalC
import Derived.Test.YtpmkohnljngbhaaDoorWalB
set_option linter.all false
namespace Go.Proofs.YtpmkohnljngbhaaDoor.Sr
set_option linter.unusedVariables false
set_option linter.unusedSimpArgs false
set_option maxRecDepth 1000000
open Go.RowKit Wl Pg
section
variable {PA FA LA : Option Addr} {np pc m fc ln lc : Nat} {r0 last : Int} {f : FV} {log : List UInt8}
/-- The log behind a crash. -/
def crLog (log : List UInt8) (cut : Int) : List UInt8 := (log.take (cutN cut log.length)).take (rend (log.take (cutN cut log.length)))
def CrPost (w : World) (PA : Option Addr) (np pc : Nat) (r0 : Int) (FA : Option Addr) (m fc : Nat) (last : Int) (L : List UInt8) (e : Ending) (w' : World) : Prop :=
  ∃ (LA : Option Addr) (ln lc : Nat), e = .returned (.tuple #[.agg #[.slice PA np pc, .int .i64 r0, .slice FA m fc, .slice LA ln lc, .int .i64 last], .int .i64 0]) ∧ Hid (ln = L.length) ∧ Hid (Rd w' 1 LA ln lc (bv L)) ∧ Below w.heap.size w w'
theorem tfold_cnt {tx : Int} (l : List Rec) : ∀ {L : List (List Ch)} {op : List Ch} {t : Int}, tfold tx l = some (L, op, t) → L.length = commits l := by
  refine snoc_ind (P := fun l => ∀ {L : List (List Ch)} {op : List Ch} {t : Int}, tfold tx l = some (L, op, t) → L.length = commits l) ?_ ?_ l
  · intro L op t h
    simp only [tfold, List.foldl_nil, Option.some.injEq, Prod.mk.injEq] at h
    obtain ⟨rfl, rfl, _⟩ := h; rfl
  · intro l r ih L op t h
    rw [tfold_snoc] at h
    rw [commits_snoc]
    rcases hf : tfold tx l with _ | ⟨L0, o0, t0⟩
    · rw [hf] at h; cases h
    · have := ih hf
      rw [hf] at h
      unfold tstp at h
      simp only [Option.bind_some] at h
      split at h
      · cases h
      · split at h
        · rename_i h3
          simp only [Option.some.injEq, Prod.mk.injEq] at h
          obtain ⟨rfl, rfl, _⟩ := h
          rw [if_pos h3]; simp; omega
        · rename_i h3
          rcases hc : chR r with _ | c
          · rw [hc] at h; cases h
          · rw [hc] at h
            simp only [Option.map_some, Option.some.injEq, Prod.mk.injEq] at h
            obtain ⟨rfl, rfl, _⟩ := h
            rw [if_neg h3]; exact this
set_option maxHeartbeats 3200000 in
theorem sCrash_ok {L : List (List Ch)} (cut : Int) (w : World) (G : Hid (Gl w)) (H : Hid (Sto w f log PA np pc r0 FA m fc LA ln lc)) (V : Hid (Svd f log last)) (HT : Hid (trx log last = some L)) (k1 : -9223372036854775808 ≤ cut) (k2 : cut ≤ 9223372036854775807) :
    Calls Tryd.prog 28 #[.agg #[.slice PA np pc, .int .i64 r0, .slice FA m fc, .slice LA ln lc, .int .i64 last], .int .i64 cut] w (CrPost w PA np pc r0 FA m fc (last - L.length + commits (rd (crLog log cut))) (crLog log cut)) := by
  obtain ⟨p, hp⟩ : ∃ p, w.heap.size = p := ⟨_, rfl⟩
  obtain ⟨W1, hW1⟩ : ∃ W1, w.alloc (.cells #[.slice PA np pc, .int .i64 r0, .slice FA m fc, .slice LA ln lc, .int .i64 last] 31) = W1 := ⟨_, rfl⟩
  have bw : Below w.heap.size w W1 := hW1 ▸ bal _ _
  have X : Hid (Bx W1 p [.slice PA np pc, .int .i64 r0, .slice FA m fc, .slice LA ln lc, .int .i64 last]) := hW1 ▸ Lib.hid (Bx.put _ hp #[.slice PA np pc, .int .i64 r0, .slice FA m fc, .slice LA ln lc, .int .i64 last] 31)
  have TX : Hid (Ty W1 p 31) := hW1 ▸ hp ▸ Lib.hid (Ty.new _ _ _)
  have HW1 := Lib.hid hW1
  clear hW1
  obtain ⟨R, hR⟩ : ∃ R, W1.heap.size = R := ⟨_, rfl⟩
  obtain ⟨W2, hW2⟩ : ∃ W2, W1.alloc (.cells #[.slice none 0 0, .int .i64 0, .slice none 0 0, .slice none 0 0, .int .i64 0] 31) = W2 := ⟨_, rfl⟩
  have v2 : Below W1.heap.size W1 W2 := hW2 ▸ bal _ _
  have Y : Hid (Bx W2 R [.slice none 0 0, .int .i64 0, .slice none 0 0, .slice none 0 0, .int .i64 0]) := hW2 ▸ Lib.hid (Bx.put _ hR #[.slice none 0 0, .int .i64 0, .slice none 0 0, .slice none 0 0, .int .i64 0] 31)
  have TY : Hid (Ty W2 R 31) := hW2 ▸ hR ▸ Lib.hid (Ty.new _ _ _)
  have HW2 := Lib.hid hW2
  clear hW2
  have hR' : w.heap.size ≤ R := by rw [← hR]; exact bw.size
  have eR : R = p + 1 := by rw [← hR, ← HW1.out, ← hp]; simp
  subst eR
  have X := Lib.hid (X.out.nx v2)
  have bw := bw.trans (v2.mono bw.size)
  have H2 := Lib.hid (H.out.nx bw)
  have x0 := X.out.at_ 0 (by simp)
  have x1 := X.out.at_ 1 (by simp)
  have x2 := X.out.at_ 2 (by simp)
  have x3 := X.out.at_ 3 (by simp)
  have x4 := X.out.at_ 4 (by simp)
  simp only [List.getElem?_cons_succ, List.getElem?_cons_zero] at x0 x1 x2 x3 x4
  have l0 := V.out.1
  have l1 := V.out.2.1
  have L2 := H.out.l2
  have SV := Lib.hid (sValid_any (last := last) W2 (Lib.hid (G.out.nx bw)) H2)
  have LE := Lib.hid (trx_le HT.out)
  have LL := Lib.hid H.out.ll
  have tc := trx_ok HT.out
  obtain ⟨N, hN⟩ : ∃ N, L.length = N := ⟨_, rfl⟩
  have NC : N ≤ last ∧ N ≤ 2000000 := by
    obtain ⟨hg, hc, hle, op, tx, hf⟩ := trx_ok HT.out
    have h1 := tfold_cnt _ hf
    have h2 := commits_le (rd log)
    have h3 : ∀ q : List Rec, q.length * 21 ≤ (encs q).length := fun q => by
      induction q with
      | nil => simp
      | cons a q ih => rw [encs_cons, List.length_append, Wl.enc_len, List.length_cons]; omega
    have h4 := h3 (rd log)
    have h5 := glen_le log
    unfold glen at h5
    have := LL.out
    omega
  rw [hN]
  have HN := Lib.hid hN
  clear hN tc
  go_enter Tryd.func28, Tryd.ntmps28
  go_upto_region 1 with fail
  rw [HW1.out, HW2.out]
  go_wp2_with fail
  go_at_call 10
  refine SV.out.mono ?_
  rintro e w3 ⟨b, rfl, hb, b3⟩
  obtain rfl : b = true := hb.2 V.out
  clear hb x0 x1 x2 x3 x4 SV
  replace bw := bw.trans (b3.mono bw.size)
  replace X := Lib.hid (X.out.nx b3)
  replace Y := Lib.hid (Y.out.nx b3)
  replace H2 := Lib.hid (H2.out.nx b3)
  have x0 := X.out.at_ 0 (by simp)
  have x1 := X.out.at_ 1 (by simp)
  have x2 := X.out.at_ 2 (by simp)
  have x3 := X.out.at_ 3 (by simp)
  have x4 := X.out.at_ 4 (by simp)
  simp only [List.getElem?_cons_succ, List.getElem?_cons_zero] at x0 x1 x2 x3 x4
  have TX := strx_any (PA := PA) (FA := FA) (np := np) (pc := pc) (m := m) (fc := fc) (r0 := r0) w3 LL (Lib.hid H2.out.lg) L2 l0 l1
  rw [HT.out] at TX
  have TX := Lib.hid TX
  go_wp2_with fail
  go_at_call 38
  refine TX.out.mono ?_
  rintro e w4 ⟨A4, n4, c4, b, rfl, hres, b4⟩
  rcases hres with ⟨_, hno⟩ | ⟨rfl, M, hM, RX⟩
  · cases hno
  obtain rfl : n4 = N := by
    have h1 := RX.out.len
    injection hM with hM
    rw [h1, ← HN.out, hM, List.length_map]
  clear hM TX x0 x1 x2 x3 x4
  replace bw := bw.trans (b4.mono bw.size)
  replace X := Lib.hid (X.out.nx b4)
  replace Y := Lib.hid (Y.out.nx b4)
  replace H2 := Lib.hid (H2.out.nx b4)
  have x0 := X.out.at_ 0 (by simp)
  have x1 := X.out.at_ 1 (by simp)
  have x2 := X.out.at_ 2 (by simp)
  have x3 := X.out.at_ 3 (by simp)
  have x4 := X.out.at_ 4 (by simp)
  simp only [List.getElem?_cons_succ, List.getElem?_cons_zero] at x0 x1 x2 x3 x4
  have CU := Lib.hid (Cut_any cut w4 LL (Lib.hid H2.out.lg) (by omega) k1 k2)
  go_wp2_with fail
  go_at_call 50
  refine CU.out.mono ?_
  rintro e w5 ⟨A5, c5, rfl, own5, b5⟩
  obtain ⟨cb, hcb⟩ : ∃ cb, log.take (cutN cut ln) = cb := ⟨_, rfl⟩
  have LCB : Hid (cutN cut ln = cb.length) := Lib.hid (by have := (Rd.of_own own5).len; rw [hcb, bv_len] at this; omega)
  have CRL : Hid (crLog log cut = cb.take (rend cb)) := Lib.hid (by unfold crLog; rw [← LL.out, hcb])
  rw [hcb] at own5
  have cN : cutN cut ln ≤ ln := cutN_le cut ln
  obtain ⟨cn, hcn⟩ : ∃ cn, cutN cut ln = cn := ⟨_, rfl⟩
  rw [hcn] at own5 LCB cN ⊢
  have O5 := Lib.hid own5
  clear own5 hcb hcn CU x0 x1 x2 x3 x4
  replace bw := bw.trans (b5.mono bw.size)
  replace X := Lib.hid (X.out.nx b5)
  replace Y := Lib.hid (Y.out.nx b5)
  have xl5 := X.out.lt
  have yl6 := Y.out.lt
  have RP := Lib.hid (Repair_any w5 LCB (Lib.hid (Rd.of_own O5.out)) (by omega))
  go_wp2_with fail
  go_at_call 27
  refine RP.out.mono ?_
  rintro e w6 ⟨A6, c6, rfl, own6, b6⟩
  rw [← CRL.out] at own6
  obtain ⟨CL, hCL⟩ : ∃ CL, crLog log cut = CL := ⟨_, rfl⟩
  rw [hCL] at own6
  have HCL := Lib.hid hCL
  obtain ⟨K, hK⟩ : ∃ K, commits (rd CL) = K := ⟨_, rfl⟩
  have HKK := Lib.hid hK
  clear hK
  have LCL : Hid (rend cb = CL.length) := Lib.hid (by have := (Rd.of_own own6).len; rw [bv_len] at this; omega)
  have rl : CL.length ≤ cn := by
    have h : CL = cb.take (rend cb) := by rw [← hCL, CRL.out]
    rw [h, List.length_take, LCB.out]; omega
  obtain ⟨rn, hrn⟩ : ∃ rn, rend cb = rn := ⟨_, rfl⟩
  rw [hrn] at own6 LCL ⊢
  have rn2 : rn ≤ 2000000 := by have := LCL.out; omega
  have O6 := Lib.hid own6
  clear own6 hCL hrn RP rl
  replace bw := bw.trans (b6.mono bw.size)
  replace X := Lib.hid (X.out.nx b6)
  replace Y := Lib.hid (Y.out.nx b6)
  have xl := X.out.lt
  have yl := Y.out.lt
  have x0 := X.out.at_ 0 (by simp)
  have x1 := X.out.at_ 1 (by simp)
  have x2 := X.out.at_ 2 (by simp)
  have x3 := X.out.at_ 3 (by simp)
  have x4 := X.out.at_ 4 (by simp)
  simp only [List.getElem?_cons_succ, List.getElem?_cons_zero] at x0 x1 x2 x3 x4
  have f0 := X.out.fz 0 (by simp)
  have f1 := X.out.fz 1 (by simp)
  have f2 := X.out.fz 2 (by simp)
  have f3 := X.out.fz 3 (by simp)
  have f4 := X.out.fz 4 (by simp)
  go_upto_region 5 with fail
  obtain ⟨W7, hW7⟩ : ∃ u, w6.setCell ⟨p, 3, none⟩ (.slice A6 rn c6) = u := ⟨_, rfl⟩
  rw [hW7]
  have X7 : Hid (Bx W7 p [.slice PA np pc, .int .i64 r0, .slice FA m fc, .slice A6 rn c6, .int .i64 last]) := hW7 ▸ Lib.hid (X.out.set (j := 3) (by simp) (.slice A6 rn c6))
  have Y7 : Hid (Bx W7 (p + 1) [.slice none 0 0, .int .i64 0, .slice none 0 0, .slice none 0 0, .int .i64 0]) := hW7 ▸ Lib.hid (Y.out.other (q := p) (by omega) 3 _)
  have hpw : w.heap.size ≤ p := by omega
  have bw7 : Below w.heap.size w W7 := hW7 ▸ bw.setCell (p := ⟨p, 3, none⟩) hpw _
  have O7 : Hid (W7.ownsRow w5.heap.size 5 1 (.slice A6 rn c6) rn (bv CL)) := hW7 ▸ Lib.hid (own_set O6.out ⟨p, 3, none⟩ _ fun e => by have h := (own_blk_le O6.out e).1; have h2 := xl5; exact absurd h (by show ¬ w5.heap.size ≤ p; omega))
  have q1 : IntKind.i64.wrap (last - (n4 : Int)) = last - n4 := by simp only [IntKind.wrap_i64]; omega
  clear hW7 x0 x1 x2 x3 x4 f0 f1 f2 f3 f4 X Y O6
  have x0 := X7.out.at_ 0 (by simp)
  have x1 := X7.out.at_ 1 (by simp)
  have x2 := X7.out.at_ 2 (by simp)
  have x3 := X7.out.at_ 3 (by simp)
  have x4 := X7.out.at_ 4 (by simp)
  simp only [List.getElem?_cons_succ, List.getElem?_cons_zero] at x0 x1 x2 x3 x4
  have RD := Lib.hid (Read_any W7 LCL (Lib.hid (Rd.of_own O7.out)) (by omega))
  go_wp2_with fail
  go_at_call 26
  refine RD.out.mono ?_
  rintro e w8 ⟨RA, en, rc, l, rfl, hlr, rs, b8⟩
  have S1 := Lib.hid rs.rr
  have HLR := Lib.hid hlr
  have hnc := S1.out.row.nc
  have hc63 := S1.out.row.c63
  have EN : Hid (en = l.length) := Lib.hid rs.len
  have en1 : en * 21 ≤ rn := by
    have e := glen_le CL
    have : ∀ q : List Rec, q.length * 21 ≤ (encs q).length := fun q => by
      induction q with
      | nil => simp
      | cons a q ih => rw [encs_cons, List.length_append, Wl.enc_len, List.length_cons]; omega
    have := this (l.map RV.r)
    rw [List.length_map, ← rs.len] at this
    unfold glen at e
    rw [← hlr, ← LCL.out] at e
    omega
  obtain ⟨gn, hgn⟩ : ∃ gn, glen CL = gn := ⟨_, rfl⟩
  rw [hgn]
  have X8 := Lib.hid (X7.out.nx b8)
  have Y8 := Lib.hid (Y7.out.nx b8)
  have bw8 := bw7.trans (b8.mono bw7.size)
  have O8 := Lib.hid (own_below O7.out b8)
  have s8 := b8.size
  clear hlr rs hgn x0 x1 x2 x3 x4 RD
  go_wp2_with fail
  go_loopw [9, 42] (fun cv iv wr => ∃ j c : Nat, j ≤ en ∧ c ≤ j ∧ iv = .int .i64 j ∧ cv = .int .i64 c ∧ Hid (c = commits ((l.take j).map RV.r)) ∧ Below w8.heap.size w8 wr) (fun _ iv _ => (en - intOf iv).toNat)
  case atStart => exact ⟨0, 0, by omega, by omega, rfl, rfl, Lib.hid rfl, Below.refl _ _⟩
  case round =>
    obtain ⟨j, k, hj, hkj, rfl, rfl, hk, b9⟩ := hrel
    by_cases hlt : j < en
    · obtain ⟨g, o, x, rfl, hg, hx, hxm, a0, a1, a2⟩ := (S1.out.below b9).rec_ hlt
      have HX := Lib.hid (tk hx)
      have d1 : decide ((j : Int) < (en : Int)) = true := decide_eq_true (by omega)
      obtain ⟨nx, hnx⟩ : ∃ nx, x.d.length = nx := ⟨_, rfl⟩
      rw [hnx] at a2
      clear hx hnx
      by_cases hx3 : x.k = 3
      · have HK2 : Hid (k + 1 = commits ((l.take (j + 1)).map RV.r)) := Lib.hid (by rw [HX.out, commits_snoc, if_pos (show x.r.k = 3 from hx3), ← hk.out])
        rw [hx3] at a0
        go_wp2_with fail
        go_roundw
        case rel => exact ⟨j + 1, k + 1, by omega, by omega, by first | trivial | go_num, by first | trivial | go_num, HK2, bel_alloc b9 (Nat.le_refl _) _⟩
        case measure => simp [intOf]; omega
      · have HK2 : Hid (k = commits ((l.take (j + 1)).map RV.r)) := Lib.hid (by rw [HX.out, commits_snoc, if_neg (show ¬ x.r.k = 3 from hx3), ← hk.out])
        have e3 : decide (x.k = 3) = false := decide_eq_false hx3
        go_wp2_with fail
        go_roundw
        case rel => exact ⟨j + 1, k, by omega, by omega, by first | trivial | go_num, by first | trivial | go_num, HK2, bel_alloc b9 (Nat.le_refl _) _⟩
        case measure => simp [intOf]; omega
    · obtain rfl : en = j := by omega
      have d1 : decide ((en : Int) < (en : Int)) = false := decide_eq_false (by omega)
      have HK : Hid (k = commits (rd CL)) := Lib.hid (by have h := hk.out; rw [List.take_of_length_le (by have := EN.out; omega), HLR.out] at h; exact h)
      obtain rfl : K = k := by rw [← HKK.out, ← HK.out]
      have X9 := Lib.hid (X8.out.nx b9)
      have Y9 := Lib.hid (Y8.out.nx b9)
      have bw9 := bw8.trans (b9.mono bw8.size)
      have O9 := Lib.hid (own_below O8.out b9)
      have q2 : IntKind.i64.wrap (last - (n4 : Int) + (K : Int)) = last - n4 + K := by simp only [IntKind.wrap_i64]; omega
      have x0 := X9.out.at_ 0 (by simp)
      have x1 := X9.out.at_ 1 (by simp)
      have x2 := X9.out.at_ 2 (by simp)
      have x3 := X9.out.at_ 3 (by simp)
      have x4 := X9.out.at_ 4 (by simp)
      simp only [List.getElem?_cons_succ, List.getElem?_cons_zero] at x0 x1 x2 x3 x4
      have f0 := X9.out.fz 0 (by simp)
      have f1 := X9.out.fz 1 (by simp)
      have f2 := X9.out.fz 2 (by simp)
      have f3 := X9.out.fz 3 (by simp)
      have f4 := X9.out.fz 4 (by simp)
      have xl9 := X9.out.lt
      have yl9 := Y9.out.lt
      go_upto_region 15 with fail
      obtain ⟨W13, hW13⟩ : ∃ u, wr.setCell ⟨p, 4, none⟩ (.int .i64 (last - n4 + K)) = u := ⟨_, rfl⟩
      rw [hW13]
      have X13 : Hid (Bx W13 p [.slice PA np pc, .int .i64 r0, .slice FA m fc, .slice A6 rn c6, .int .i64 (last - n4 + K)]) := hW13 ▸ Lib.hid (X9.out.set (j := 4) (by simp) (.int .i64 (last - n4 + K)))
      have Y13 : Hid (Bx W13 (p + 1) [.slice none 0 0, .int .i64 0, .slice none 0 0, .slice none 0 0, .int .i64 0]) := hW13 ▸ Lib.hid (Y9.out.other (q := p) (by omega) 4 _)
      have bw13 : Below w.heap.size w W13 := hW13 ▸ bw9.setCell (p := ⟨p, 4, none⟩) hpw _
      have O13 : Hid (W13.ownsRow w5.heap.size 5 1 (.slice A6 rn c6) rn (bv CL)) := hW13 ▸ Lib.hid (own_set O9.out ⟨p, 4, none⟩ _ fun e => by have h := (own_blk_le O9.out e).1; have h2 := xl5; exact absurd h (by show ¬ w5.heap.size ≤ p; omega))
      clear hW13 x0 x1 x2 x3 x4 f0 f1 f2 f3 f4 X9 Y9 O9
      have z0 := X13.out.at_ 0 (by simp)
      have z1 := X13.out.at_ 1 (by simp)
      have z2 := X13.out.at_ 2 (by simp)
      have z3 := X13.out.at_ 3 (by simp)
      have z4 := X13.out.at_ 4 (by simp)
      simp only [List.getElem?_cons_succ, List.getElem?_cons_zero] at z0 z1 z2 z3 z4
      have y0 := Y13.out.at_ 0 (by simp)
      have y1 := Y13.out.at_ 1 (by simp)
      have y2 := Y13.out.at_ 2 (by simp)
      have y3 := Y13.out.at_ 3 (by simp)
      have y4 := Y13.out.at_ 4 (by simp)
      simp only [List.getElem?_cons_succ, List.getElem?_cons_zero] at y0 y1 y2 y3 y4
      have f0 := Y13.out.fz 0 (by simp)
      have f1 := Y13.out.fz 1 (by simp)
      have f2 := Y13.out.fz 2 (by simp)
      have f3 := Y13.out.fz 3 (by simp)
      have f4 := Y13.out.fz 4 (by simp)
      have yl5 := Y13.out.lt
      have Q := Lib.hid (res5_cells Y13.out rfl (.slice PA np pc) (.int .i64 r0) (.slice FA m fc) (.slice A6 rn c6) (.int .i64 (last - n4 + K)))
      have bF := res5_below (a := .slice PA np pc) (b := .int .i64 r0) (c := .slice FA m fc) (d := .slice A6 rn c6) (e := .int .i64 (last - n4 + K)) bw13 hR'
      have OF := Lib.hid (own_res5 (R := p + 1) (a := .slice PA np pc) (b := .int .i64 r0) (d := .slice FA m fc) (e := .slice A6 rn c6) (f := .int .i64 (last - n4 + K)) O13.out (by omega))
      go_wp2_with fail
      obtain ⟨W14, hW14⟩ : ∃ u, (((((W13.setCell ⟨p + 1, 0, none⟩ (.slice PA np pc)).setCell ⟨p + 1, 1, none⟩ (.int .i64 r0)).setCell ⟨p + 1, 2, none⟩ (.slice FA m fc)).setCell ⟨p + 1, 3, none⟩ (.slice A6 rn c6)).setCell ⟨p + 1, 4, none⟩ (.int .i64 (last - n4 + K))) = u := ⟨_, rfl⟩
      rw [hW14] at Q bF OF ⊢
      have q0 := Q.out.at_ 0 (by simp)
      have q1 := Q.out.at_ 1 (by simp)
      have q2 := Q.out.at_ 2 (by simp)
      have q3 := Q.out.at_ 3 (by simp)
      have q4 := Q.out.at_ 4 (by simp)
      simp only [List.getElem?_cons_succ, List.getElem?_cons_zero] at q0 q1 q2 q3 q4
      refine bodyPost_ret (v := .tuple #[.agg #[.slice PA np pc, .int .i64 r0, .slice FA m fc, .slice A6 rn c6, .int .i64 (last - n4 + K)], .int .i64 0]) (by simp [results, Tryd.results28, go_sem, q0, q1, q2, q3, q4]) rfl ?_
      rw [HCL.out, HKK.out]
      exact ⟨A6, rn, c6, rfl, LCL, Lib.hid (Rd.of_own OF.out), bF⟩
end
end Go.Proofs.YtpmkohnljngbhaaDoor.Sr
/- Plain: what a crash leaves of a log. -/
namespace Go.Proofs.YtpmkohnljngbhaaDoor.Sr
set_option maxRecDepth 1000000
open Wl

theorem upc_none {l : List Rec} : (∀ r ∈ l, r.k ≠ 3) → upc l = [] := by
  refine snoc_ind (P := fun l => (∀ r ∈ l, r.k ≠ 3) → upc l = []) (fun _ => rfl) ?_ l
  intro l r ih h
  rw [upc_snoc, if_neg (h r (by simp))]
  exact ih fun x hx => h x (by simp [hx])
theorem upc_app {a b : List Rec} {c : Rec} (hc : c.k = 3) : upc (a ++ [c] ++ b) = a ++ [c] ++ upc b := by
  refine snoc_ind (P := fun b => upc (a ++ [c] ++ b) = a ++ [c] ++ upc b) ?_ ?_ b
  · rw [List.append_nil, upc_snoc, if_pos hc]; simp [upc]
  · intro l r ih
    rw [← List.append_assoc, upc_snoc, upc_snoc]
    by_cases h : r.k = 3
    · rw [if_pos h, if_pos h]; simp
    · rw [if_neg h, if_neg h]; exact ih
theorem recT_pre {t : Int} {cs : List Ch} {P ys : List Rec} (h : P ++ ys = recT t cs) (hl : P.length < (recT t cs).length) : upc P = [] := by
  have hP : P = (cs.map (recC t)).take P.length := by
    have h1 : P = (recT t cs).take P.length := by rw [← h]; simp
    have h2 : P.length ≤ (cs.map (recC t)).length := by simp [recT] at hl ⊢; omega
    unfold recT at h1
    rwa [List.take_append_of_le_length h2] at h1
  refine upc_none fun r hr => ?_
  rw [hP] at hr
  obtain ⟨c, _, rfl⟩ := List.mem_map.1 (List.mem_of_mem_take hr)
  exact recC_k t c
/-- What is committed in a part of a log. -/
theorem pre_upc : ∀ {Ts : List (List Ch)} {t : Int} {P ys : List Rec}, P ++ ys = recL t Ts →
    ∃ k, k ≤ Ts.length ∧ upc P = recL t (Ts.take k) ∧ (k < Ts.length → P.length < (recL t (Ts.take (k + 1))).length)
  | [], t, P, ys, h => by
    have : P = [] := by
      have := congrArg List.length h
      simp [recL] at this
      exact List.eq_nil_of_length_eq_zero (by simp [this.1])
    subst this
    exact ⟨0, by simp, rfl, by simp⟩
  | cs :: L, t, P, ys, h => by
    have h' : P ++ ys = recT t cs ++ recL (t + 1) L := h
    by_cases hl : P.length < (recT t cs).length
    · refine ⟨0, by simp, ?_, fun _ => ?_⟩
      · have h1 : P ++ (recT t cs).drop P.length = recT t cs := by
          have h2 : P = (recT t cs).take P.length := by
            have := congrArg (List.take P.length) h'
            rw [List.take_left, List.take_append_of_le_length (by omega)] at this
            exact this
          calc P ++ (recT t cs).drop P.length = (recT t cs).take P.length ++ (recT t cs).drop P.length := by rw [← h2]
            _ = recT t cs := List.take_append_drop _ _
        rw [recT_pre h1 hl]; rfl
      · simpa [recL] using hl
    · obtain ⟨P', rfl⟩ : ∃ P', P = recT t cs ++ P' := by
        refine ⟨P.drop (recT t cs).length, ?_⟩
        have h2 : recT t cs = P.take (recT t cs).length := by
          have := congrArg (List.take (recT t cs).length) h'
          rw [List.take_left, List.take_append_of_le_length (by omega)] at this
          exact this.symm
        conv => rhs; rw [h2]
        rw [← h2]
        conv => lhs; rw [← List.take_append_drop (recT t cs).length P]
        rw [← h2]
      rw [List.append_assoc] at h'
      obtain ⟨k, h1, h2, h3⟩ := pre_upc (Ts := L) (t := t + 1) (P := P') (ys := ys) (List.append_cancel_left h')
      refine ⟨k + 1, by simp; omega, ?_, fun hk => ?_⟩
      · unfold recT
        rw [upc_app (show (⟨3, t, []⟩ : Rec).k = 3 from rfl), h2]; rfl
      · have := h3 (by simp at hk; omega)
        show (recT t cs ++ P').length < (recT t cs ++ recL (t + 1) (L.take (k + 1))).length
        rw [List.length_append, List.length_append]; omega
theorem recL_take (t : Int) (Ts : List (List Ch)) (k : Nat) : ∃ zs, recL t Ts = recL t (Ts.take k) ++ zs := by
  induction Ts generalizing t k with
  | nil => exact ⟨[], by simp [recL]⟩
  | cons cs L ih =>
    cases k with
    | zero => exact ⟨_, rfl⟩
    | succ k =>
      obtain ⟨zs, h⟩ := ih (t + 1) k
      exact ⟨zs, by show recT t cs ++ recL (t + 1) L = (recT t cs ++ recL (t + 1) (L.take k)) ++ zs; rw [h, List.append_assoc]⟩
theorem crash_log {t : Int} {Ts : List (List Ch)} (h : ∀ cs ∈ Ts, okT cs) (h1 : 1 ≤ t) (h2 : t + Ts.length ≤ 9223372036854775808) (cut : Int) :
    ∃ k, k ≤ Ts.length ∧ crLog (logL t Ts) cut = logL t (Ts.take k) ∧ (logL t (Ts.take k)).length ≤ cutN cut (logL t Ts).length ∧ (k < Ts.length → cutN cut (logL t Ts).length < (logL t (Ts.take (k + 1))).length) := by
  obtain ⟨c, hc⟩ : ∃ c, cutN cut (logL t Ts).length = c := ⟨_, rfl⟩
  have hcl : c ≤ (logL t Ts).length := hc ▸ cutN_le _ _
  have hok := recL_ok h h1 h2
  obtain ⟨ys, e1, e2⟩ := cut_reads hok c
  obtain ⟨k, k1, k2, k3⟩ := pre_upc (Ts := Ts) (t := t) (P := rd ((encs (recL t Ts)).take c)) (ys := ys) e1.symm
  have hcr : crLog (logL t Ts) cut = logL t (Ts.take k) := by
    unfold crLog
    rw [hc, rend_take]
    show encs (upc (rd ((encs (recL t Ts)).take c))) = _
    rw [k2]; rfl
  have hlen : (logL t (Ts.take k)).length ≤ c := by
    rw [← hcr]; unfold crLog
    rw [hc, List.length_take, List.length_take]; omega
  refine ⟨k, k1, hcr, by rw [hc]; exact hlen, fun hk => ?_⟩
  rw [hc]
  have hp := k3 hk
  obtain ⟨zs, hz⟩ := recL_take t Ts (k + 1)
  -- the record behind what is read lies in the next transaction
  have hl : ((encs (recL t Ts)).take c).length = c := by rw [List.length_take]; exact Nat.min_eq_left hcl
  rcases ys with _ | ⟨r, ys⟩
  · exfalso
    rw [List.append_nil] at e1
    have := congrArg List.length hz
    rw [List.length_append] at this
    rw [← e1] at hp
    omega
  · have h5 := e2 r ys rfl
    rw [hl] at h5
    have h6 : ∃ us, recL t (Ts.take (k + 1)) = (rd ((encs (recL t Ts)).take c) ++ [r]) ++ us := by
      generalize rd ((encs (recL t Ts)).take c) = P at e1 hp ⊢
      have h7 : P ++ [r] = (recL t Ts).take (P.length + 1) := by
        have e3 : recL t Ts = (P ++ [r]) ++ ys := by rw [List.append_assoc]; exact e1
        have e4 : P.length + 1 = (P ++ [r]).length := by simp
        rw [e3, e4, List.take_left]
      rw [h7, hz, List.take_append_of_le_length (by omega)]
      exact ⟨_, (List.take_append_drop _ _).symm⟩
    obtain ⟨us, hu⟩ := h6
    have h8 : (logL t (Ts.take (k + 1))).length = (encs (rd ((encs (recL t Ts)).take c) ++ [r])).length + (encs us).length := by
      unfold logL
      rw [hu, encs_app, List.length_append]
    rw [encs_snoc, List.length_append, enc_len] at h8
    unfold glen at h5
    omega
theorem logL_take_lt {t : Int} {Ts : List (List Ch)} {i : Nat} (h : i < Ts.length) : (logL t (Ts.take i)).length + 21 ≤ (logL t (Ts.take (i + 1))).length := by
  have e : Ts.take (i + 1) = Ts.take i ++ [Ts[i]] := by rw [List.take_add_one, List.getElem?_eq_getElem h]; rfl
  rw [e, logL_snoc, List.length_append]
  unfold recT
  rw [encs_app, List.length_append, show encs [(⟨3, t + ((Ts.take i).length : Int), []⟩ : Rec)] = enc ⟨3, t + ((Ts.take i).length : Int), []⟩ by simp [encs], enc_len]
  omega
theorem logL_mono {t : Int} {Ts : List (List Ch)} {i j : Nat} (h : i ≤ j) : (logL t (Ts.take i)).length ≤ (logL t (Ts.take j)).length := by
  have e : Ts.take i = (Ts.take j).take i := by rw [List.take_take]; congr 1; omega
  obtain ⟨zs, hz⟩ := recL_take t (Ts.take j) i
  rw [e]
  unfold logL
  rw [hz, encs_app, List.length_append]; omega
end Go.Proofs.YtpmkohnljngbhaaDoor.Sr
