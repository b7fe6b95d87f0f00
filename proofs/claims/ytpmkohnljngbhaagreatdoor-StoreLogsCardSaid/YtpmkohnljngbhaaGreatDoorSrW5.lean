/- Walk: transactions. -/
import Derived.Test.YtpmkohnljngbhaaGreatDoorSrW4
import Derived.Test.YtpmkohnljngbhaaGreatDoorWalB
namespace Go.Proofs.YtpmkohnljngbhaaGreatDoor.Sr
set_option linter.unusedVariables false
set_option linter.unusedSimpArgs false
set_option maxRecDepth 1000000
open Go.RowKit Wl Pg

/-- What transactions answers. -/
def TxPost (w : World) (T : Option (List (List Ch))) (e : Ending) (w' : World) : Prop :=
  ∃ (A : Option Addr) (n c : Nat) (b : Bool), e = .returned (.tuple #[.slice A n c, .bool b]) ∧
    ((b = false ∧ T = none) ∨ (b = true ∧ ∃ L : List XV, T = some (L.map XV.t) ∧ Hid (Xr w' A n c L))) ∧ Below w.heap.size w w'
/-- Transactions that are being read. -/
structure TI (w1 wr : World) (A : Option Addr) (no co : Nat) (L : List XV) (OA : Option Addr) (on oc : Nat) (ol : List CV) : Prop where
  bw : Below w1.heap.size w1 wr
  row : wr.ownsRow w1.heap.size 42 1 (.slice A no co) no (xvs L)
  rows : ∀ x ∈ L, wr.ownsRow w1.heap.size 52 3 (.slice x.A x.l.length x.c) x.l.length (cvs x.l)
  opn : wr.ownsRow w1.heap.size 52 3 (.slice OA on oc) on (cvs ol)
  ap : ∀ x ∈ L, blk x.A = none ∨ blk x.A ≠ blk OA
  dat : (∀ x ∈ L, ∀ y ∈ x.l, Dt w1 y) ∧ ∀ y ∈ ol, Dt w1 y
section
variable {w1 wr w2 : World} {A OA : Option Addr} {no co on oc : Nat} {L : List XV} {ol : List CV}
theorem TI.nx (h : TI w1 wr A no co L OA on oc ol) (b : Below wr.heap.size wr w2) : TI w1 w2 A no co L OA on oc ol :=
  ⟨h.bw.trans (b.mono h.bw.size), own_below h.row b, fun x hx => own_below (h.rows x hx) b, own_below h.opn b, h.ap, h.dat⟩
theorem TI.start (w1 : World) : TI w1 w1 none 0 0 [] none 0 0 [] := ⟨Below.refl _ _, World.ownsRow_nil _ _ _ _, by simp, World.ownsRow_nil _ _ _ _, by simp, by simp, by simp⟩
theorem TI.lens (h : TI w1 wr A no co L OA on oc ol) : no = L.length ∧ on = ol.length := by
  have h1 := (Rd.of_own h.row).len
  have h2 := (Rd.of_own h.opn).len
  rw [xvs_len] at h1
  rw [cvs_len] at h2
  omega
theorem TI.fin (h : TI w1 wr A no co L OA on oc ol) : Xr wr A no co L :=
  ⟨Rd.of_own h.row, fun x hx => ⟨Rd.of_own (h.rows x hx), fun y hy => (h.dat.1 x hx y hy).nx h.bw⟩⟩
/-- A change more. -/
theorem TI.push (h : TI w1 wr A no co L OA on oc ol) {x : CV} (hx : Dt w1 x) {OA' : Option Addr} {oc' : Nat} (own : w2.ownsRow w1.heap.size 52 3 (.slice OA' (on + 1) oc') (on + 1) (cvs (ol ++ [x]))) (g : Grew wr OA w2 OA') :
    TI w1 w2 A no co L OA' (on + 1) oc' (ol ++ [x]) := by
  refine ⟨g.low h.bw h.bw.size fun g e => (own_blk_le h.opn e).1, own_grew h.row g (own_ne h.row h.opn (by decide)), fun y hy => own_grew (h.rows y hy) g (h.ap y hy), own, fun y hy => ?_, h.dat.1, fun y hy => ?_⟩
  · rcases g.at_ with e | ⟨q, e, hq⟩
    · rw [e]; exact h.ap y hy
    · rcases hb : blk y.A with _ | b
      · exact .inl rfl
      · refine .inr fun e' => ?_
        have := (own_blk_le (h.rows y hy) hb).2
        rw [e] at e'; injection e' with e'; omega
  · rcases List.mem_append.1 hy with hy | hy
    · exact h.dat.2 y hy
    · obtain rfl : y = x := by simpa using hy
      exact hx
/-- A commit. -/
theorem TI.commit (h : TI w1 wr A no co L OA on oc ol) {A' : Option Addr} {co' : Nat} (own : w2.ownsRow w1.heap.size 42 1 (.slice A' (no + 1) co') (no + 1) (xvs (L ++ [⟨OA, oc, ol⟩]))) (g : Grew wr A w2 A') :
    TI w1 w2 A' (no + 1) co' (L ++ [⟨OA, oc, ol⟩]) none 0 0 [] := by
  have hon := h.lens.2
  refine ⟨g.low h.bw h.bw.size fun g e => (own_blk_le h.row e).1, own, fun y hy => ?_, World.ownsRow_nil _ _ _ _, fun y hy => ?_, fun y hy => ?_, by simp⟩
  · rcases List.mem_append.1 hy with hy | hy
    · exact own_grew (h.rows y hy) g (own_ne (h.rows y hy) h.row (by decide))
    · obtain rfl : y = ⟨OA, oc, ol⟩ := by simpa using hy
      have := own_grew h.opn g (own_ne h.opn h.row (by decide))
      rw [hon] at this
      exact this
  · rcases hb : blk y.A with _ | b
    · exact .inl rfl
    · exact .inr (by simp [blk])
  · rcases List.mem_append.1 hy with hy | hy
    · exact h.dat.1 y hy
    · obtain rfl : y = ⟨OA, oc, ol⟩ := by simpa using hy
      exact h.dat.2
end
theorem tk {l : List RV} {j : Nat} {x : RV} (h : l[j]? = some x) : (l.take (j + 1)).map RV.r = (l.take j).map RV.r ++ [x.r] := by rw [List.take_add_one, h]; simp
set_option maxHeartbeats 3200000 in
theorem strx_any {PA FA LA : Option Addr} {np pc m fc ln lc : Nat} {r0 last : Int} {log : List UInt8} (w : World) (hl : Hid (ln = log.length)) (h : Hid (Rd w 1 LA ln lc (bv log))) (hn : ln ≤ 2000000) (l0 : 0 ≤ last) (l1 : last ≤ 2147483648) :
    Calls Tryz.prog 40 #[.agg #[.slice PA np pc, .int .i64 r0, .slice FA m fc, .slice LA ln lc, .int .i64 last]] w (TxPost w (trx log last)) := by
  obtain ⟨i0, hi, hz0, hz1, hz2⟩ := info_parts info_changes
  obtain ⟨k0, ki, kz0, kz1, kz2⟩ := info_parts info_change
  obtain ⟨p, hp⟩ : ∃ p, w.heap.size = p := ⟨_, rfl⟩
  obtain ⟨W1, hW1⟩ : ∃ W1, w.alloc (.cells #[.slice PA np pc, .int .i64 r0, .slice FA m fc, .slice LA ln lc, .int .i64 last] 32) = W1 := ⟨_, rfl⟩
  have bw : Below w.heap.size w W1 := hW1 ▸ bal _ _
  have X : Hid (Bx W1 p [.slice PA np pc, .int .i64 r0, .slice FA m fc, .slice LA ln lc, .int .i64 last]) := hW1 ▸ Lib.hid (Bx.put _ hp #[.slice PA np pc, .int .i64 r0, .slice FA m fc, .slice LA ln lc, .int .i64 last] 32)
  have TX : Hid (Ty W1 p 32) := hW1 ▸ hp ▸ Lib.hid (Ty.new _ _ _)
  have HW1 := Lib.hid hW1
  clear hW1
  have x0 := X.out.at_ 0 (by simp)
  have x1 := X.out.at_ 1 (by simp)
  have x2 := X.out.at_ 2 (by simp)
  have x3 := X.out.at_ 3 (by simp)
  have x4 := X.out.at_ 4 (by simp)
  simp only [List.getElem?_cons_succ, List.getElem?_cons_zero] at x0 x1 x2 x3 x4
  have h1 := Lib.hid (h.out.nx bw)
  go_enter Tryz.func40, Tryz.ntmps40
  go_upto_region 1 with fail
  rw [HW1.out]
  go_wp2_with fail
  go_at_call 43
  refine (Read_any _ hl h1 (by omega)).mono ?_
  rintro e w1 ⟨RA, rn, rc, l, rfl, hlr, rs, b1⟩
  have S1 := Lib.hid rs.rr
  have HLR := Lib.hid hlr
  have hnc := S1.out.row.nc
  have hc63 := S1.out.row.c63
  have KO : Hid (∀ x ∈ l, Wl.ok x.r) := Lib.hid fun x hx => rd_ok log _ (by rw [← hlr]; exact List.mem_map_of_mem hx)
  have RN : Hid (rn = l.length) := Lib.hid rs.len
  have rn1 : rn * 21 ≤ ln := by
    have e := glen_le log
    have : ∀ q : List Rec, q.length * 21 ≤ (encs q).length := fun q => by
      induction q with
      | nil => simp
      | cons a q ih => rw [encs_cons, List.length_append, Wl.enc_len, List.length_cons]; omega
    have := this (l.map RV.r)
    rw [List.length_map, ← rs.len] at this
    unfold glen at e
    rw [← hlr, ← hl.out] at e
    omega
  obtain ⟨gn, hgn⟩ : ∃ gn, glen log = gn := ⟨_, rfl⟩
  have HGN := Lib.hid hgn
  rw [hgn]
  replace bw := bw.trans (b1.mono bw.size)
  replace X := Lib.hid (X.out.nx b1)
  clear hlr rs hgn x0 x1 x2 x3 x4 h1
  have x0 := X.out.at_ 0 (by simp)
  have x1 := X.out.at_ 1 (by simp)
  have x2 := X.out.at_ 2 (by simp)
  have x3 := X.out.at_ 3 (by simp)
  have x4 := X.out.at_ 4 (by simp)
  simp only [List.getElem?_cons_succ, List.getElem?_cons_zero] at x0 x1 x2 x3 x4
  by_cases hg : gn = ln
  · subst hg
    have CL : Hid (rn = 0 ∧ closed (rd log) = true ∨ ∃ q g o x, rn = q + 1 ∧ RA = some ⟨g, o, none⟩ ∧ g < w1.heap.size ∧ w1.cell? ⟨g, o + q * 3, none⟩ = some (.int .i64 x) ∧ closed (rd log) = decide (x = 3)) := Lib.hid (by
      rcases rn with _ | q
      · refine .inl ⟨rfl, ?_⟩
        have : l = [] := List.eq_nil_of_length_eq_zero RN.out.symm
        rw [← HLR.out, this]; rfl
      · obtain ⟨g, o, x, h1, hg, hx, _, a0, _, _⟩ := S1.out.rec_ (i := q) (by omega)
        refine .inr ⟨q, g, o, x.k, rfl, h1, hg, a0, ?_⟩
        unfold closed
        rw [← HLR.out, List.getLast?_eq_getElem?, List.getElem?_map, List.length_map, ← RN.out, Nat.add_sub_cancel, hx]; rfl)
    go_upto_region 2 with fail
    go_cut [41] from 22 (fun tv wx => tv = .bool (!(closed (rd log))) ∧ w1 = wx)
    case first =>
      rcases CL.out with ⟨h0, hc⟩ | ⟨q, g, o, x, h0, rfl, hgl, a0, hc⟩
      · subst h0
        go_wp2_with fail
        go_meet
        exact ⟨by rw [hc]; rfl, rfl⟩
      · have p1 : decide ((0 : Int) < (rn : Int)) = true := decide_eq_true (by omega)
        have p2 : (rn : Int) - 1 = (q : Int) := by omega
        have p3 : q < rn := by omega
        clear h0
        by_cases hx : x = 3
        · subst hx
          go_wp2_with fail
          go_meet
          exact ⟨by rw [hc]; rfl, rfl⟩
        · have hx' : (x != 3) = true := by simpa using hx
          go_wp2_with fail
          go_meet
          exact ⟨by rw [hc, decide_eq_false hx]; rfl, rfl⟩
    case rest =>
    obtain ⟨rfl, rfl⟩ := hcut
    clear CL
    cases hcl : closed (rd log) with
    | false =>
      have NN : Hid (trx log last = none) := Lib.hid (if_pos (.inr (.inl hcl)))
      clear hcl
      go_wp2_with fail
      go_ret2
      exact ⟨none, 0, 0, false, rfl, .inl ⟨rfl, NN.out⟩, bw⟩
    | true =>
      have HC := Lib.hid hcl
      clear hcl
      go_wp2_with fail
      go_loopw [8, 44] (fun cv iv wr => ∃ j c : Nat, j ≤ rn ∧ c ≤ j ∧ iv = .int .i64 j ∧ cv = .int .i64 c ∧ Hid (c = commits ((l.take j).map RV.r)) ∧ Below w1.heap.size w1 wr) (fun _ iv _ => (rn - intOf iv).toNat)
      case atStart => exact ⟨0, 0, by omega, by omega, rfl, rfl, Lib.hid rfl, Below.refl _ _⟩
      case round =>
        obtain ⟨j, k, hj, hkj, rfl, rfl, hk, b2⟩ := hrel
        by_cases hlt : j < rn
        · obtain ⟨g, o, x, rfl, hg, hx, hxm, a0, a1, a2⟩ := (S1.out.below b2).rec_ hlt
          have HX := Lib.hid (tk hx)
          have d1 : decide ((j : Int) < (rn : Int)) = true := decide_eq_true (by omega)
          obtain ⟨nx, hnx⟩ : ∃ nx, x.d.length = nx := ⟨_, rfl⟩
          rw [hnx] at a2
          clear hx hnx
          by_cases hx3 : x.k = 3
          · have HK2 : Hid (k + 1 = commits ((l.take (j + 1)).map RV.r)) := Lib.hid (by rw [HX.out, commits_snoc, if_pos (show x.r.k = 3 from hx3), ← hk.out])
            rw [hx3] at a0
            go_wp2_with fail
            go_roundw
            case rel => exact ⟨j + 1, k + 1, by omega, by omega, by first | trivial | go_num, by first | trivial | go_num, HK2, bel_alloc b2 (Nat.le_refl _) _⟩
            case measure => simp [intOf]; omega
          · have HK2 : Hid (k = commits ((l.take (j + 1)).map RV.r)) := Lib.hid (by rw [HX.out, commits_snoc, if_neg (show ¬ x.r.k = 3 from hx3), ← hk.out])
            have e3 : decide (x.k = 3) = false := decide_eq_false hx3
            go_wp2_with fail
            go_roundw
            case rel => exact ⟨j + 1, k, by omega, by omega, by first | trivial | go_num, by first | trivial | go_num, HK2, bel_alloc b2 (Nat.le_refl _) _⟩
            case measure => simp [intOf]; omega
        · obtain rfl : rn = j := by omega
          have d1 : decide ((rn : Int) < (rn : Int)) = false := decide_eq_false (by omega)
          have HK : Hid (k = commits (rd log)) := Lib.hid (by have h := hk.out; rw [List.take_of_length_le (by have := RN.out; omega), HLR.out] at h; exact h)
          have X := Lib.hid (X.out.nx b2)
          clear x0 x1 x2 x3 x4
          have x0 := X.out.at_ 0 (by simp)
          have x1 := X.out.at_ 1 (by simp)
          have x2 := X.out.at_ 2 (by simp)
          have x3 := X.out.at_ 3 (by simp)
          have x4 := X.out.at_ 4 (by simp)
          simp only [List.getElem?_cons_succ, List.getElem?_cons_zero] at x0 x1 x2 x3 x4
          by_cases hlk : last < (k : Int)
          · have NN : Hid (trx log last = none) := Lib.hid (if_pos (.inr (.inr (by rw [← HK.out]; exact hlk))))
            have e5 : decide (last < (k : Int)) = true := decide_eq_true hlk
            have bF := bw.trans (b2.mono bw.size)
            go_wp2_with fail
            go_ret2
            exact ⟨none, 0, 0, false, rfl, .inl ⟨rfl, NN.out⟩, bF⟩
          · have e5 : decide (last < (k : Int)) = false := decide_eq_false hlk
            have S2 := Lib.hid (S1.out.below b2)
            have bw2 := bw.trans (b2.mono bw.size)
            obtain ⟨tx0, htx0⟩ : ∃ tx0 : Int, last - (k : Int) + 1 = tx0 := ⟨_, rfl⟩
            have TF : Hid (trx log last = (tfold tx0 (l.map RV.r)).map (·.1)) := Lib.hid (by
              unfold trx
              rw [if_neg (by rw [HC.out, ← HK.out]; simp; exact ⟨by rw [HGN.out, hl.out], by omega⟩), HLR.out, ← HK.out, htx0])
            have t1 : 1 ≤ tx0 := by omega
            have t2 : tx0 ≤ 2147483649 := by omega
            obtain ⟨W2, rfl⟩ : ∃ u, u = wr := ⟨_, rfl⟩
            have HTX := Lib.hid htx0
            clear htx0
            go_wp2_with fail
            rw [HTX.out]
            go_loopw [6, 7, 11, 65] (fun ov pv tv iv wr => ∃ (j : Nat) (A : Option Addr) (no co : Nat) (L : List XV) (OA : Option Addr) (on oc : Nat) (ol : List CV) (tx : Int), j ≤ rn ∧ iv = .int .i64 j ∧ ov = .slice A no co ∧ pv = .slice OA on oc ∧ tv = .int .i64 tx ∧ 1 ≤ tx ∧ tx ≤ tx0 + j ∧ no ≤ j ∧ on ≤ j ∧ Hid (TI W2 wr A no co L OA on oc ol) ∧ Hid (tfold tx0 ((l.take j).map RV.r) = some (L.map XV.t, ol.map CV.ch, tx))) (fun _ _ _ iv _ => (rn - intOf iv).toNat)
            case atStart => exact ⟨0, none, 0, 0, [], none, 0, 0, [], tx0, by omega, rfl, rfl, rfl, rfl, by omega, by omega, by omega, by omega, Lib.hid (TI.start _), Lib.hid rfl⟩
            case round =>
              obtain ⟨j, A, no, co, L, OA, on, oc, ol, tx, hj, rfl, rfl, rfl, rfl, t3, t4, hno, hon, T, PF⟩ := hrel
              have TL := Lib.hid T.out.lens
              by_cases hlt : j < rn
              · have S3 := Lib.hid (S2.out.below T.out.bw)
                have d1 : decide ((j : Int) < (rn : Int)) = true := decide_eq_true (by omega)
                obtain ⟨g, o, x, rfl, hg, hx, hxm, a0, a1, a2⟩ := S3.out.rec_ hlt
                have HX := Lib.hid (tk hx)
                have HM := Lib.hid hxm
                have XD := Lib.hid (S2.out.dat x hxm)
                have KX := Lib.hid (KO.out x hxm)
                obtain ⟨nx, hnx⟩ : ∃ nx, x.d.length = nx := ⟨_, rfl⟩
                rw [hnx] at a2 XD
                have HNX := Lib.hid hnx
                clear hx hnx hxm
                have nx4 : nx ≤ 4096 := by rw [← HNX.out]; exact ok_len KX.out
                have FT : Hid (tfold tx0 ((l.take (j + 1)).map RV.r) = tstp (some (L.map XV.t, ol.map CV.ch, tx)) x.r) := Lib.hid (by rw [HX.out, tfold_snoc, PF.out])
                obtain ⟨q, hq⟩ : ∃ q, wr.heap.size = q := ⟨_, rfl⟩
                obtain ⟨W3, hW3⟩ : ∃ W3, wr.alloc (.cells #[.int .i64 x.k, .int .i64 x.t, .slice x.A nx x.c] 89) = W3 := ⟨_, rfl⟩
                have b3 : Below wr.heap.size wr W3 := hW3 ▸ bal _ _
                have Y : Hid (Bx W3 q [.int .i64 x.k, .int .i64 x.t, .slice x.A nx x.c]) := hW3 ▸ Lib.hid (Bx.put _ hq #[.int .i64 x.k, .int .i64 x.t, .slice x.A nx x.c] 89)
                have TY : Hid (Ty W3 q 89) := hW3 ▸ hq ▸ Lib.hid (Ty.new _ _ _)
                have HW3 := Lib.hid hW3
                clear hW3
                have y0 := Y.out.at_ 0 (by simp)
                have y1 := Y.out.at_ 1 (by simp)
                have y2 := Y.out.at_ 2 (by simp)
                simp only [List.getElem?_cons_succ, List.getElem?_cons_zero] at y0 y1 y2
                have T3 := Lib.hid (T.out.nx b3)
                have XD3 := Lib.hid (XD.out.nx T3.out.bw)
                have yl := Y.out.lt
                by_cases htx : x.t = tx
                · have e1 : ((x.t : Int) != tx) = false := by simpa using htx
                  by_cases hk3 : x.k = 3
                  · have FT2 : Hid (tfold tx0 ((l.take (j + 1)).map RV.r) = some ((L ++ [(⟨OA, oc, ol⟩ : XV)]).map XV.t, ([] : List CV).map CV.ch, tx + 1)) := Lib.hid (by
                      rw [FT.out]; unfold tstp; simp only [Option.bind_some]
                      rw [if_neg (by simpa [RV.r] using htx), if_pos (by simpa [RV.r] using hk3)]; simp [XV.t])
                    have e2 : (x.k == 3) = true := by simpa using hk3
                    clear hk3 htx
                    go_upto_region 19 with fail
                    rw [HW3.out]
                    go_wp2_with (at_builtin; apply hold)
                    unfold Hold
                    have hb3 := T3.out.bw.size
                    refine wpList_app _ rfl (.tmp 76) (.tmp 78) 22 rfl W2.heap.size 42 i0 (.slice none 0 0) 1 24 Tryz.underlying22 hi hz0 hz1 hz2 rfl (by omega) (by rfl) (T3.out.nx (bal _ _)).row (by rfl) (Rd.lit W3 _ 1 #[.slice OA on oc] 1 (by omega) rfl) (one1 _ rfl) (by omega) (by omega) (by simp; omega) ?_
                    intro A4 c4 W4 own4 g4
                    have T4 : Hid (TI W2 W4 A4 (no + 1) c4 (L ++ [⟨OA, oc, ol⟩]) none 0 0 []) := Lib.hid ((T3.out.nx (bal _ _)).commit (by
                      have e : xvs (L ++ [(⟨OA, oc, ol⟩ : XV)]) = xvs L ++ [.slice OA on oc] := by simp [xvs, XV.v, TL.out.2]
                      rw [e]; exact own4) g4)
                    clear own4 g4
                    go_wp2_with fail
                    go_roundw
                    case rel => exact ⟨j + 1, A4, no + 1, c4, _, none, 0, 0, [], tx + 1, by omega, by first | trivial | go_num, rfl, rfl, by first | trivial | go_num, by omega, by omega, by omega, by omega, T4, FT2⟩
                    case measure => simp [intOf]; omega
                  · have e2 : (x.k == 3) = false := by simpa using hk3
                    have KR : Hid (1 ≤ x.r.k ∧ x.r.k ≤ 3) := Lib.hid ⟨KX.out.1, KX.out.2.1⟩
                    have FT2 : Hid (tfold tx0 ((l.take (j + 1)).map RV.r) = (chR x.r).map fun c => (L.map XV.t, ol.map CV.ch ++ [c], tx)) := Lib.hid (by
                      rw [FT.out]; unfold tstp; simp only [Option.bind_some]
                      rw [if_neg (by simpa [RV.r] using htx), if_neg (by simpa [RV.r] using hk3)])
                    clear hk3 htx
                    go_upto_region 19 with fail
                    rw [HW3.out]
                    go_wp2_with fail
                    go_at_call 78
                    refine (change_any (r := x.r) W2 _ XD XD3 KR (by omega)).mono ?_
                    rintro e w4 ⟨CA, CB, cn, cc, cm, cd, ck, cv, del, b, rfl, hres, b4⟩
                    have T4 := Lib.hid (T3.out.nx b4)
                    obtain ⟨q4, hq4⟩ : ∃ q4, w4.heap.size = q4 := ⟨_, rfl⟩
                    obtain ⟨W5, hW5⟩ : ∃ W5, w4.alloc (.cells #[.slice CA cn cc, .slice CB cm cd, .bool del] 52) = W5 := ⟨_, rfl⟩
                    have b5 : Below w4.heap.size w4 W5 := hW5 ▸ bal _ _
                    have Z : Hid (Bx W5 q4 [.slice CA cn cc, .slice CB cm cd, .bool del]) := hW5 ▸ Lib.hid (Bx.put _ hq4 #[.slice CA cn cc, .slice CB cm cd, .bool del] 52)
                    have TZ : Hid (Ty W5 q4 52) := hW5 ▸ hq4 ▸ Lib.hid (Ty.new _ _ _)
                    have HW5 := Lib.hid hW5
                    clear hW5
                    have z0 := Z.out.at_ 0 (by simp)
                    have z1 := Z.out.at_ 1 (by simp)
                    have z2 := Z.out.at_ 2 (by simp)
                    simp only [List.getElem?_cons_succ, List.getElem?_cons_zero] at z0 z1 z2
                    have zl := Z.out.lt
                    have T5 := Lib.hid (T4.out.nx b5)
                    have bF := bw2.trans (T5.out.bw.mono bw2.size)
                    have hb5 := T5.out.bw.size
                    clear y0 y1 y2 a0 a1 a2 yl
                    rcases hres with ⟨rfl, hno⟩ | ⟨rfl, hyes, LN, DT⟩
                    · have NN : Hid (trx log last = none) := Lib.hid (by
                        rw [TF.out]
                        have : tfold tx0 ((l.map RV.r).take (j + 1)) = none := by
                          rw [← List.map_take, FT2.out, hno]; rfl
                        rw [tfold_none this]; rfl)
                      clear hno
                      go_upto_region 25 with fail
                      rw [HW5.out]
                      go_wp2_with fail
                      go_ret2
                      exact ⟨none, 0, 0, false, rfl, .inl ⟨rfl, NN.out⟩, bF⟩
                    · have FT3 : Hid (tfold tx0 ((l.take (j + 1)).map RV.r) = some (L.map XV.t, (ol ++ [(⟨CA, cc, ck, CB, cd, cv, del⟩ : CV)]).map CV.ch, tx)) := Lib.hid (by
                        rw [FT2.out, hyes]; simp [CV.ch])
                      clear hyes
                      go_upto_region 25 with fail
                      rw [HW5.out]
                      go_wp2_with (at_builtin; apply hold)
                      unfold Hold
                      refine wpList_app _ rfl (.tmp 89) (.tmp 91) 42 rfl W2.heap.size 52 k0 (.agg #[.slice none 0 0, .slice none 0 0, .bool false]) 3 56 Tryz.underlying42 ki kz0 kz1 kz2 rfl (by omega) (by rfl) (T5.out.nx (bal _ _)).opn (by rfl) (Rd.lit W5 _ 3 #[.slice CA cn cc, .slice CB cm cd, .bool del] 1 (by omega) rfl) (Wl.one3 _ _ _ rfl rfl rfl) (by omega) (by omega) (by simp; omega) ?_
                      intro A6 c6 W6 own6 g6
                      have T6 : Hid (TI W2 W6 A no co L A6 (on + 1) c6 (ol ++ [⟨CA, cc, ck, CB, cd, cv, del⟩])) := Lib.hid ((T5.out.nx (bal _ _)).push DT.out (by
                        have e : cvs (ol ++ [(⟨CA, cc, ck, CB, cd, cv, del⟩ : CV)]) = cvs ol ++ [.slice CA cn cc, .slice CB cm cd, .bool del] := by rw [cvs_app]; simp [cvs, CV.cs, LN.out.1, LN.out.2]
                        rw [e]; exact own6) g6)
                      clear own6 g6
                      go_wp2_with fail
                      go_roundw
                      case rel => exact ⟨j + 1, A, no, co, L, A6, on + 1, c6, _, tx, by omega, by first | trivial | go_num, rfl, rfl, rfl, by omega, by omega, by omega, by omega, T6, FT3⟩
                      case measure => simp [intOf]; omega
                · have e1 : ((x.t : Int) != tx) = true := by simpa using htx
                  have NN : Hid (trx log last = none) := Lib.hid (by
                    rw [TF.out]
                    have : tfold tx0 ((l.map RV.r).take (j + 1)) = none := by
                      rw [← List.map_take, FT.out]; unfold tstp; simp only [Option.bind_some]; rw [if_pos (by simpa [RV.r] using htx)]
                    rw [tfold_none this]; rfl)
                  have bF := bw2.trans (T3.out.bw.mono bw2.size)
                  go_upto_region 19 with fail
                  rw [HW3.out]
                  go_wp2_with fail
                  go_ret2
                  exact ⟨none, 0, 0, false, rfl, .inl ⟨rfl, NN.out⟩, bF⟩
              · obtain rfl : rn = j := by omega
                have d1 : decide ((rn : Int) < (rn : Int)) = false := decide_eq_false (by omega)
                have R : Hid (trx log last = some (L.map XV.t)) := Lib.hid (by
                  have h := PF.out
                  rw [List.take_of_length_le (by have := RN.out; omega)] at h
                  rw [TF.out, h]; rfl)
                have bF := bw2.trans (T.out.bw.mono bw2.size)
                go_wp2_with fail
                go_ret2
                exact ⟨A, no, co, true, rfl, .inr ⟨rfl, L, R.out, Lib.hid T.out.fin⟩, bF⟩
  · have e1 : ((gn : Int) != (ln : Int)) = true := by simp; omega
    have NN : Hid (trx log last = none) := Lib.hid (trx_bad (by rw [HGN.out, ← hl.out]; exact hg))
    go_wp2_with fail
    go_ret2
    exact ⟨none, 0, 0, false, rfl, .inl ⟨rfl, NN.out⟩, bw⟩
end Go.Proofs.YtpmkohnljngbhaaGreatDoor.Sr
