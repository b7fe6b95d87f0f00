/- Walks: Append, Cut, by the program and by the reference. -/
import Derived.Test.YtfkeedeiafegiaaWalW7
namespace Go.Proofs.Ytfkeedeiafegiaa.Wl
set_option linter.unusedVariables false
set_option linter.unusedSimpArgs false
open Go.RowKit
attribute [local go_sem ↓] Go.wp_at_zero Go.wp_at_succ

def aerr (b : List UInt8) (r : Rec) : Int :=
  if okV r.k r.t r.d.length = false then 1 else if glen b ≠ b.length ∨ 1048576 < b.length then 16 else if 1048576 < b.length + (21 + r.d.length) then 5 else 0
def aout (b : List UInt8) (r : Rec) : List UInt8 := if aerr b r = 0 then b ++ enc r else []
theorem aerr_1 {b : List UInt8} {r : Rec} (h : okV r.k r.t r.d.length = false) : aerr b r = 1 := by unfold aerr; rw [if_pos h]
theorem aerr_16 {b : List UInt8} {r : Rec} (h : okV r.k r.t r.d.length = true) (h1 : glen b ≠ b.length ∨ 1048576 < b.length) : aerr b r = 16 := by unfold aerr; rw [if_neg (by rw [h]; simp), if_pos h1]
theorem aerr_5 {b : List UInt8} {r : Rec} (h : okV r.k r.t r.d.length = true) (h1 : ¬ (glen b ≠ b.length ∨ 1048576 < b.length)) (h2 : 1048576 < b.length + (21 + r.d.length)) : aerr b r = 5 := by
  unfold aerr; rw [if_neg (by rw [h]; simp), if_neg h1, if_pos h2]
theorem aerr_0 {b : List UInt8} {r : Rec} (h : okV r.k r.t r.d.length = true) (h1 : ¬ (glen b ≠ b.length ∨ 1048576 < b.length)) (h2 : ¬ 1048576 < b.length + (21 + r.d.length)) : aerr b r = 0 := by
  unfold aerr; rw [if_neg (by rw [h]; simp), if_neg h1, if_neg h2]
theorem aout_no {b : List UInt8} {r : Rec} (h : aerr b r ≠ 0) : aout b r = [] := if_neg h
theorem aout_yes {b : List UInt8} {r : Rec} (h : aerr b r = 0) : aout b r = b ++ enc r := if_pos h
/-- What Append returns. -/
def ApR (w : World) (b : List UInt8) (r : Rec) (e : Ending) (w' : World) : Prop :=
  ∃ A n c, e = .returned (.tuple #[.slice A n c, .int .i64 (aerr b r)]) ∧ w'.ownsRow w.heap.size 5 1 (.slice A n c) n (bv (aout b r)) ∧ Below w.heap.size w w'
theorem ApR.no {w : World} {b : List UInt8} {r : Rec} {w' : World} {x : Int} (h : aerr b r = x) (h0 : x ≠ 0) (hb : Below w.heap.size w w') : ApR w b r (.returned (.tuple #[.slice none 0 0, .int .i64 x])) w' :=
  ⟨none, 0, 0, by rw [h], by rw [aout_no (by omega)]; exact World.ownsRow_nil _ _ _ _, hb⟩

set_option maxHeartbeats 1600000 in
theorem Append_any {A B : Option Addr} {n c m d : Nat} {b data : List UInt8} (k t : Int) (w : World) (hl : Hid (n = b.length)) (h : Hid (Rd w 1 A n c (bv b))) (hn : n ≤ 1073741824)
    (hdl : Hid (m = data.length)) (hd : Hid (Rd w 1 B m d (bv data))) (t2 : t ≤ 9223372036854775807) :
    Calls Try.prog 22 #[.slice A n c, .agg #[.int .i64 k, .int .i64 t, .slice B m d]] w (ApR w b ⟨k, t, data⟩) := by
  have hnc := h.out.nc
  have hc63 := h.out.c63
  have hv' : Hid (okV (⟨k, t, data⟩ : Rec).k (⟨k, t, data⟩ : Rec).t (⟨k, t, data⟩ : Rec).d.length = okV k t m) := Lib.hid (by rw [hdl.out])
  have hrl : Hid ((⟨k, t, data⟩ : Rec).d.length = m) := Lib.hid hdl.out.symm
  have h0 := Lib.hid (h.out.alloc (.cells #[.int .i64 k, .int .i64 t, .slice B m d] 24))
  have hd0 := Lib.hid (hd.out.alloc (.cells #[.int .i64 k, .int .i64 t, .slice B m d] 24))
  obtain ⟨x0, x1, x2⟩ := box3 w (.int .i64 k) (.int .i64 t) (.slice B m d) 24
  have X0 := Lib.hid x0
  have X1 := Lib.hid x1
  have X2 := Lib.hid x2
  clear x0 x1 x2
  rcases hv : okV k t m with _ | _
  · have R := Lib.hid (aerr_1 (b := b) (hv'.out.trans hv))
    have HV := Lib.hid hv
    clear hv
    go_enter Try.func22, Try.ntmps22
    go_wp2_with fail
    go_at_call 42
    refine (valid_any k t B m d _).mono ?_
    rintro e w1 ⟨rfl, hb⟩
    rw [HV.out]
    have hbw : Below w.heap.size w w1 := ((Below.refl _ _).alloc (Nat.le_refl _) _).trans (hb.mono (by simp))
    clear hb
    go_wp2_with fail
    go_ret2
    exact ApR.no R.out (by decide) hbw
  · have hv1 := Lib.hid (hv'.out.trans hv)
    have ok4 := okV_p hv
    obtain ⟨k1, k2, t1, hm, _⟩ := ok4
    have HV := Lib.hid hv
    clear hv
    go_enter Try.func22, Try.ntmps22
    go_wp2_with fail
    go_at_call 42
    refine (valid_any k t B m d _).mono ?_
    rintro e w1 ⟨rfl, hb⟩
    rw [HV.out]
    have hbw : Below w.heap.size w w1 := ((Below.refl _ _).alloc (Nat.le_refl _) _).trans (hb.mono (by simp))
    obtain ⟨W0, hW0⟩ : ∃ W0, w.alloc (.cells #[.int .i64 k, .int .i64 t, .slice B m d] 24) = W0 := ⟨_, rfl⟩
    have hz' : w.heap.size < W0.heap.size := by rw [← hW0]; simp
    rw [hW0] at X0 X1 X2 hb h0 hd0
    clear hW0
    have h1 := Lib.hid (h0.out.below hb)
    have z1 := hb.size
    go_wp2_with fail
    go_at_call 19
    refine (Read_any _ hl h1 hn).mono ?_
    rintro e w2 ⟨A2, n2, c2, l2, rfl, _, _, hb2⟩
    have hb02 := hb.trans (hb2.mono z1)
    have hbw2 := hbw.trans (hb2.mono hbw.size)
    have z2 := hb2.size
    clear hb hb2 hbw h1
    have hgl := glen_le b
    obtain ⟨gl, hgl'⟩ : ∃ gl, glen b = gl := ⟨_, rfl⟩
    rw [hgl'] at hgl ⊢
    have HGL := Lib.hid hgl'
    clear hgl'
    have hgln : gl ≤ n := by rw [hl.out]; exact hgl
    clear hgl
    by_cases hg1 : gl = n
    · subst hg1
      by_cases hg2 : gl ≤ 1048576
      · have x0 := (hb02.cell (p := ⟨w.heap.size, 0, none⟩) hz').trans X0.out
        have x1 := (hb02.cell (p := ⟨w.heap.size, 1, none⟩) hz').trans X1.out
        have x2 := (hb02.cell (p := ⟨w.heap.size, 2, none⟩) hz').trans X2.out
        have h2 := Lib.hid (h0.out.below hb02)
        have hd2 := Lib.hid (hd0.out.below hb02)
        have hlt2 : w.heap.size < w2.heap.size := by omega
        have HK : Hid (∀ U, Below w2.heap.size w2 U → (U.cell? ⟨w.heap.size, 0, none⟩ = some (.int .i64 k) ∧ U.cell? ⟨w.heap.size, 1, none⟩ = some (.int .i64 t) ∧ U.cell? ⟨w.heap.size, 2, none⟩ = some (.slice B m d) ∧ Below w2.heap.size w2 U)) :=
          Lib.hid fun U hU => ⟨(hU.cell (p := ⟨w.heap.size, 0, none⟩) hlt2).trans x0, (hU.cell (p := ⟨w.heap.size, 1, none⟩) hlt2).trans x1, (hU.cell (p := ⟨w.heap.size, 2, none⟩) hlt2).trans x2, hU⟩
        have GB : Hid (∀ U, (U.cell? ⟨w.heap.size, 0, none⟩ = some (.int .i64 k) ∧ U.cell? ⟨w.heap.size, 1, none⟩ = some (.int .i64 t) ∧ U.cell? ⟨w.heap.size, 2, none⟩ = some (.slice B m d) ∧ Below w2.heap.size w2 U) → Below w2.heap.size w2 U) := Lib.hid fun U h => h.2.2.2
        have CL : Hid (∀ U, Below w2.heap.size w2 U → Calls Try.prog 28 #[.slice A gl c] U (Mk U gl b)) := Lib.hid fun U hU => clone_any U (Lib.hid (h2.out.below hU)) hn
        have CO : Hid (∀ U A1 c1, Below w2.heap.size w2 U → U.ownsRow w2.heap.size 5 1 (.slice A1 gl c1) gl (bv b) → Calls Try.prog 43 #[.slice A1 gl c1, .agg #[.int .i64 k, .int .i64 t, .slice B m d]] U (Ap U w2.heap.size A1 gl b (21 + m) (enc ⟨k, t, data⟩))) :=
          Lib.hid fun U A1 c1 hU hO => code_any k t U (Lib.hid hO) (Lib.hid (hd2.out.below hU)) (Lib.hid fun h0 => by
            obtain ⟨g, o, e, hg, _⟩ := hd2.out.at_ h0
            rcases hA : blk A1 with _ | q
            · exact .inl rfl
            · refine .inr fun e' => ?_
              have := (own_blk_le hO hA).1
              rw [e] at e'
              simp [blk] at e'
              omega) k1 k2 t1 t2 hm hn hU.size
        go_wp2_with fail
        go_region_held3 (fun w' => w'.cell? ⟨w.heap.size, 0, none⟩ = some (.int .i64 k) ∧ w'.cell? ⟨w.heap.size, 1, none⟩ = some (.int .i64 t) ∧ w'.cell? ⟨w.heap.size, 2, none⟩ = some (.slice B m d) ∧ Below w2.heap.size w2 w')
          ((refine HK.out _ ?_; repeat (first | exact Below.refl _ _ | assumption | (refine Below.drew ?_) | exact GB.out _ (by assumption))))
          (first
            | (go_at_call 28; refine (CL.out _ (GB.out _ (by assumption))).mono ?_; rintro e w3 ⟨A3, c3, rfl, own3, hb3⟩; have own3' := own_base own3 (GB.out _ (by assumption)).size; have hb3' := bel_step (GB.out _ (by assumption)) hb3 (Nat.le_refl _))
            | (go_at_call 43; refine (CO.out _ _ _ hb3' own3').mono ?_; rintro e w4 ⟨A4, c4, rfl, own4, g4⟩; have hb4 := g4.low hb3' hb3'.size (fun g e => (own_blk_le own3' e).1)))
        have hbF := hbw2.trans (hb4.mono hbw2.size)
        have OW := Lib.hid own4
        clear own4 CL CO GB HK
        by_cases hg3 : gl + (21 + m) ≤ 1048576
        · have R := Lib.hid (aerr_0 (b := b) (r := ⟨k, t, data⟩) hv1.out (by rw [← hl.out, HGL.out]; omega) (by rw [← hl.out, hrl.out]; omega))
          go_wp2_with fail
          go_ret2
          exact ⟨A4, gl + (21 + m), c4, by rw [R.out]; rfl, by rw [aout_yes R.out]; exact own_base OW.out hbw2.size, hbF⟩
        · have R := Lib.hid (aerr_5 (b := b) (r := ⟨k, t, data⟩) hv1.out (by rw [← hl.out, HGL.out]; omega) (by rw [← hl.out, hrl.out]; omega))
          go_wp2_with fail
          go_ret2
          exact ApR.no R.out (by decide) hbF
      · have R := Lib.hid (aerr_16 (b := b) (r := ⟨k, t, data⟩) hv1.out (.inr (by rw [← hl.out]; omega)))
        go_wp2_with fail
        go_ret2
        exact ApR.no R.out (by decide) hbw2
    · have R := Lib.hid (aerr_16 (b := b) (r := ⟨k, t, data⟩) hv1.out (.inl (by rw [← hl.out, HGL.out]; exact hg1)))
      have hne : ((gl : Int) != (n : Int)) = true := by simp; omega
      go_wp2_with fail
      go_ret2
      exact ApR.no R.out (by decide) hbw2

set_option maxHeartbeats 1600000 in
theorem rAppend_any {A B : Option Addr} {n c m d : Nat} {b data : List UInt8} (k t : Int) (w : World) (hl : Hid (n = b.length)) (h : Hid (Rd w 1 A n c (bv b))) (hn : n ≤ 1073741824)
    (hdl : Hid (m = data.length)) (hd : Hid (Rd w 1 B m d (bv data))) (t2 : t ≤ 9223372036854775807) :
    Calls Try.prog 23 #[.slice A n c, .agg #[.int .i64 k, .int .i64 t, .slice B m d]] w (ApR w b ⟨k, t, data⟩) := by
  have hnc := h.out.nc
  have hc63 := h.out.c63
  obtain ⟨i0, hi, hz0, hz1, hz2⟩ := info_parts info_u8
  have hv' : Hid (okV (⟨k, t, data⟩ : Rec).k (⟨k, t, data⟩ : Rec).t (⟨k, t, data⟩ : Rec).d.length = okV k t m) := Lib.hid (by rw [hdl.out])
  have hrl : Hid ((⟨k, t, data⟩ : Rec).d.length = m) := Lib.hid hdl.out.symm
  have h0 := Lib.hid (h.out.alloc (.cells #[.int .i64 k, .int .i64 t, .slice B m d] 24))
  have hd0 := Lib.hid (hd.out.alloc (.cells #[.int .i64 k, .int .i64 t, .slice B m d] 24))
  rcases hv : okV k t m with _ | _
  · have R := Lib.hid (aerr_1 (b := b) (hv'.out.trans hv))
    have HV := Lib.hid hv
    clear hv
    go_enter Try.func23, Try.ntmps23
    go_wp2_with fail
    go_at_call 15
    refine (rEncode_bad k t _ HV.out).mono ?_
    rintro e w1 ⟨rfl, hb⟩
    have hbw : Below w.heap.size w w1 := ((Below.refl _ _).alloc (Nat.le_refl _) _).trans (hb.mono (by simp))
    clear hb
    go_wp2_with fail
    go_ret2
    exact ApR.no R.out (by decide) hbw
  · have hv1 := Lib.hid (hv'.out.trans hv)
    obtain ⟨k1, k2, t1, hm, _⟩ := okV_p hv
    have HV := Lib.hid hv
    clear hv
    go_enter Try.func23, Try.ntmps23
    go_wp2_with fail
    go_at_call 15
    refine (rEncode_ok k t _ hd0 HV.out t2).mono ?_
    rintro e w1 ⟨A1, c1, rfl, own1, hb⟩
    have own1' := Lib.hid (own_base (base' := w.heap.size) own1 (by simp))
    have hbw : Below w.heap.size w w1 := ((Below.refl _ _).alloc (Nat.le_refl _) _).trans (hb.mono (by simp))
    have h1 := Lib.hid (h0.out.below hb)
    clear hb own1
    go_wp2_with fail
    go_at_call 20
    refine (rRead_any _ hl h1 hn).mono ?_
    rintro e w2 ⟨A2, n2, c2, l2, rfl, _, _, hb2⟩
    have hbw2 := hbw.trans (hb2.mono hbw.size)
    have own2 := Lib.hid (own_below own1'.out hb2)
    have h2 := Lib.hid (h1.out.below hb2)
    have z2 := hbw2.size
    clear hb2 hbw h1 own1'
    have hgl := glen_le b
    obtain ⟨gl, hgl'⟩ : ∃ gl, glen b = gl := ⟨_, rfl⟩
    rw [hgl'] at hgl ⊢
    have HGL := Lib.hid hgl'
    clear hgl'
    have hgln : gl ≤ n := by rw [hl.out]; exact hgl
    clear hgl
    by_cases hg1 : gl = n
    · subst hg1
      by_cases hg2 : gl ≤ 1048576
      · by_cases hg3 : gl + (21 + m) ≤ 1048576
        · have R := Lib.hid (aerr_0 (b := b) (r := ⟨k, t, data⟩) hv1.out (by rw [← hl.out, HGL.out]; omega) (by rw [← hl.out, hrl.out]; omega))
          have own3 := own_lit w2 (base := w2.heap.size) 5 1 #[] 0 (Nat.le_refl _) (by unfold maxLen; omega) rfl
          have own2' := own_alloc own2.out (.cells #[] 5)
          have h3 := h2.out.alloc (.cells #[] 5)
          have O3 := Lib.hid own3
          have O2 := Lib.hid own2'
          have ap := own_apart own2.out own3 (Nat.le_refl _)
          have AP := Lib.hid ap
          clear own3 own2' ap
          have z3 : w2.heap.size ≤ (w2.alloc (.cells #[] 5)).heap.size := by simp
          go_wp2_with (first
            | (at_builtin; refine wpList_app _ rfl (.tmp 36) (.tmp 37) 22 rfl w2.heap.size 5 i0 (.int .u8 0) 1 1 Try.underlying22 hi hz0 hz1 hz2 rfl (by omega) (by rfl) O3.out (by rfl) h3 (bv_one _) (by omega) (by omega) z3 ?_; intro A6 c6 w6 own6 g6; rw [Nat.zero_add] at own6; have own2'' := own_grew O2.out g6 AP.out; have z6 := g6.by_.size)
            | (at_builtin; refine wpList_app _ rfl (.tmp 38) (.tmp 39) 22 rfl w2.heap.size 5 i0 (.int .u8 0) 1 1 Try.underlying22 hi hz0 hz1 hz2 rfl (by omega) (by rfl) own6 (by rfl) (Rd.of_own own2'') (bv_one _) (by omega) (by omega) (by omega) ?_; intro A7 c7 w7 own7 g7))
          go_ret2
          have g67 := g6.trans g7
          refine ⟨A7, gl + (21 + m), c7, by rw [R.out]; exact ret_val (by simp), ?_, g67.low (bel_alloc hbw2 (Nat.le_refl _) _) (by simp; omega) (fun g e => by simp [blk] at e; omega)⟩
          rw [aout_yes R.out, bv_app]
          exact own_base own7 z2
        · have R := Lib.hid (aerr_5 (b := b) (r := ⟨k, t, data⟩) hv1.out (by rw [← hl.out, HGL.out]; omega) (by rw [← hl.out, hrl.out]; omega))
          go_wp2_with fail
          go_ret2
          exact ApR.no R.out (by decide) hbw2
      · have R := Lib.hid (aerr_16 (b := b) (r := ⟨k, t, data⟩) hv1.out (.inr (by rw [← hl.out]; omega)))
        go_wp2_with fail
        go_ret2
        exact ApR.no R.out (by decide) hbw2
    · have R := Lib.hid (aerr_16 (b := b) (r := ⟨k, t, data⟩) hv1.out (.inl (by rw [← hl.out, HGL.out]; exact hg1)))
      have hne : ((gl : Int) != (n : Int)) = true := by simp; omega
      go_wp2_with fail
      go_ret2
      exact ApR.no R.out (by decide) hbw2
end Go.Proofs.Ytfkeedeiafegiaa.Wl
