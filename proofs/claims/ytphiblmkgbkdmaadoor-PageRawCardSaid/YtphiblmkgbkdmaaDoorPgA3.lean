/- PageRaw. -/
import Derived.Test.YtphiblmkgbkdmaaDoorPgNx
import Derived.Test.YtphiblmkgbkdmaaDoorPgRw
namespace Go.Proofs.YtphiblmkgbkdmaaDoor.Pg
set_option linter.unusedVariables false
set_option linter.unusedSimpArgs false
open Go.RowKit Wl

theorem raws_any_ix {α : Type} (val : α → Value) (p : α → Bool) {A : Option Addr} {n c : Nat} {l : List α}  (w : World) (h : Hid (Rd w 1 A n c (l.map val)))
    (hf : Hid (∀ U, Below w.heap.size w U → ∀ x ∈ l, Calls Tryd.prog 15 #[val x] U fun e w' => e = .returned (.bool (p x)) ∧ Below U.heap.size U w')) :
    Calls Tryd.prog 44 #[.slice A n c, .func (.func 15) #[] #[]] w (Ix w (l.any p)) := by
  have hnc := h.out.nc
  have hc63 := h.out.c63
  go_enter Tryd.func44, Tryd.ntmps44
  go_wp2_with fail
  go_loopw [8] (fun i wr => ∃ j : Nat, j ≤ n ∧ i = .int .i64 j ∧ Below w.heap.size w wr ∧ Hid ((l.take j).any p = false)) (fun i _ => (n - intOf i).toNat)
  case atStart => exact ⟨0, by omega, rfl, Below.refl _ _, Lib.hid rfl⟩
  case round =>
    obtain ⟨j, hj, rfl, bw, hpre⟩ := hrel
    by_cases hlt : j < n
    · obtain ⟨g, o, x, rfl, hg, hx, hc⟩ := Rd.at1 (Rd.below h.out bw) hlt
      have HX := Lib.hid hx
      have HM := Lib.hid (List.mem_of_getElem? hx)
      clear hx
      go_wp2_with fail
      go_at_call 15
      refine (hf.out _ bw x HM.out).mono ?_
      rintro e w1 ⟨rfl, hb1⟩
      have bw1 : Below w.heap.size w w1 := bel_step bw hb1 (Nat.le_refl _)
      clear hb1
      rcases hs : p x with _ | _
      · have hp2 : Hid ((l.take (j + 1)).any p = false) := Lib.hid (by
          rw [List.take_add_one, List.any_append, hpre.out, HX.out, Bool.false_or]; simpa using hs)
        clear hs
        go_wp2_with fail
        go_roundw
        case rel => exact ⟨j + 1, by omega, by go_num, bw1, hp2⟩
        case measure => simp [intOf]; omega
      · have R : Hid (l.any p = true) := Lib.hid (List.any_eq_true.2 ⟨x, HM.out, hs⟩)
        clear hs
        go_wp2_with fail
        go_ret
        exact Ix.t R.out rfl (by omega) bw1
    · obtain rfl : j = n := by omega
      have R : Hid (l.any p = false) := Lib.hid (by
        have h1 := hpre.out
        rwa [List.take_of_length_le (by have := h.out.len; rw [List.length_map] at this; omega)] at h1)
      go_wp2_with fail
      go_ret
      exact Ix.f R.out rfl bw
theorem raws_any {α : Type} (val : α → Value) (p : α → Bool) {A : Option Addr} {n c : Nat} {l : List α}  (w : World) (h : Hid (Rd w 1 A n c (l.map val)))
    (hf : Hid (∀ U, Below w.heap.size w U → ∀ x ∈ l, Calls Tryd.prog 15 #[val x] U fun e w' => e = .returned (.bool (p x)) ∧ Below U.heap.size U w')) :
    Calls Tryd.prog 14 #[.slice A n c, .func (.func 15) #[] #[]] w fun e w' => e = .returned (.bool (l.any p)) ∧ Below w.heap.size w w' := by
  go_enter Tryd.func14, Tryd.ntmps14
  go_wp2_with fail
  go_at_call 44
  refine (raws_any_ix val p _ h hf).mono ?_
  rintro e w1 ⟨i, rfl, i1, i2, hb1⟩
  rcases hs : l.any p with _ | _
  · have hi : i = -1 := i2 hs
    subst hi
    have HS := Lib.hid hs
    clear hs i1 i2
    go_wp2_with fail
    go_ret
    exact ⟨ret_bool (by rw [HS.out]), hb1⟩
  · have hi : 0 ≤ i := i1 hs
    have HS := Lib.hid hs
    clear hs i1 i2
    go_wp2_with fail
    go_ret
    exact ⟨ret_bool (by rw [HS.out]), hb1⟩
theorem raw1_any {x : PV} (U : World) : Calls Tryd.prog 15 #[x.v] U fun e w' => e = .returned (.bool (decide (1000 < x.d.length))) ∧ Below U.heap.size U w' := by
  obtain ⟨X, c, d⟩ := x
  obtain ⟨k, hk⟩ : ∃ k, d.length = k := ⟨_, rfl⟩
  show Calls Tryd.prog 15 #[.slice X d.length c] U fun e w' => e = .returned (.bool (decide (1000 < d.length))) ∧ Below U.heap.size U w'
  rw [hk]
  obtain ⟨b, hb⟩ : ∃ b, decide (1000 < k) = b := ⟨_, rfl⟩
  have e1 : decide ((k : Int) > 1000) = b := by
    rw [← hb]; exact decide_eq_decide.2 (by omega)
  have HB := Lib.hid hb
  clear hb hk
  go_enter Tryd.func15, Tryd.ntmps15
  go_wp2_with fail
  go_ret
  exact ⟨ret_bool (by rw [HB.out]), Below.refl _ _⟩
set_option maxRecDepth 20000 in
set_option maxHeartbeats 3200000 in
theorem PageRaw_walk {f : FV} {PA FA : Option Addr} {n pc m fc : Nat} {r0 : Int} (hcs : CsOf f PA n pc r0 FA m fc) (K : Option Addr) (kn kc : Nat) (key : List UInt8) (root : Int) (w : World) (G : Hid (Gl w)) (HF : Hid (Fl w f)) (hk : Hid (Rd w 1 K kn kc (bv key))) (_ : -9223372036854775808 ≤ root) (_ : root ≤ 9223372036854775807) :
    Calls Tryd.prog 4 #[.agg #[.slice PA n pc, .int .i64 r0, .slice FA m fc], .slice K kn kc, .int .i64 root] w fun e w' => e = .returned (.bool true) ∧ Below w.heap.size w w' := by
  obtain ⟨h1, h2, h3, h4, h5, h6, h7⟩ := cs_root hcs
  have HP : Hid (Pr w PA n pc f.ps) := Lib.hid (by have := HF.out.pg; rw [← h2, ← h4, ← h5] at this; exact this)
  clear h1 h2 h3 h4 h5 h6 h7
  have LK : Hid (lenB kn 0 = true ↔ lenK key) := Lib.hid (lenB_key (by have := hk.out.len; rw [bv_len] at this; omega))
  have bw := Below.refl w.heap.size w
  obtain ⟨p, hp⟩ : ∃ p, w.heap.size = p := ⟨_, rfl⟩
  obtain ⟨W0, hW0⟩ : ∃ W0, w.alloc (.cells #[.slice PA n pc, .int .i64 r0, .slice FA m fc] 30) = W0 := ⟨_, rfl⟩
  have b0 : Below w.heap.size w W0 := hW0 ▸ bal _ _
  have X : Hid (Bx W0 p [.slice PA n pc, .int .i64 r0, .slice FA m fc]) := hW0 ▸ Lib.hid (Bx.put _ hp #[.slice PA n pc, .int .i64 r0, .slice FA m fc] 30)
  have TX : Hid (Ty W0 p 30) := hW0 ▸ hp ▸ Lib.hid (Ty.new _ _ _)
  have HW0 := Lib.hid hW0
  clear hW0
  replace bw := bw.trans (b0.mono bw.size)
  replace G := Lib.hid (G.out.nx b0)
  replace HF := Lib.hid (HF.out.nx b0)
  replace HP := Lib.hid (HP.out.nx b0)
  replace hk := Lib.hid (hk.out.nx b0)
  go_enter Tryd.func4, Tryd.ntmps4
  go_wp2_with fail
  rw [HW0.out]
  go_at_call 11
  refine (awake_any W0 G).mono ?_
  rintro e w1 ⟨rfl, b1⟩
  replace bw := bw.trans (b1.mono bw.size)
  replace G := Lib.hid (G.out.nx b1)
  replace HF := Lib.hid (HF.out.nx b1)
  replace HP := Lib.hid (HP.out.nx b1)
  replace hk := Lib.hid (hk.out.nx b1)
  replace X := Lib.hid (X.out.nx b1)
  have z0 := X.out.at_ 0 (by simp)
  have z1 := X.out.at_ 1 (by simp)
  have z2 := X.out.at_ 2 (by simp)
  simp only [List.getElem?_cons_succ, List.getElem?_cons_zero] at z0 z1 z2
  by_cases c1 : 20 < n
  · have d1 : decide ((n : Int) > 20) = true := decide_eq_true (by omega)
    go_wp2_with fail
    go_at_call 11
    refine (awake_any w1 G).mono ?_
    rintro e w2 ⟨rfl, b2⟩
    go_wp2_with fail
    go_ret
    exact ⟨rfl, bw.trans (b2.mono bw.size)⟩
  have d1 : decide ((n : Int) > 20) = false := decide_eq_false (by omega)
  by_cases c2 : 40 < m
  · have d2 : decide ((m : Int) > 40) = true := decide_eq_true (by omega)
    go_wp2_with fail
    go_at_call 11
    refine (awake_any w1 G).mono ?_
    rintro e w2 ⟨rfl, b2⟩
    go_wp2_with fail
    go_ret
    exact ⟨rfl, bw.trans (b2.mono bw.size)⟩
  have d2 : decide ((m : Int) > 40) = false := decide_eq_false (by omega)
  by_cases c3 : 200 < kn
  · have d3 : decide ((kn : Int) > 200) = true := decide_eq_true (by omega)
    go_wp2_with fail
    go_at_call 11
    refine (awake_any w1 G).mono ?_
    rintro e w2 ⟨rfl, b2⟩
    go_wp2_with fail
    go_ret
    exact ⟨rfl, bw.trans (b2.mono bw.size)⟩
  have d3 : decide ((kn : Int) > 200) = false := decide_eq_false (by omega)
  go_wp2_with fail
  go_at_call 14
  refine (raws_any PV.v (fun x => decide (1000 < x.d.length)) w1 (Lib.hid HP.out.row) (Lib.hid fun U _ x _ => raw1_any U)).mono ?_
  rintro e w2 ⟨rfl, b2⟩
  obtain ⟨q, hq⟩ : ∃ q, (f.ps.any fun x => decide (1000 < x.d.length)) = q := ⟨_, rfl⟩
  rw [hq]
  clear hq z0 z1 z2
  replace bw := bw.trans (b2.mono bw.size)
  replace G := Lib.hid (G.out.nx b2)
  replace HF := Lib.hid (HF.out.nx b2)
  replace HP := Lib.hid (HP.out.nx b2)
  replace hk := Lib.hid (hk.out.nx b2)
  replace X := Lib.hid (X.out.nx b2)
  rcases q with _ | _
  case true =>
    go_wp2_with fail
    go_at_call 11
    refine (awake_any w2 G).mono ?_
    rintro e w3 ⟨rfl, b3⟩
    go_wp2_with fail
    go_ret
    exact ⟨rfl, bw.trans (b3.mono bw.size)⟩
  have z0 := X.out.at_ 0 (by simp)
  have z1 := X.out.at_ 1 (by simp)
  have z2 := X.out.at_ 2 (by simp)
  simp only [List.getElem?_cons_succ, List.getElem?_cons_zero] at z0 z1 z2
  go_wp2_with fail
  go_at_call 16
  refine (Valid_cs hcs _ G HF).mono ?_
  rintro e w3 ⟨ok, rfl, hok, b3⟩
  have OK := Lib.hid hok
  clear hok z0 z1 z2
  replace bw := bw.trans (b3.mono bw.size)
  replace G := Lib.hid (G.out.nx b3)
  replace HF := Lib.hid (HF.out.nx b3)
  replace hk := Lib.hid (hk.out.nx b3)
  replace X := Lib.hid (X.out.nx b3)
  have z0 := X.out.at_ 0 (by simp)
  have z1 := X.out.at_ 1 (by simp)
  have z2 := X.out.at_ 2 (by simp)
  simp only [List.getElem?_cons_succ, List.getElem?_cons_zero] at z0 z1 z2
  go_wp2_with fail
  go_at_call 17
  refine (Check_cs hcs _ G HF).mono ?_
  rintro e w4 ⟨k4, e4, hq, rfl, b4⟩
  have P4 := Lib.hid (raw_chk hq)
  clear hq z0 z1 z2
  replace bw := bw.trans (b4.mono bw.size)
  replace G := Lib.hid (G.out.nx b4)
  replace HF := Lib.hid (HF.out.nx b4)
  replace hk := Lib.hid (hk.out.nx b4)
  replace X := Lib.hid (X.out.nx b4)
  have z0 := X.out.at_ 0 (by simp)
  have z1 := X.out.at_ 1 (by simp)
  have z2 := X.out.at_ 2 (by simp)
  simp only [List.getElem?_cons_succ, List.getElem?_cons_zero] at z0 z1 z2
  go_wp2_with fail
  go_at_call 18
  refine (Get_cs hcs _ G HF hk).mono ?_
  rintro e w5 ⟨d5, e5, A5, c5, hq, rfl, _, b5⟩
  have P5 := Lib.hid (raw_get hq)
  obtain ⟨k5, hk5⟩ : ∃ k5, d5.length = k5 := ⟨_, rfl⟩
  rw [hk5]
  clear hq hk5 z0 z1 z2
  replace bw := bw.trans (b5.mono bw.size)
  replace G := Lib.hid (G.out.nx b5)
  replace HF := Lib.hid (HF.out.nx b5)
  replace hk := Lib.hid (hk.out.nx b5)
  replace X := Lib.hid (X.out.nx b5)
  have z0 := X.out.at_ 0 (by simp)
  have z1 := X.out.at_ 1 (by simp)
  have z2 := X.out.at_ 2 (by simp)
  simp only [List.getElem?_cons_succ, List.getElem?_cons_zero] at z0 z1 z2
  go_wp2_with fail
  go_at_call 19
  refine (Put_cs (value := []) hcs _ G HF hk (Lib.hid (Rd.nil_ _ _))).mono ?_
  rintro e w6 ⟨f6, e6, hq, rfl, _, b6⟩
  have P6 := Lib.hid (raw_put hq)
  obtain ⟨PA6, n6, pc6, r6, FA6, m6, fc6, V6⟩ := fv_of f6
  rw [V6.out.val]
  clear hq z0 z1 z2
  replace bw := bw.trans (b6.mono bw.size)
  replace G := Lib.hid (G.out.nx b6)
  replace HF := Lib.hid (HF.out.nx b6)
  replace hk := Lib.hid (hk.out.nx b6)
  replace X := Lib.hid (X.out.nx b6)
  obtain ⟨p6, hp6⟩ : ∃ p6, w6.heap.size = p6 := ⟨_, rfl⟩
  obtain ⟨W6, hW6⟩ : ∃ W6, w6.alloc (.cells #[.slice PA6 n6 pc6, .int .i64 r6, .slice FA6 m6 fc6] 30) = W6 := ⟨_, rfl⟩
  have b6' : Below w6.heap.size w6 W6 := hW6 ▸ bal _ _
  have Y6 : Hid (Bx W6 p6 [.slice PA6 n6 pc6, .int .i64 r6, .slice FA6 m6 fc6]) := hW6 ▸ Lib.hid (Bx.put _ hp6 #[.slice PA6 n6 pc6, .int .i64 r6, .slice FA6 m6 fc6] 30)
  have TY6 : Hid (Ty W6 p6 30) := hW6 ▸ hp6 ▸ Lib.hid (Ty.new _ _ _)
  have HW6 := Lib.hid hW6
  clear hW6
  replace bw := bw.trans (b6'.mono bw.size)
  replace G := Lib.hid (G.out.nx b6')
  replace HF := Lib.hid (HF.out.nx b6')
  replace hk := Lib.hid (hk.out.nx b6')
  replace X := Lib.hid (X.out.nx b6')
  have z0 := X.out.at_ 0 (by simp)
  have z1 := X.out.at_ 1 (by simp)
  have z2 := X.out.at_ 2 (by simp)
  simp only [List.getElem?_cons_succ, List.getElem?_cons_zero] at z0 z1 z2
  go_upto_region 7 with fail
  rw [HW6.out]
  go_wp2_with fail
  go_at_call 20
  refine (Delete_cs hcs _ G HF hk).mono ?_
  rintro e w7 ⟨f7, e7, hq, rfl, _, b7⟩
  have P7 := Lib.hid (raw_del hq)
  obtain ⟨PA7, n7, pc7, r7, FA7, m7, fc7, V7⟩ := fv_of f7
  rw [V7.out.val]
  clear hq z0 z1 z2
  replace bw := bw.trans (b7.mono bw.size)
  replace G := Lib.hid (G.out.nx b7)
  replace HF := Lib.hid (HF.out.nx b7)
  replace hk := Lib.hid (hk.out.nx b7)
  replace X := Lib.hid (X.out.nx b7)
  obtain ⟨p7, hp7⟩ : ∃ p7, w7.heap.size = p7 := ⟨_, rfl⟩
  obtain ⟨W7, hW7⟩ : ∃ W7, w7.alloc (.cells #[.slice PA7 n7 pc7, .int .i64 r7, .slice FA7 m7 fc7] 30) = W7 := ⟨_, rfl⟩
  have b7' : Below w7.heap.size w7 W7 := hW7 ▸ bal _ _
  have Y7 : Hid (Bx W7 p7 [.slice PA7 n7 pc7, .int .i64 r7, .slice FA7 m7 fc7]) := hW7 ▸ Lib.hid (Bx.put _ hp7 #[.slice PA7 n7 pc7, .int .i64 r7, .slice FA7 m7 fc7] 30)
  have TY7 : Hid (Ty W7 p7 30) := hW7 ▸ hp7 ▸ Lib.hid (Ty.new _ _ _)
  have HW7 := Lib.hid hW7
  clear hW7
  replace bw := bw.trans (b7'.mono bw.size)
  replace G := Lib.hid (G.out.nx b7')
  replace HF := Lib.hid (HF.out.nx b7')
  replace hk := Lib.hid (hk.out.nx b7')
  replace X := Lib.hid (X.out.nx b7')
  have z0 := X.out.at_ 0 (by simp)
  have z1 := X.out.at_ 1 (by simp)
  have z2 := X.out.at_ 2 (by simp)
  simp only [List.getElem?_cons_succ, List.getElem?_cons_zero] at z0 z1 z2
  go_upto_region 8 with fail
  rw [HW7.out]
  go_wp2_with fail
  go_at_call 21
  refine (Range_cs hcs _ G HF (Lib.hid (Rd.nil_ _ _)) (Lib.hid (Rd.nil_ _ _)) (ka := []) (kb := [])).mono ?_
  rintro e w8 ⟨es8, e8, L8, A8, n8, c8, hq, _, rfl, _, b8⟩
  have P8 := Lib.hid (raw_rng hq)
  clear hq z0 z1 z2
  replace bw := bw.trans (b8.mono bw.size)
  replace G := Lib.hid (G.out.nx b8)
  replace HF := Lib.hid (HF.out.nx b8)
  replace hk := Lib.hid (hk.out.nx b8)
  replace X := Lib.hid (X.out.nx b8)
  have z0 := X.out.at_ 0 (by simp)
  have z1 := X.out.at_ 1 (by simp)
  have z2 := X.out.at_ 2 (by simp)
  simp only [List.getElem?_cons_succ, List.getElem?_cons_zero] at z0 z1 z2
  go_wp2_with fail
  go_at_call 22
  refine (Old_cs hcs root _ G HF hk).mono ?_
  rintro e w9 ⟨d9, e9, A9, c9, _, rfl, _, b9⟩
  obtain ⟨k9, hk9⟩ : ∃ k9, d9.length = k9 := ⟨_, rfl⟩
  rw [hk9]
  clear hk9 z0 z1 z2
  replace bw := bw.trans (b9.mono bw.size)
  replace G := Lib.hid (G.out.nx b9)
  replace HF := Lib.hid (HF.out.nx b9)
  replace hk := Lib.hid (hk.out.nx b9)
  replace X := Lib.hid (X.out.nx b9)
  have z0 := X.out.at_ 0 (by simp)
  have z1 := X.out.at_ 1 (by simp)
  have z2 := X.out.at_ 2 (by simp)
  simp only [List.getElem?_cons_succ, List.getElem?_cons_zero] at z0 z1 z2
  by_cases hokt : ok = true
  · subst hokt
    have VL := Lib.hid (OK.out.1 rfl)
    obtain rfl : e4 = 0 := P4.out.1 VL.out
    go_wp2_with fail
    go_at_call 23
    refine (rShape_ok hcs _ HF (Lib.hid VL.out.1)).mono ?_
    rintro e wa ⟨rfl, ba⟩
    clear z0 z1 z2
    replace bw := bw.trans (ba.mono bw.size)
    replace G := Lib.hid (G.out.nx ba)
    replace HF := Lib.hid (HF.out.nx ba)
    replace hk := Lib.hid (hk.out.nx ba)
    replace X := Lib.hid (X.out.nx ba)
    go_wp2_with fail
    go_at_call 24
    refine (rLengths_any _).mono ?_
    rintro e w' ⟨rfl, rfl⟩
    by_cases q1 : lenB kn 0 = true
    · rw [q1]
      clear q1
      go_wp2_with fail
      go_ret
      exact ⟨rfl, bw⟩
    · have NK : ¬ lenK key := fun h => q1 (LK.out.2 h)
      rw [show lenB kn 0 = false by simpa using q1]
      obtain rfl : e5 = 1 := P5.out.1 NK
      obtain rfl : e6 = 1 := P6.out.1 NK
      obtain rfl : e7 = 1 := P7.out.1 NK
      clear q1 NK
      go_wp2_with fail
      go_ret
      exact ⟨rfl, bw⟩
  · have NV : ¬ Vld f.f := fun h => hokt (OK.out.2 h)
    obtain rfl : ok = false := by simpa using hokt
    obtain ⟨rfl, rfl⟩ := P4.out.2 NV
    obtain rfl : e8 = 16 := P8.out NV
    have NVh := Lib.hid NV
    clear NV hokt
    go_wp2_with fail
    go_at_call 24
    refine (rLengths_any _).mono ?_
    rintro e w' ⟨rfl, rfl⟩
    by_cases q1 : lenB kn 0 = true
    · have HK := LK.out.1 q1
      rw [q1]
      obtain rfl : e5 = 16 := P5.out.2 HK NVh.out
      obtain rfl : e6 = 16 := P6.out.2 HK NVh.out
      obtain rfl : e7 = 16 := P7.out.2 HK NVh.out
      clear q1 HK
      go_wp2_with fail
      go_ret
      exact ⟨rfl, bw⟩
    · have NK : ¬ lenK key := fun h => q1 (LK.out.2 h)
      rw [show lenB kn 0 = false by simpa using q1]
      obtain rfl : e5 = 1 := P5.out.1 NK
      obtain rfl : e6 = 1 := P6.out.1 NK
      obtain rfl : e7 = 1 := P7.out.1 NK
      clear q1 NK
      go_wp2_with fail
      go_ret
      exact ⟨rfl, bw⟩
end Go.Proofs.YtphiblmkgbkdmaaDoor.Pg
