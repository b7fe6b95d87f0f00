/- PageReclaims. -/
import Derived.Test.YtphiblmkgbkdmaaDoorPgS1
import Derived.Test.YtphiblmkgbkdmaaDoorPgRl
import Derived.Deep.RegionWith
namespace Go.Proofs.YtphiblmkgbkdmaaDoor.Pg
set_option linter.unusedVariables false
set_option linter.unusedSimpArgs false
open Go.RowKit Wl

theorem rng_nr (es : List It) : rng es [] [] = es := by
  unfold rng
  refine List.filter_eq_self.2 fun x _ => ?_
  unfold inR
  have : 0 ≤ cmpB x.k [] := by
    cases x.k with
    | nil => rw [cmpB_nil]; omega
    | cons a l => rw [cmpB_cn]; omega
  rw [decide_eq_true this]; rfl
theorem fd_ar {es : List It} (hs : Srt es) {key : List UInt8} (h : fd es key = true) : ∃ y, es[ix es key]? = some y ∧ lkp es key = some y.v := by
  obtain ⟨y, h1, h2⟩ := (plc_ix hs key).fd.1 h
  exact ⟨y, h1, lkp_some hs h1 h2⟩
theorem ls_nil (w : World) {base : Nat} (hb : base ≤ w.heap.size) : Ls (w.alloc (.cells #[] 73)) base (some ⟨w.heap.size, 0, none⟩) 0 0 [] :=
  ⟨⟨[], ⟨⟨rfl, by omega, fun e => (by cases e), by omega, fun h => by omega⟩, by simp⟩, rfl, by simp⟩, fun g e => by
    simp [blk] at e
    subst e
    exact Ty.new w #[] _⟩
theorem int_one {w : World} {r : Int} : Rd (w.alloc (.cells #[.int .i64 r] 3)) 1 (some ⟨w.heap.size, 0, none⟩) 1 1 (iv [r]) := Rd.lit w _ 1 #[.int .i64 r] 1 (by omega) rfl
theorem recls_any_ix {α : Type} (val : α → Value) (p : α → Bool) {A : Option Addr} {n c : Nat} {l : List α} {P : Addr} (w : World) (h : Hid (Rd w 1 A n c (l.map val)))
    (hf : Hid (∀ U, Below w.heap.size w U → ∀ x ∈ l, Calls Tryd.prog 42 #[val x, .pointer (some P)] U fun e w' => e = .returned (.bool (p x)) ∧ Below U.heap.size U w')) :
    Calls Tryd.prog 59 #[.slice A n c, .func (.func 42) #[] #[.pointer (some P)]] w (Ix w (l.any p)) := by
  have hnc := h.out.nc
  have hc63 := h.out.c63
  go_enter Tryd.func59, Tryd.ntmps59
  go_wp2_with fail
  go_loopw [8] (fun i wr => ∃ j : Nat, j ≤ n ∧ i = .int .i64 j ∧ Below w.heap.size w wr ∧ Hid ((l.take j).any p = false)) (fun i _ => (n - intOf i).toNat)
  case atStart => exact ⟨0, by omega, rfl, Below.refl _ _, Lib.hid rfl⟩
  case round =>
    obtain ⟨j, hj, rfl, bw, hpre⟩ := hrel
    by_cases hlt : j < n
    · obtain ⟨g, o, x, rfl, hg, hx, hc⟩ := Rd.at1 (Rd.below h.out bw) hlt
      have HX := Lib.hid hx
      have HM := Lib.hid (List.mem_of_getElem? hx)
      clear hx
      go_wp2_with fail
      go_at_call 42
      refine (hf.out _ bw x HM.out).mono ?_
      rintro e w1 ⟨rfl, hb1⟩
      have bw1 : Below w.heap.size w w1 := bel_step bw hb1 (Nat.le_refl _)
      clear hb1
      rcases hs : p x with _ | _
      · have hp2 : Hid ((l.take (j + 1)).any p = false) := Lib.hid (by
          rw [List.take_add_one, List.any_append, hpre.out, HX.out, Bool.false_or]; simpa using hs)
        clear hs
        go_wp2_with fail
        go_roundw
        case rel => exact ⟨j + 1, by omega, by go_num, bw1, hp2⟩
        case measure => simp [intOf]; omega
      · have R : Hid (l.any p = true) := Lib.hid (List.any_eq_true.2 ⟨x, HM.out, hs⟩)
        clear hs
        go_wp2_with fail
        go_ret
        exact Ix.t R.out rfl (by omega) bw1
    · obtain rfl : j = n := by omega
      have R : Hid (l.any p = false) := Lib.hid (by
        have h1 := hpre.out
        rwa [List.take_of_length_le (by have := h.out.len; rw [List.length_map] at this; omega)] at h1)
      go_wp2_with fail
      go_ret
      exact Ix.f R.out rfl bw
theorem recls_any {α : Type} (val : α → Value) (p : α → Bool) {A : Option Addr} {n c : Nat} {l : List α} {P : Addr} (w : World) (h : Hid (Rd w 1 A n c (l.map val)))
    (hf : Hid (∀ U, Below w.heap.size w U → ∀ x ∈ l, Calls Tryd.prog 42 #[val x, .pointer (some P)] U fun e w' => e = .returned (.bool (p x)) ∧ Below U.heap.size U w')) :
    Calls Tryd.prog 30 #[.slice A n c, .func (.func 42) #[] #[.pointer (some P)]] w fun e w' => e = .returned (.bool (l.any p)) ∧ Below w.heap.size w w' := by
  go_enter Tryd.func30, Tryd.ntmps30
  go_wp2_with fail
  go_at_call 59
  refine (recls_any_ix val p _ h hf).mono ?_
  rintro e w1 ⟨i, rfl, i1, i2, hb1⟩
  rcases hs : l.any p with _ | _
  · have hi : i = -1 := i2 hs
    subst hi
    have HS := Lib.hid hs
    clear hs i1 i2
    go_wp2_with fail
    go_ret
    exact ⟨ret_bool (by rw [HS.out]), hb1⟩
  · have hi : 0 ≤ i := i1 hs
    have HS := Lib.hid hs
    clear hs i1 i2
    go_wp2_with fail
    go_ret
    exact ⟨ret_bool (by rw [HS.out]), hb1⟩
theorem sIndex_any {A : Option Addr} {n c : Nat} {l : List Int} (x : Int) (w : World) (h : Hid (Rd w 1 A n c (iv l))) :
    Calls Tryd.prog 43 #[.slice A n c, .int .i64 x] w fun e w' => e = .returned (.bool (decide (x ∈ l))) ∧ Below w.heap.size w w' := by
  have NL : Hid (n = l.length) := Lib.hid (by have := h.out.len; rw [iv_len] at this; omega)
  have hnc := h.out.nc
  have hc63 := h.out.c63
  have IX : Calls Tryd.prog 65 #[.slice A n c, .int .i64 x] w (Ix w (decide (x ∈ l))) := by
    go_enter Tryd.func65, Tryd.ntmps65
    go_wp2_with fail
    go_loopw [8] (fun i wr => ∃ j : Nat, j ≤ n ∧ i = .int .i64 j ∧ w = wr ∧ Hid (x ∉ l.take j)) (fun i _ => (n - intOf i).toNat)
    case atStart => exact ⟨0, by omega, rfl, rfl, Lib.hid (by simp)⟩
    case round =>
      obtain ⟨j, hj, rfl, rfl, hpre⟩ := hrel
      by_cases hlt : j < n
      · obtain ⟨g, o, y, rfl, hg, hy, hc⟩ := Rd.at1 h.out hlt
        have d1 : decide ((j : Int) < (n : Int)) = true := decide_eq_true (by omega)
        have HY := Lib.hid hy
        clear hy
        by_cases e : x = y
        · subst e
          have R : Hid (decide (x ∈ l) = true) := Lib.hid (decide_eq_true (List.mem_of_getElem? HY.out))
          go_wp2_with fail
          go_ret
          exact Ix.t R.out rfl (by omega) (Below.refl _ _)
        · have e1 : decide (x = y) = false := decide_eq_false e
          have e2 : (x == y) = false := by simpa using e
          have R : Hid (x ∉ l.take (j + 1)) := Lib.hid (by rw [List.take_add_one, HY.out]; simp; exact ⟨hpre.out, e⟩)
          clear e
          go_wp2_with fail
          go_roundw
          case rel => exact ⟨j + 1, by omega, by first | trivial | go_num, by first | trivial | rfl, R⟩
          case measure => simp [intOf]; omega
      · obtain rfl : j = n := by omega
        have d1 : decide ((j : Int) < (j : Int)) = false := decide_eq_false (by omega)
        have R : Hid (decide (x ∈ l) = false) := Lib.hid (decide_eq_false (by have := hpre.out; rwa [List.take_of_length_le (by have := NL.out; omega)] at this))
        go_wp2_with fail
        go_ret
        exact Ix.f R.out rfl (Below.refl _ _)
  have IX := Lib.hid IX
  go_enter Tryd.func43, Tryd.ntmps43
  go_wp2_with fail
  go_at_call 65
  refine IX.out.mono ?_
  rintro e w1 ⟨i, rfl, i1, i2, hb1⟩
  rcases hs : decide (x ∈ l) with _ | _
  · have hi : i = -1 := i2 hs
    subst hi
    have HS := Lib.hid hs
    clear i1 i2 hs
    go_wp2_with fail
    go_ret
    exact ⟨ret_bool HS.out.symm, hb1⟩
  · have hi : 0 ≤ i := i1 hs
    have HS := Lib.hid hs
    clear i1 i2 hs
    go_wp2_with fail
    go_ret
    exact ⟨ret_bool HS.out.symm, hb1⟩
theorem recls1_any {f : FV} {PA FA : Option Addr} {n pc m fc p : Nat} {r : Int} (hcs : CsOf f PA n pc r FA m fc) (x : Int) (U : World) (HF : Hid (Fl U f)) (X : Hid (Bx U p [.slice PA n pc, .int .i64 r, .slice FA m fc])) :
    Calls Tryd.prog 42 #[.int .i64 x, .pointer (some ⟨p, 0, none⟩)] U fun e w' => e = .returned (.bool (!decide (x ∈ f.f.free))) ∧ Below U.heap.size U w' := by
  obtain ⟨h1, h2, h3, h4, h5, h6, h7⟩ := cs_root hcs
  have hf : Hid (Rd U 1 FA m fc (iv f.free)) := Lib.hid (by have := HF.out.fr; rw [← h3, ← h6, ← h7] at this; exact this)
  have IX := sIndex_any x U hf
  obtain ⟨b, hb⟩ : ∃ b, decide (x ∈ f.free) = b := ⟨_, rfl⟩
  show Calls Tryd.prog 42 #[.int .i64 x, .pointer (some ⟨p, 0, none⟩)] U fun e w' => e = .returned (.bool (!decide (x ∈ f.free))) ∧ Below U.heap.size U w'
  rw [hb] at IX ⊢
  have IX := Lib.hid IX
  clear h1 h2 h3 h4 h5 h6 h7 hb
  have z0 := X.out.at_ 0 (by simp)
  have z1 := X.out.at_ 1 (by simp)
  have z2 := X.out.at_ 2 (by simp)
  simp only [List.getElem?_cons_succ, List.getElem?_cons_zero] at z0 z1 z2
  go_enter Tryd.func42, Tryd.ntmps42
  go_wp2_with fail
  go_at_call 43
  refine IX.out.mono ?_
  rintro e w1 ⟨rfl, b1⟩
  go_wp2_with fail
  go_ret
  exact ⟨by first | done | rfl, b1⟩
set_option maxRecDepth 20000 in
set_option maxHeartbeats 12800000 in
theorem PageReclaims_walk (A : Option Addr) (N c : Nat) (l : List OV) (at_ : Int) (KY : Option Addr) (ky kyc : Nat) (kys : List PV) (w : World) (G : Hid (Gl w)) (h : Hid (Or w A N c l)) (a1 : 0 ≤ at_) (a2 : at_ ≤ 255) (hY : Hid (Pr w KY ky kyc kys)) :
    Calls Tryd.prog 10 #[.slice A N c, .int .u8 at_, .slice KY ky kyc] w fun e w' => e = .returned (.bool true) ∧ Below w.heap.size w w' := by
  have NL := Lib.hid h.out.len
  obtain ⟨a, rfl⟩ : ∃ a : Nat, at_ = (a : Int) := ⟨at_.toNat, by omega⟩
  go_enter Tryd.func10, Tryd.ntmps10
  go_wp2_with fail
  go_at_call 11
  refine (awake_any w G).mono ?_
  rintro e w1 ⟨rfl, b1⟩
  go_wp2_with fail
  go_at_call 25
  refine (few_any w1 (Lib.hid (h.out.below b1))).mono ?_
  rintro e w2 ⟨rfl, b2⟩
  have bw2 := b1.trans (b2.mono b1.size)
  rcases hf : fewB l with _ | _
  case false =>
    go_wp2_with fail
    go_at_call 11
    refine (awake_any w2 (Lib.hid (G.out.below bw2))).mono ?_
    rintro e w3 ⟨rfl, b3⟩
    go_wp2_with fail
    go_ret
    exact ⟨rfl, bw2.trans (b3.mono bw2.size)⟩
  have n60 : N ≤ 60 := by have := (few_true hf).1; have := NL.out; omega
  clear hf
  have hN := h.out.row.nc
  have hN2 := h.out.row.c63
  by_cases qy : 20 < ky
  · have e1 : decide ((ky : Int) > 20) = true := decide_eq_true (by omega)
    go_wp2_with fail
    go_at_call 11
    refine (awake_any w2 (Lib.hid (G.out.below bw2))).mono ?_
    rintro e w3 ⟨rfl, b3⟩
    go_wp2_with fail
    go_ret
    exact ⟨rfl, bw2.trans (b3.mono bw2.size)⟩
  have e1 : decide ((ky : Int) > 20) = false := decide_eq_false (by omega)
  clear qy
  go_wp2_with fail
  go_at_call 26
  refine (New_any w2).mono ?_
  rintro e w3 ⟨rfl, b3⟩
  have bw3 := bw2.trans (b3.mono bw2.size)
  obtain ⟨W4, hW4⟩ : ∃ W4, (w3.alloc (.cells #[] 73)).alloc (.cells #[.slice none 0 0, .int .i64 (-1), .slice none 0 0] 30) = W4 := ⟨_, rfl⟩
  have S0 := Lib.hid (hW4 ▸ st_new bw3)
  have HW4 := Lib.hid hW4
  obtain ⟨p, hp⟩ : ∃ p, w3.heap.size + 1 = p := ⟨_, rfl⟩
  obtain ⟨g0, hg0⟩ : ∃ g0, w3.heap.size = g0 := ⟨_, rfl⟩
  rw [hp, hg0] at S0
  obtain ⟨W5, hW5⟩ : ∃ W5, W4.alloc (.cells #[] 73) = W5 := ⟨_, rfl⟩
  obtain ⟨g1, hg1⟩ : ∃ g1, W4.heap.size = g1 := ⟨_, rfl⟩
  have b45 : Below W4.heap.size W4 W5 := hW5 ▸ bal _ _
  have L5 : Hid (Ls W5 w.heap.size (some ⟨g1, 0, none⟩) 0 0 []) := hW5 ▸ hg1 ▸ Lib.hid (ls_nil W4 S0.out.bw.size)
  have S5 := Lib.hid (S0.out.nx b45)
  have HW5 := Lib.hid hW5
  clear hW4 hW5 e1
  go_upto_region 4 with fail
  rw [HW4.out]
  try simp only [hg0, hg0 ▸ hp]
  go_upto_region 5 with fail
  rw [HW5.out]
  try simp only [hg1]
  go_wp2_with fail
  go_loopw [8, 9, 10, 46] (fun lv rv ov zv wr => ∃ (j jj : Nat) (f : FV) (PA FA : Option Addr) (n pc m fc : Nat) (r : Int) (g q ln lc : Nat) (es : List It) (root : Int) (ga qa lno lco : Nat) (eo : List It), j ≤ N ∧ jj ≤ j ∧ zv = .int .i64 j ∧ lv = .slice (some ⟨g, q, none⟩) ln lc ∧ rv = .int .i64 root ∧ ov = .slice (some ⟨ga, qa, none⟩) lno lco ∧ Hid (Sm w wr p f PA FA n pc m fc r g q ln lc es jj) ∧ Hid (Ls wr w.heap.size (some ⟨ga, qa, none⟩) lno lco eo) ∧ Hid (Oo f.f root eo)) (fun _ _ _ zv _ => (N - intOf zv).toNat)
  case atStart => exact ⟨0, 0, newV, none, none, 0, 0, 0, 0, -1, g0, 0, 0, 0, [], -1, g1, 0, 0, 0, [], by omega, by omega, rfl, rfl, rfl, rfl, S5, L5, Lib.hid (Oo.now sok_new (by omega))⟩
  case round =>
    obtain ⟨j, jj, f, PA, FA, n, pc, m, fc, r, g, q, ln, lc, es, root, ga, qa, lno, lco, eo, hj, hjj, rfl, rfl, rfl, rfl, S, LO, OO⟩ := hrel
    by_cases hlt : j < N
    · have d1 : decide ((j : Int) < (N : Int)) = true := decide_eq_true (by omega)
      -- one step of the script: from the state S at the head of the round (world wr) to the state S behind the stores (world W9)
      obtain ⟨go, oo, x, rfl, hgo, hx, c0, c1, c2⟩ := Or.item (h.out.below S.out.bw) hlt
      have XD := h.out.dat x (List.mem_of_getElem? hx)
      obtain ⟨kd, KA, kc, k, VA, vc, v⟩ := x
      dsimp only at c0 c1 c2 XD
      obtain ⟨kn, hkn⟩ : ∃ kn, k.length = kn := ⟨_, rfl⟩
      obtain ⟨vn, hvn⟩ : ∃ vn, v.length = vn := ⟨_, rfl⟩
      rw [hkn, hvn] at XD
      rw [hkn] at c1
      rw [hvn] at c2
      have KR := Lib.hid (XD.1.below S.out.bw)
      have VR := Lib.hid (XD.2.below S.out.bw)
      have KS : Hid (∀ g, 0 < kn → blk KA = some g → g < w.heap.size) := Lib.hid fun g h0 e => rd_lt XD.1 h0 e
      have VS : Hid (∀ g, 0 < vn → blk VA = some g → g < w.heap.size) := Lib.hid fun g h0 e => rd_lt XD.2 h0 e
      have HX := Lib.hid hx
      clear XD hx hkn hvn
      obtain ⟨po, hpo⟩ : ∃ po, wr.heap.size = po := ⟨_, rfl⟩
      obtain ⟨Wo, hWo⟩ : ∃ Wo, wr.alloc (.cells #[.int .i64 kd, .slice KA kn kc, .slice VA vn vc] 52) = Wo := ⟨_, rfl⟩
      have bo : Below wr.heap.size wr Wo := hWo ▸ bal _ _
      have XO : Hid (Bx Wo po [.int .i64 kd, .slice KA kn kc, .slice VA vn vc]) := hWo ▸ Lib.hid (Bx.put _ hpo #[.int .i64 kd, .slice KA kn kc, .slice VA vn vc] 52)
      have TXO : Hid (Ty Wo po 52) := hWo ▸ hpo ▸ Lib.hid (Ty.new _ _ _)
      have HWo := Lib.hid hWo
      clear hWo
      have S1 := Lib.hid (S.out.nx bo)
      have KR := Lib.hid (KR.out.nx bo)
      have VR := Lib.hid (VR.out.nx bo)
      have zb := S1.out.bx
      have z0 := zb.at_ 0 (by simp)
      have z1 := zb.at_ 1 (by simp)
      have z2 := zb.at_ 2 (by simp)
      simp only [List.getElem?_cons_succ, List.getElem?_cons_zero] at z0 z1 z2
      have o0 := XO.out.at_ 0 (by simp)
      have o1 := XO.out.at_ 1 (by simp)
      have o2 := XO.out.at_ 2 (by simp)
      simp only [List.getElem?_cons_succ, List.getElem?_cons_zero] at o0 o1 o2
      clear zb
      go_upto_region 8 with fail
      rw [HWo.out]
      have LO1 := Lib.hid (LO.out.nx bo)
      by_cases hkk : kd = 0 ∨ kd = 1
      · have HKK := Lib.hid hkk
        clear hkk
        have HKS := HKK.out
        obtain ⟨T, hT, hTN⟩ : ∃ T : Nat, ((a : Int) % (N : Int)) = (T : Int) ∧ T < N := ⟨a % N, by omega, Nat.mod_lt _ (by omega)⟩
        have HT := Lib.hid hT
        clear hT
        rcases HKS with rfl | rfl
        all_goals
          go_wp2_with fail
          go_at_call 27
          refine (next_cs (j := jj) (base := w.heap.size) (k := k) (v := v) S1.out.fv.cs Wo (Lib.hid (G.out.below S1.out.bw)) (Lib.hid S1.out.fl) (Lib.hid S1.out.ls) S1.out.bw.size KR VR (Lib.hid fun g h0 e => .inl (KS.out g h0 e)) (Lib.hid fun g h0 e => .inl (VS.out g h0 e)) (Lib.hid S1.out.ok) (by omega)).mono ?_
          rintro e w8 ⟨f', g', q', ln', lc', rfl, NX, F8, L8, b8⟩
          obtain ⟨PA', n', pc', r', FA', m', fc', V'⟩ := fv_of f'
          rw [V'.out.val]
          obtain ⟨W9, hW9⟩ : ∃ W9, (((w8.setCell ⟨p, 0, none⟩ (.slice PA' n' pc')).setCell ⟨p, 1, none⟩ (.int .i64 r')).setCell ⟨p, 2, none⟩ (.slice FA' m' fc')) = W9 := ⟨_, rfl⟩
          have S9 := Lib.hid (hW9 ▸ st_put S1.out b8 NX.out F8.out L8.out V'.out)
          have pb := S1.out.bx.nx b8
          have p0 := pb.at_ 0 (by simp)
          have p1 := pb.at_ 1 (by simp)
          have p2 := pb.at_ 2 (by simp)
          simp only [List.getElem?_cons_succ, List.getElem?_cons_zero] at p0 p1 p2
          have t0 := pb.fz 0 (by simp)
          have t1 := pb.fz 1 (by simp)
          have t2 := pb.fz 2 (by simp)
          have HW9 := Lib.hid hW9
          clear z0 z1 z2 o0 o1 o2 pb hW9
          go_upto_region 11 with fail
          rw [HW9.out]
          clear p0 p1 p2 t0 t1 t2
          have LO9 : Hid (Ls W9 w.heap.size (some ⟨ga, qa, none⟩) lno lco eo) := Lib.hid (by
            rw [← HW9.out]
            exact (LO1.out.nx b8).kp S1.out.lp (kp_res (Kp.refl _ _)) (S1.out.ty.nx b8))
          have STP := NX.out.stp (by first | exact .inl rfl | exact .inr rfl)
          have OO9 := Lib.hid (OO.out.step STP)
          have z0 := S9.out.bx.at_ 0 (by simp)
          have z1 := S9.out.bx.at_ 1 (by simp)
          have z2 := S9.out.bx.at_ 2 (by simp)
          simp only [List.getElem?_cons_succ, List.getElem?_cons_zero] at z0 z1 z2
          clear STP
          have dN : decide ((N : Int) = 0) = false := decide_eq_false (by omega)
          have hN0 : ¬ (N : Int) = 0 := by omega
          have hT := HT.out
          by_cases hjt : j = T
          · have e3 : decide ((j : Int) = (T : Int)) = true := decide_eq_true (by omega)
            have e3' : ((j : Int) == (T : Int)) = true := by simp; omega
            have OOn := Lib.hid (V'.out.root ▸ Oo.now S9.out.ok (by omega))
            have LOn := Lib.hid S9.out.ls
            subst hjt
            go_wp2_with fail
            go_roundw
            case rel => exact ⟨j + 1, jj + 1, f', PA', FA', n', pc', m', fc', _, g', q', ln', lc', _, r', g', q', ln', lc', _, by omega, by omega, by first | trivial | go_num, rfl, rfl, rfl, S9, LOn, OOn⟩
            case measure => simp [intOf]; omega
          · have e3 : decide ((j : Int) = (T : Int)) = false := decide_eq_false (by omega)
            have e3' : ((j : Int) == (T : Int)) = false := by simp; omega
            go_wp2_with fail
            go_roundw
            case rel => exact ⟨j + 1, jj + 1, f', PA', FA', n', pc', m', fc', _, g', q', ln', lc', _, root, ga, qa, lno, lco, eo, by omega, by omega, by first | trivial | go_num, rfl, rfl, rfl, S9, LO9, OO9⟩
            case measure => simp [intOf]; omega
      · have k0 : decide (kd = 0) = false := decide_eq_false (fun e => hkk (.inl e))
        have k1 : decide (kd = 1) = false := decide_eq_false (fun e => hkk (.inr e))
        have k0' : (kd == 0) = false := by simp; exact fun e => hkk (.inl e)
        have k1' : (kd == 1) = false := by simp; exact fun e => hkk (.inr e)
        have k0'' : (kd != 0) = true := by simpa using fun e => hkk (.inl e)
        have k1'' : (kd != 1) = true := by simpa using fun e => hkk (.inr e)
        have n0 : ¬ kd = 0 := fun e => hkk (.inl e)
        have n1 : ¬ kd = 1 := fun e => hkk (.inr e)
        clear hkk
        go_wp2_with fail
        go_roundw
        case rel => exact ⟨j + 1, jj, f, PA, FA, n, pc, m, fc, r, g, q, ln, lc, es, root, ga, qa, lno, lco, eo, by omega, by omega, by first | trivial | go_num, rfl, rfl, rfl, S1, LO1, OO⟩
        case measure => simp [intOf]; omega
    · obtain rfl : j = N := by omega
      have d1 : decide ((j : Int) < (j : Int)) = false := decide_eq_false (by omega)
      have hOF := Lib.hid OO.out.fok
      have z0 := S.out.bx.at_ 0 (by simp)
      have z1 := S.out.bx.at_ 1 (by simp)
      have z2 := S.out.bx.at_ 2 (by simp)
      simp only [List.getElem?_cons_succ, List.getElem?_cons_zero] at z0 z1 z2
      go_wp2_with fail
      go_at_call 36
      refine (Reclaim_nil S.out.fv.cs wr (Lib.hid (G.out.below S.out.bw)) (Lib.hid S.out.fl.fl) (Lib.hid S.out.ok.vld)).mono ?_
      rintro e wa ⟨fa, rfl, hra, FLa, ba⟩
      have RA := Lib.hid hra
      obtain ⟨PAa, na, pca, ra, FAa, ma, fca, Va⟩ := fv_of fa
      rw [Va.out.val]
      have S := Lib.hid (S.out.nx ba)
      have LO := Lib.hid (LO.out.nx ba)
      clear hra z0 z1 z2
      obtain ⟨pa, hpa⟩ : ∃ pa, wa.heap.size = pa := ⟨_, rfl⟩
      obtain ⟨Wb, hWb⟩ : ∃ Wb, wa.alloc (.cells #[.slice PAa na pca, .int .i64 ra, .slice FAa ma fca] 30) = Wb := ⟨_, rfl⟩
      have bb : Below wa.heap.size wa Wb := hWb ▸ bal _ _
      have Xa : Hid (Bx Wb pa [.slice PAa na pca, .int .i64 ra, .slice FAa ma fca]) := hWb ▸ Lib.hid (Bx.put _ hpa #[.slice PAa na pca, .int .i64 ra, .slice FAa ma fca] 30)
      have TXa : Hid (Ty Wb pa 30) := hWb ▸ hpa ▸ Lib.hid (Ty.new _ _ _)
      have HWb := Lib.hid hWb
      clear hWb
      have S := Lib.hid (S.out.nx bb)
      have LO := Lib.hid (LO.out.nx bb)
      have FLa := Lib.hid (FLa.out.nx bb)
      have z0 := S.out.bx.at_ 0 (by simp)
      have z1 := S.out.bx.at_ 1 (by simp)
      have z2 := S.out.bx.at_ 2 (by simp)
      simp only [List.getElem?_cons_succ, List.getElem?_cons_zero] at z0 z1 z2
      go_upto_region 17 with fail
      rw [HWb.out]
      obtain ⟨Wc, hWc⟩ : ∃ Wc, Wb.alloc (.cells #[.int .i64 root] 3) = Wc := ⟨_, rfl⟩
      have bc : Below Wb.heap.size Wb Wc := hWc ▸ bal _ _
      have RR : Hid (Rd Wc 1 (some ⟨Wb.heap.size, 0, none⟩) 1 1 (iv [root])) := hWc ▸ Lib.hid int_one
      have S := Lib.hid (S.out.nx bc)
      have LO := Lib.hid (LO.out.nx bc)
      have FLa := Lib.hid (FLa.out.nx bc)
      have Xa := Lib.hid (Xa.out.nx bc)
      go_wp2_with fail
      try rw [hWc]
      clear hWc z0 z1 z2
      go_at_call 36
      refine (Reclaim_one S.out.fv.cs Wc (Lib.hid (G.out.below S.out.bw)) (Lib.hid S.out.fl.fl) (Lib.hid S.out.ok.vld) RR hOF.out.2.1 (by rw [S.out.fv.len]; exact hOF.out.2.2) (Lib.hid OO.out.rok)).mono ?_
      rintro e wd ⟨fb, rfl, hrb, FLb, bd⟩
      have RB := Lib.hid hrb
      obtain ⟨PAb, nb, pcb, rb, FAb, mb, fcb, Vb⟩ := fv_of fb
      rw [Vb.out.val]
      have S := Lib.hid (S.out.nx bd)
      have LO := Lib.hid (LO.out.nx bd)
      have FLa := Lib.hid (FLa.out.nx bd)
      have Xa := Lib.hid (Xa.out.nx bd)
      clear hrb
      obtain ⟨pb, hpb⟩ : ∃ pb, wd.heap.size = pb := ⟨_, rfl⟩
      obtain ⟨We, hWe⟩ : ∃ We, wd.alloc (.cells #[.slice PAb nb pcb, .int .i64 rb, .slice FAb mb fcb] 30) = We := ⟨_, rfl⟩
      have be : Below wd.heap.size wd We := hWe ▸ bal _ _
      have Xb : Hid (Bx We pb [.slice PAb nb pcb, .int .i64 rb, .slice FAb mb fcb]) := hWe ▸ Lib.hid (Bx.put _ hpb #[.slice PAb nb pcb, .int .i64 rb, .slice FAb mb fcb] 30)
      have TXb : Hid (Ty We pb 30) := hWe ▸ hpb ▸ Lib.hid (Ty.new _ _ _)
      have HWe := Lib.hid hWe
      clear hWe
      have S := Lib.hid (S.out.nx be)
      have LO := Lib.hid (LO.out.nx be)
      have FLa := Lib.hid (FLa.out.nx be)
      have FLb := Lib.hid (FLb.out.nx be)
      have Xa := Lib.hid (Xa.out.nx be)
      have z0 := S.out.bx.at_ 0 (by simp)
      have z1 := S.out.bx.at_ 1 (by simp)
      have z2 := S.out.bx.at_ 2 (by simp)
      simp only [List.getElem?_cons_succ, List.getElem?_cons_zero] at z0 z1 z2
      go_upto_region 18 with fail
      rw [HWe.out]
      go_wp2_with fail
      go_at_call 17
      refine (Check_cs S.out.fv.cs We (Lib.hid (G.out.below S.out.bw)) (Lib.hid S.out.fl.fl)).mono ?_
      rintro e wf ⟨k1, er, hc, rfl, bf⟩
      obtain ⟨rfl, KA, KB, l1, l2, l3, l4, l5, l6, l7⟩ := rcl_two S.out.ok OO.out RA.out RB.out hc
      have KA := Lib.hid KA
      have KB := Lib.hid KB
      have L3 := Lib.hid l3
      have S := Lib.hid (S.out.nx bf)
      have LO := Lib.hid (LO.out.nx bf)
      have FLa := Lib.hid (FLa.out.nx bf)
      have FLb := Lib.hid (FLb.out.nx bf)
      have Xa := Lib.hid (Xa.out.nx bf)
      have Xb := Lib.hid (Xb.out.nx bf)
      obtain rfl : ra = r := by rw [Va.out.root, l4, S.out.fv.root]
      obtain rfl : rb = ra := by rw [Vb.out.root, l5, S.out.fv.root]
      obtain rfl : na = n := by rw [Va.out.len, l6, S.out.fv.len]
      have n4 : na ≤ 4096 := by have := S.out.ok.shp.n4; have := S.out.fv.len; omega
      have hma : (ma : Int) = (na : Int) - (k1 : Int) := by rw [Va.out.free, S.out.fv.len]; exact l1
      have hmb : mb ≤ ma := by rw [Va.out.free, Vb.out.free]; exact l2
      have hk1 : k1 ≤ na := by rw [S.out.fv.len]; exact l7
      have hw : IntKind.i64.wrap ((na : Int) - (k1 : Int)) = (ma : Int) := by rw [IntWalk.i64_in _ (by omega)]; omega
      have e5 : decide ((mb : Int) > (ma : Int)) = false := decide_eq_false (by omega)
      have e6 : decide (ma < mb) = false := decide_eq_false (by omega)
      clear hc l1 l2 l3 l4 l5 l6 l7 z0 z1 z2
      have z0 := S.out.bx.at_ 0 (by simp)
      have z1 := S.out.bx.at_ 1 (by simp)
      have z2 := S.out.bx.at_ 2 (by simp)
      simp only [List.getElem?_cons_succ, List.getElem?_cons_zero] at z0 z1 z2
      have x0 := Xa.out.at_ 0 (by simp)
      have x1 := Xa.out.at_ 1 (by simp)
      have x2 := Xa.out.at_ 2 (by simp)
      simp only [List.getElem?_cons_succ, List.getElem?_cons_zero] at x0 x1 x2
      have y0 := Xb.out.at_ 0 (by simp)
      have y1 := Xb.out.at_ 1 (by simp)
      have y2 := Xb.out.at_ 2 (by simp)
      simp only [List.getElem?_cons_succ, List.getElem?_cons_zero] at y0 y1 y2
      obtain ⟨h1', h2', h3', h4', h5', h6', h7'⟩ := cs_root Vb.out.cs
      have HFb : Hid (Rd wf 1 FAb mb fcb (iv fb.free)) := Lib.hid (by have := FLb.out.fl.fr; rw [← h3', ← h6', ← h7'] at this; exact this)
      clear h1' h2' h3' h4' h5' h6' h7'
      have CF : Hid (Calls Tryd.prog 30 #[.slice FAb mb fcb, .func (.func 42) #[] #[.pointer (some ⟨pa, 0, none⟩)]] wf fun e w' => e = .returned (.bool false) ∧ Below wf.heap.size wf w') := Lib.hid (by
        have := recls_any (P := ⟨pa, 0, none⟩) (fun x : Int => .int .i64 x) (fun x => !decide (x ∈ fa.f.free)) wf HFb (Lib.hid fun U hU x _ => recls1_any Va.out.cs x U (Lib.hid (FLa.out.fl.below hU)) (Lib.hid (Xa.out.nx hU)))
        have e : (fb.free.any fun x => !decide (x ∈ fa.f.free)) = false := by
          rw [List.any_eq_false]
          intro x hx
          simp [L3.out x hx]
        rwa [e] at this)
      go_wp2_with fail
      go_at_call 30
      refine CF.out.mono ?_
      rintro e wg ⟨rfl, bg⟩
      have S := Lib.hid (S.out.nx bg)
      have LO := Lib.hid (LO.out.nx bg)
      have FLa := Lib.hid (FLa.out.nx bg)
      have FLb := Lib.hid (FLb.out.nx bg)
      have Xa := Lib.hid (Xa.out.nx bg)
      have Xb := Lib.hid (Xb.out.nx bg)
      have hen : es.length ≤ 1000 := by have := S.out.ok.n; omega
      clear CF z0 z1 z2 x0 x1 x2 y0 y1 y2 e5 e6 hw
      have x0 := Xa.out.at_ 0 (by simp)
      have x1 := Xa.out.at_ 1 (by simp)
      have x2 := Xa.out.at_ 2 (by simp)
      simp only [List.getElem?_cons_succ, List.getElem?_cons_zero] at x0 x1 x2
      go_wp2_with fail
      go_at_call 39
      refine (entries_any (ka := []) (kb := []) Va.out.cs wg (Lib.hid (G.out.below S.out.bw)) (Lib.hid FLa.out.fl) (Lib.hid (Rd.nil_ _ _)) (Lib.hid (Rd.nil_ _ _)) (Lib.hid S.out.ls.lr) KA hen (Lib.hid (by rw [rng_nr]))).mono ?_
      rintro e wh ⟨rfl, bh⟩
      have S := Lib.hid (S.out.nx bh)
      have LO := Lib.hid (LO.out.nx bh)
      have FLb := Lib.hid (FLb.out.nx bh)
      have Xb := Lib.hid (Xb.out.nx bh)
      clear x0 x1 x2
      have y0 := Xb.out.at_ 0 (by simp)
      have y1 := Xb.out.at_ 1 (by simp)
      have y2 := Xb.out.at_ 2 (by simp)
      simp only [List.getElem?_cons_succ, List.getElem?_cons_zero] at y0 y1 y2
      go_wp2_with fail
      go_at_call 39
      refine (entries_any (ka := []) (kb := []) Vb.out.cs wh (Lib.hid (G.out.below S.out.bw)) (Lib.hid FLb.out.fl) (Lib.hid (Rd.nil_ _ _)) (Lib.hid (Rd.nil_ _ _)) (Lib.hid S.out.ls.lr) KB hen (Lib.hid (by rw [rng_nr]))).mono ?_
      rintro e wk ⟨rfl, bk⟩
      have S := Lib.hid (S.out.nx bk)
      have LO := Lib.hid (LO.out.nx bk)
      have FLb := Lib.hid (FLb.out.nx bk)
      have Xb := Lib.hid (Xb.out.nx bk)
      have hYn := hY.out.row.nc
      have hY63 := hY.out.row.c63
      have HYk := Lib.hid (hY.out.below S.out.bw)
      have SRo : Hid (Srt eo) := Lib.hid OO.out.srt
      clear y0 y1 y2 hen
      go_wp2_with fail
      go_loopw [168] (fun zv wr => ∃ i : Nat, i ≤ ky ∧ zv = .int .i64 i ∧ Below wk.heap.size wk wr) (fun zv _ => (ky - intOf zv).toNat)
      case atStart => exact ⟨0, by omega, rfl, Below.refl _ _⟩
      case round =>
        obtain ⟨t, ht, rfl, bt⟩ := hrel
        by_cases hlt : t < ky
        · have d3 : decide ((t : Int) < (ky : Int)) = true := decide_eq_true (by omega)
          obtain ⟨gK, oK, y, hK, hgK, hy, hcy⟩ := Rd.at1 (val := PV.v) (HYk.out.row.nx bt) hlt
          have YR := (HYk.out.dat y (List.mem_of_getElem? hy)).nx bt
          unfold PV.v at hcy
          subst hK
          obtain ⟨yA, yc, yd⟩ := y
          dsimp only at hcy YR
          have LK : Hid (lenB yd.length 0 = true ↔ lenK yd) := Lib.hid (lenB_key rfl)
          obtain ⟨yn, hyn⟩ : ∃ yn, yd.length = yn := ⟨_, rfl⟩
          rw [hyn] at hcy YR LK
          have YR := Lib.hid YR
          have St := Lib.hid (S.out.nx bt)
          have LOt := Lib.hid (LO.out.nx bt)
          have FLt := Lib.hid (FLb.out.nx bt)
          have Xt := Lib.hid (Xb.out.nx bt)
          clear hy hyn
          go_wp2_with fail
          go_at_call 24
          refine (rLengths_any _).mono ?_
          rintro e w' ⟨rfl, rfl⟩
          by_cases hbig : lenB yn 0 = true
          · rw [hbig]
            have HLK := Lib.hid (LK.out.1 hbig)
            have x0 := Xt.out.at_ 0 (by simp)
            have x1 := Xt.out.at_ 1 (by simp)
            have x2 := Xt.out.at_ 2 (by simp)
            simp only [List.getElem?_cons_succ, List.getElem?_cons_zero] at x0 x1 x2
            clear hbig
            go_wp2_with fail
            go_at_call 22
            refine (Old_cs Vb.out.cs root _ (Lib.hid (G.out.below St.out.bw)) (Lib.hid FLt.out.fl) YR).mono ?_
            rintro e we ⟨dw, er', EA, ec, ho, rfl, ER, be'⟩
            have HO := Lib.hid (old_rc2 OO.out RB.out HLK.out ho)
            obtain ⟨en, hen⟩ : ∃ en, dw.length = en := ⟨_, rfl⟩
            rw [hen] at ER
            rw [hen]
            have bte := bt.trans (be'.mono bt.size)
            have LOe := Lib.hid (LOt.out.nx be')
            have YRe := Lib.hid (YR.out.nx be')
            clear ho hen x0 x1 x2 hcy
            have FI := rFind_any we SRo (Lib.hid LOe.out.lr) YRe
            rcases hfd : fd eo yd with _ | _
            · rw [hfd] at FI
              rcases HO.out with ⟨h1, _, rfl⟩ | ⟨h1, _⟩
              · obtain ⟨I, hI⟩ : ∃ I, ix eo yd = I := ⟨_, rfl⟩
                rw [hI] at FI
                have FI := Lib.hid FI
                clear h1 hfd hI
                go_wp2_with fail
                go_at_call 41
                refine FI.out.mono ?_
                rintro e wj ⟨rfl, bj⟩
                have btj := bte.trans (bj.mono bte.size)
                go_wp2_with fail
                go_roundw
                case rel => exact ⟨t + 1, by omega, by first | trivial | go_num, btj⟩
                case measure => simp [intOf]; omega
              · rw [(lkp_upd SRo.out).2 hfd] at h1; cases h1
            · rw [hfd] at FI
              rcases HO.out with ⟨h1, _, _⟩ | ⟨h1, rfl⟩
              · rw [(lkp_upd SRo.out).1 h1] at hfd; cases hfd
              · obtain ⟨y', hy1, hy2⟩ := fd_ar SRo.out hfd
                rw [h1] at hy2
                injection hy2 with hy2
                obtain ⟨I, hI⟩ : ∃ I, ix eo yd = I := ⟨_, rfl⟩
                rw [hI] at FI hy1
                have FI := Lib.hid FI
                have LL := Lib.hid LOe.out.lr.len
                have hIlt : I < lno := by have := (List.getElem?_eq_some_iff.1 hy1).1; have := LL.out; omega
                have l1 : (I : Int) < (lno : Int) := by omega
                have l0 : (0 : Int) ≤ (I : Int) := by omega
                have HY1 := Lib.hid hy1
                have HY2 := Lib.hid hy2
                clear h1 hfd hy1 hy2 hI
                go_wp2_with fail
                go_at_call 41
                refine FI.out.mono ?_
                rintro e wj ⟨rfl, bj⟩
                have btj := bte.trans (bj.mono bte.size)
                have LOj := Lib.hid (LOe.out.nx bj)
                obtain ⟨LL2, hE, hkv⟩ := LOj.out.lr.ex
                obtain ⟨g2, o2, x, hg2, hgl, hx, c0, c1⟩ := Er.item hE hIlt
                injection hg2 with hg2; injection hg2 with q1 q2; subst q1 q2
                obtain ⟨y'', hy', _, hv'⟩ := kv_at hkv hx
                rw [HY1.out] at hy'; injection hy' with hy'; subst hy'
                have EQ : Hid (Calls Tryd.prog 29 #[.slice EA en ec, .slice x.B x.v.length x.d] wj fun e w' => e = .returned (.bool true) ∧ Below wj.heap.size wj w') := Lib.hid (by
                  have := sEqual_any wj (Lib.hid (ER.out.nx bj)) (Lib.hid ((hE.dat x (List.mem_of_getElem? hx)).2))
                  rwa [eqB_iff.2 (HY2.out.trans hv')] at this)
                clear hE hkv hx hv'
                go_wp2_with fail
                go_at_call 29
                refine EQ.out.mono ?_
                rintro e wm ⟨rfl, bm⟩
                have btm := btj.trans (bm.mono btj.size)
                clear c0 c1
                go_wp2_with fail
                go_roundw
                case rel => exact ⟨t + 1, by omega, by first | trivial | go_num, btm⟩
                case measure => simp [intOf]; omega
          · rw [show lenB yn 0 = false by simpa using hbig]
            clear hbig
            go_wp2_with fail
            go_roundw
            case rel => exact ⟨t + 1, by omega, by first | trivial | go_num, bt⟩
            case measure => simp [intOf]; omega
        · obtain rfl : t = ky := by omega
          have d3 : decide ((t : Int) < (t : Int)) = false := decide_eq_false (by omega)
          have St := Lib.hid (S.out.nx bt)
          have z0 := St.out.bx.at_ 0 (by simp)
          have z1 := St.out.bx.at_ 1 (by simp)
          have z2 := St.out.bx.at_ 2 (by simp)
          simp only [List.getElem?_cons_succ, List.getElem?_cons_zero] at z0 z1 z2
          obtain ⟨Wn, hWn⟩ : ∃ Wn, wr.alloc (.cells #[.int .i64 (na : Int)] 3) = Wn := ⟨_, rfl⟩
          have bn : Below wr.heap.size wr Wn := hWn ▸ bal _ _
          have RN : Hid (Rd Wn 1 (some ⟨wr.heap.size, 0, none⟩) 1 1 (iv [(na : Int)])) := hWn ▸ Lib.hid int_one
          have Sn := Lib.hid (St.out.nx bn)
          go_wp2_with fail
          try rw [hWn]
          clear hWn z0 z1 z2
          go_at_call 36
          refine (Reclaim_bad Sn.out.fv.cs Wn (Lib.hid Sn.out.fl.fl) RN (by omega)).mono ?_
          rintro e wz ⟨rfl, bz⟩
          have bwz := Sn.out.bw.trans (bz.mono Sn.out.bw.size)
          have VZ : Hid (zeroV.val = .agg #[.slice none 0 0, .int .i64 0, .slice none 0 0]) := Lib.hid rfl
          rw [VZ.out]
          go_wp2_with fail
          go_ret
          exact ⟨rfl, bwz.alloc bwz.size _⟩
end Go.Proofs.YtphiblmkgbkdmaaDoor.Pg
