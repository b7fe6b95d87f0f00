/- Walks: the reference's Delete, Range, Free. -/
import Derived.Test.YtphiblmkgbkdmaaDoorPgR4
namespace Go.Proofs.YtphiblmkgbkdmaaDoor.Pg
set_option linter.unusedVariables false
set_option linter.unusedSimpArgs false
open Go.RowKit Wl

set_option maxRecDepth 20000 in
set_option maxHeartbeats 3200000 in
theorem rDelete_any {K : Option Addr} {g o n c kn kc base : Nat} {es : List It} {key : List UInt8} (w : World) (hs : Hid (Srt es)) (hn : n ≤ 100000) (hB : base ≤ w.heap.size) (h : Hid (Ls w base (some ⟨g, o, none⟩) n c es)) (hk : Hid (Rd w 1 K kn kc (bv key))) (hf : Hid (fd es key = true)) :
    Calls Tryd.prog 58 #[.slice (some ⟨g, o, none⟩) n c, .slice K kn kc] w (LsPost w base (upd es key [])) := by
  obtain ⟨i0, hi, hz0, hz1, hz2⟩ := info_parts info_entry
  obtain ⟨L, hL, hkv, hsf⟩ := h.out.ex
  have HL := Lib.hid hL
  have SF := Lib.hid hsf
  have NE : Hid (n = es.length) := Lib.hid h.out.lr.len
  have hnc := hL.row.nc
  have h63 := hL.row.c63
  have hJ : ix es key + 1 ≤ n := by
    have h1 : ce es key = ix es key + 1 := by unfold ce; rw [if_pos hf.out]
    have := ce_le hs.out key; have := NE.out; omega
  have KVU : Hid ((L.take (ix es key) ++ L.drop (ix es key + 1)).map EV.kv = kvs (upd es key [])) := Lib.hid (by
    have := kvs_del hs.out (key := key) hkv
    rwa [show ce es key = ix es key + 1 by unfold ce; rw [if_pos hf.out]] at this)
  have FI := rFind_any w hs (Lib.hid h.out.lr) hk
  rw [hf.out] at FI
  obtain ⟨I, hIe⟩ : ∃ I, ix es key = I := ⟨_, rfl⟩
  rw [hIe] at hJ KVU FI
  have FI := Lib.hid FI
  obtain ⟨J, hJI⟩ : ∃ J, I + 1 = J := ⟨_, rfl⟩
  have sw : IntKind.i64.wrap ((I : Int) + 1) = (J : Int) := by rw [IntWalk.i64_in _ (by omega)]; omega
  have hI : I ≤ n := by omega
  rw [hJI] at hJ KVU
  clear hIe hL hkv hsf hJI
  go_enter Tryd.func58, Tryd.ntmps58
  go_wp2_with fail
  go_at_call 41
  refine FI.out.mono ?_
  rintro e w1 ⟨rfl, b1⟩
  have H1 := Lib.hid (HL.out.nx b1)
  have RP := Lib.hid (H1.out.pre hI)
  have z1 := b1.size
  have l0 : (0 : Int) ≤ (I : Int) := by omega
  have l1 : (I : Int) ≤ (n : Int) := by omega
  have hIc : I ≤ c := by omega
  have l2 : (I : Int) ≤ (c : Int) := by omega
  go_wp2_with (at_builtin; apply hold)
  unfold Hold
  refine wpList_app _ rfl (.tmp 14) (.tmp 17) 50 rfl w1.heap.size 73 i0 (.agg #[.slice none 0 0, .slice none 0 0]) 2 48 Tryd.underlying50 hi hz0 hz1 hz2 rfl (by omega) (by rfl) (own_lit w1 _ 2 #[] 0 (Nat.le_refl _) (by unfold maxLen; omega) rfl) (by rfl) (RP.out.row.alloc _) (evc_one _) (by omega) (by omega) (by simp) ?_
  intro A2 c2 w2 own2 g2
  rw [Nat.zero_add] at own2
  have b2 : Below w1.heap.size w1 w2 := g2.low ((Below.refl _ _).alloc (Nat.le_refl _) _) (by simp) (fun g e => by simp [blk] at e; omega)
  have OW2 : Hid (w2.ownsRow w1.heap.size 73 2 (.slice A2 I c2) I (evc (L.take I))) := Lib.hid own2
  have NN := Lib.hid (grew_some g2)
  have z2 := b2.size
  clear own2 g2
  have RS := Lib.hid ((H1.out.nx b2).suf hJ)
  have m0 : (0 : Int) ≤ (J : Int) := by omega
  have m1 : (J : Int) ≤ (n : Int) := by omega
  have m2 : (n : Int) ≤ (c : Int) := by omega
  have FIN : ∀ (w4 : World) (A4 : Option Addr) (c4 : Nat), w4.ownsRow w1.heap.size 73 2 (.slice A4 (I + (n - J)) c4) (I + (n - J)) (evc (L.take I) ++ evc (L.drop J)) → Grew w2 A2 w4 A4 →
      LsPost w base (upd es key []) (.returned (.slice A4 (I + (n - J)) c4)) w4 := fun w4 A4 c4 own4 g4 => by
    have b4 : Below w1.heap.size w1 w4 := g4.low b2 z2 (fun g e => (own_blk_le OW2.out e).1)
    have bw4 : Below w.heap.size w w4 := b1.trans (b4.mono b1.size)
    obtain ⟨a, ha⟩ : ∃ a, A2 = some a := by cases A2 with
      | none => exact absurd rfl NN.out
      | some a => exact ⟨a, rfl⟩
    subst ha
    obtain ⟨g4', hA4⟩ := own_some own4 (grew_some g4)
    subst hA4
    refine ⟨g4', 0, _, c4, rfl, Lib.hid ⟨⟨L.take I ++ L.drop J, ⟨?_, fun x hx => ?_⟩, KVU.out, fun x hx => ?_⟩, fun g e => own_type own4 e⟩, bw4⟩
    · rw [evc_app]; exact Rd.of_own own4
    · rcases List.mem_append.1 hx with hx | hx
      · exact ⟨(HL.out.dat x (List.mem_of_mem_take hx)).1.nx bw4, (HL.out.dat x (List.mem_of_mem_take hx)).2.nx bw4⟩
      · exact ⟨(HL.out.dat x (List.mem_of_mem_drop hx)).1.nx bw4, (HL.out.dat x (List.mem_of_mem_drop hx)).2.nx bw4⟩
    · have old : ∀ x ∈ L, (∀ g, 0 < x.k.length → blk x.A = some g → Sf w4 base g) ∧ ∀ g, 0 < x.v.length → blk x.B = some g → Sf w4 base g := fun x hx =>
        ⟨fun g h0 e => sf_nx ((SF.out x hx).1 g h0 e) (rd_lt (HL.out.dat x hx).1 h0 e) bw4, fun g h0 e => sf_nx ((SF.out x hx).2 g h0 e) (rd_lt (HL.out.dat x hx).2 h0 e) bw4⟩
      rcases List.mem_append.1 hx with hx | hx
      · exact old x (List.mem_of_mem_take hx)
      · exact old x (List.mem_of_mem_drop hx)
  have FIN := Lib.hid FIN
  by_cases hc0 : c = J
  · have RS0 := Lib.hid (er_none (L := L) (g := g) (o := o) w2 (J := J) (by have := HL.out.len; omega) (show n - J = 0 by omega))
    go_wp2_with (at_builtin; apply hold)
    unfold Hold
    refine wpList_app _ rfl (.tmp 19) (.tmp 23) 50 rfl w1.heap.size 73 i0 (.agg #[.slice none 0 0, .slice none 0 0]) 2 48 Tryd.underlying50 hi hz0 hz1 hz2 rfl (by omega) (by rfl) OW2.out (by rfl) RS0.out (evc_one _) (by omega) (by omega) z2 ?_
    intro A4 c4 w4 own4 g4
    have R := Lib.hid (FIN.out w4 A4 c4 own4 g4)
    clear own4 g4
    go_wp2_with fail
    go_ret
    exact R.out
  · go_wp2_with (at_builtin; apply hold)
    unfold Hold
    refine wpList_app _ rfl (.tmp 19) (.tmp 23) 50 rfl w1.heap.size 73 i0 (.agg #[.slice none 0 0, .slice none 0 0]) 2 48 Tryd.underlying50 hi hz0 hz1 hz2 rfl (by omega) (by rfl) OW2.out (by rfl) RS.out.row (evc_one _) (by omega) (by omega) z2 ?_
    intro A4 c4 w4 own4 g4
    have R := Lib.hid (FIN.out w4 A4 c4 own4 g4)
    clear own4 g4
    go_wp2_with fail
    go_ret
    exact R.out
set_option maxRecDepth 20000 in
set_option maxHeartbeats 3200000 in
theorem rRange_any {A KA KB : Option Addr} {n c an ac bn bc : Nat} {es : List It} {ka kb : List UInt8} (w : World) (hn : n ≤ 100000) (h : Hid (Lr w A n c es)) (ha : Hid (Rd w 1 KA an ac (bv ka))) (hb : Hid (Rd w 1 KB bn bc (bv kb))) :
    Calls Tryd.prog 40 #[.slice A n c, .slice KA an ac, .slice KB bn bc] w fun e w' => ∃ (A' : Option Addr) (n' c' : Nat), e = .returned (.slice A' n' c') ∧ Hid (Lr w' A' n' c' (rng es ka kb)) ∧ Below w.heap.size w w' := by
  obtain ⟨i0, hi, hz0, hz1, hz2⟩ := info_parts info_entry
  obtain ⟨L, hL, hkv⟩ := h.out.ex
  have HL := Lib.hid hL
  have KV := Lib.hid hkv
  have NE : Hid (n = es.length) := Lib.hid h.out.len
  have BN : Hid (bn = kb.length) := Lib.hid (by have := hb.out.len; rw [bv_len] at this; omega)
  have hnc := hL.row.nc
  have h63 := hL.row.c63
  clear hL hkv
  go_enter Tryd.func40, Tryd.ntmps40
  go_wp2_with fail
  go_loopw [7, 8] (fun ov iv wr => ∃ (j no : Nat) (Ao : Option Addr) (co : Nat) (Lo : List EV), j ≤ n ∧ no ≤ j ∧ iv = .int .i64 j ∧ ov = .slice Ao no co ∧ Hid (Lo.map EV.kv = kvs (rng (es.take j) ka kb)) ∧ Hid (wr.ownsRow w.heap.size 73 2 (.slice Ao no co) no (evc Lo)) ∧ Hid (∀ x ∈ Lo, x ∈ L) ∧ Below w.heap.size w wr) (fun _ iv _ => (n - intOf iv).toNat)
  case atStart => exact ⟨0, 0, none, 0, [], by omega, by omega, rfl, rfl, Lib.hid rfl, Lib.hid (World.ownsRow_nil _ _ _ _), Lib.hid (by simp), Below.refl _ _⟩
  case round =>
    obtain ⟨j, no, Ao, co, Lo, hj, hno, rfl, rfl, hlo, hown, hin, bw⟩ := hrel
    by_cases hlt : j < n
    · have d1 : decide ((j : Int) < (n : Int)) = true := decide_eq_true (by omega)
      have HR := Lib.hid (HL.out.nx bw)
      have AR := Lib.hid (ha.out.nx bw)
      have BR := Lib.hid (hb.out.nx bw)
      obtain ⟨g, o, x, rfl, hg, hx, a0, a1⟩ := Er.item HR.out hlt
      obtain ⟨y, hy, yk, yv⟩ := kv_at KV.out hx
      have XR := Lib.hid ((HR.out.dat x (List.mem_of_getElem? hx)).1)
      have XM := Lib.hid (List.mem_of_getElem? hx)
      have YK := Lib.hid yk
      have YV := Lib.hid yv
      have SKIP : Hid (inR ka kb y = false → rng (es.take (j + 1)) ka kb = rng (es.take j) ka kb) := Lib.hid fun h => by
        unfold rng; rw [List.take_add_one, hy, List.filter_append]; simp [h]
      have TAKE : Hid (inR ka kb y = true → rng (es.take (j + 1)) ka kb = rng (es.take j) ka kb ++ [y]) := Lib.hid fun h => by
        unfold rng; rw [List.take_add_one, hy, List.filter_append]; simp [h]
      obtain ⟨z, hz⟩ : ∃ z, cmpB x.k ka = z := ⟨_, rfl⟩
      obtain ⟨z', hz'⟩ : ∃ z, cmpB x.k kb = z := ⟨_, rfl⟩
      have CA : ∀ U, Below wr.heap.size wr U → Calls Tryd.prog 64 #[.slice x.A x.k.length x.c, .slice KA an ac] U fun e w' => e = .returned (.int .i64 z) ∧ Below U.heap.size U w' := fun U hU => hz ▸ rCompare_any U (Lib.hid (XR.out.nx hU)) (Lib.hid (AR.out.nx hU))
      have CB : ∀ U, Below wr.heap.size wr U → Calls Tryd.prog 64 #[.slice x.A x.k.length x.c, .slice KB bn bc] U fun e w' => e = .returned (.int .i64 z') ∧ Below U.heap.size U w' := fun U hU => hz' ▸ rCompare_any U (Lib.hid (XR.out.nx hU)) (Lib.hid (BR.out.nx hU))
      have INR : Hid (inR ka kb y = (decide (0 ≤ z) && (decide (bn = 0) || decide (z' < 0)))) := Lib.hid (by unfold inR; rw [YK.out, hz, hz', ← BN.out])
      have CA := Lib.hid CA
      have CB := Lib.hid CB
      clear hz hz' hx hy yk yv
      have PUT : Hid (inR ka kb y = true → ∀ (w3 w4 : World) (A4 : Option Addr) (c4 : Nat), Below wr.heap.size wr w3 → w4.ownsRow w.heap.size 73 2 (.slice A4 (no + 1) c4) (no + 1) (evc Lo ++ [.slice x.A x.k.length x.c, .slice x.B x.v.length x.d]) → Grew w3 Ao w4 A4 →
          Hid ((Lo ++ [x]).map EV.kv = kvs (rng (es.take (j + 1)) ka kb)) ∧ Hid (w4.ownsRow w.heap.size 73 2 (.slice A4 (no + 1) c4) (no + 1) (evc (Lo ++ [x]))) ∧ Hid (∀ x' ∈ Lo ++ [x], x' ∈ L) ∧ Below w.heap.size w w4) := Lib.hid fun h w3 w4 A4 c4 b3 own4 g4 => by
        refine ⟨Lib.hid ?_, Lib.hid ?_, Lib.hid fun x' hx' => ?_, ?_⟩
        · rw [TAKE.out h, List.map_append, hlo.out]; simp [kvs, EV.kv, YK.out, YV.out]
        · rw [evc_app]; exact own4
        · rcases List.mem_append.1 hx' with hx' | hx'
          · exact hin.out x' hx'
          · obtain rfl : x' = x := by simpa using hx'
            exact XM.out
        · exact g4.low (bw.trans (b3.mono bw.size)) (Nat.le_trans bw.size b3.size) fun g e => (own_blk_le (own_below hown.out b3) e).1
      have c0 := bw.size
      by_cases ez0 : 0 ≤ z
      · have e1 : decide (z ≥ 0) = true := decide_eq_true ez0
        by_cases hb0 : bn = 0
        · have IN : Hid (inR ka kb y = true) := Lib.hid (by rw [INR.out]; simp [ez0, hb0])
          have e2 : decide ((bn : Int) = 0) = true := decide_eq_true (by omega)
          have PUT := Lib.hid (PUT.out IN.out)
          clear INR SKIP TAKE
          subst hb0
          go_wp2_with fail
          go_at_call 64
          refine (CA.out _ (Below.refl _ _)).mono ?_
          rintro e w2 ⟨rfl, b2⟩
          have c2 := bcell b2
          have a0' : w2.cell? ⟨g, o + j * 2, none⟩ = some (.slice x.A x.k.length x.c) := (c2.1 _ _ hg).trans a0
          have a1' : w2.cell? ⟨g, o + j * 2 + 1, none⟩ = some (.slice x.B x.v.length x.d) := (c2.1 _ _ hg).trans a1
          have OW2 := Lib.hid (own_below hown.out b2)
          have s2 := b2.size
          clear c2
          go_wp2_with (at_builtin; apply hold)
          unfold Hold
          refine wpList_app _ rfl (.tmp 38) (.tmp 43) 50 rfl w.heap.size 73 i0 (.agg #[.slice none 0 0, .slice none 0 0]) 2 48 Tryd.underlying50 hi hz0 hz1 hz2 rfl (by omega) (by rfl) (own_alloc OW2.out _) (by rfl) (Rd.lit w2 _ 2 #[.slice x.A x.k.length x.c, .slice x.B x.v.length x.d] 1 (by omega) rfl) (pone2 _ _ rfl rfl) (by omega) (by omega) (by simp; omega) ?_
          intro A4 c4 w4 own4 g4
          obtain ⟨R1, R2, R3, R4⟩ := PUT.out _ w4 A4 c4 (b2.alloc b2.size _) own4 g4
          clear own4 g4 PUT
          go_wp2_with fail
          go_roundw
          case rel => exact ⟨j + 1, no + 1, A4, c4, _, by omega, by omega, by first | trivial | go_num, rfl, R1, R2, R3, R4⟩
          case measure => simp [intOf]; omega
        · have e2 : decide ((bn : Int) = 0) = false := decide_eq_false (by omega)
          have e2' : ((bn : Int) == 0) = false := by simpa using hb0
          by_cases hz1' : z' < 0
          · have IN : Hid (inR ka kb y = true) := Lib.hid (by rw [INR.out, decide_eq_true ez0, decide_eq_true hz1', Bool.or_true]; rfl)
            have PUT := Lib.hid (PUT.out IN.out)
            have e3 : decide (z' < 0) = true := decide_eq_true hz1'
            clear INR SKIP TAKE
            go_wp2_with fail
            go_at_call 64
            refine (CA.out _ (Below.refl _ _)).mono ?_
            rintro e w2 ⟨rfl, b2⟩
            have c2 := bcell b2
            have a0' : w2.cell? ⟨g, o + j * 2, none⟩ = some (.slice x.A x.k.length x.c) := (c2.1 _ _ hg).trans a0
            clear c2
            go_wp2_with fail
            go_at_call 64
            refine (CB.out _ b2).mono ?_
            rintro e w3 ⟨rfl, b3⟩
            have b23 := b2.trans (b3.mono b2.size)
            have c3 := bcell b23
            have a0'' : w3.cell? ⟨g, o + j * 2, none⟩ = some (.slice x.A x.k.length x.c) := (c3.1 _ _ hg).trans a0
            have a1'' : w3.cell? ⟨g, o + j * 2 + 1, none⟩ = some (.slice x.B x.v.length x.d) := (c3.1 _ _ hg).trans a1
            have OW3 := Lib.hid (own_below hown.out b23)
            have s3 := b23.size
            clear c3
            go_wp2_with (at_builtin; apply hold)
            unfold Hold
            refine wpList_app _ rfl (.tmp 38) (.tmp 43) 50 rfl w.heap.size 73 i0 (.agg #[.slice none 0 0, .slice none 0 0]) 2 48 Tryd.underlying50 hi hz0 hz1 hz2 rfl (by omega) (by rfl) (own_alloc OW3.out _) (by rfl) (Rd.lit w3 _ 2 #[.slice x.A x.k.length x.c, .slice x.B x.v.length x.d] 1 (by omega) rfl) (pone2 _ _ rfl rfl) (by omega) (by omega) (by simp; omega) ?_
            intro A4 c4 w4 own4 g4
            obtain ⟨R1, R2, R3, R4⟩ := PUT.out _ w4 A4 c4 (b23.alloc b23.size _) own4 g4
            clear own4 g4 PUT
            go_wp2_with fail
            go_roundw
            case rel => exact ⟨j + 1, no + 1, A4, c4, _, by omega, by omega, by first | trivial | go_num, rfl, R1, R2, R3, R4⟩
            case measure => simp [intOf]; omega
          · have IN : Hid (inR ka kb y = false) := Lib.hid (by rw [INR.out, decide_eq_false hb0, decide_eq_false hz1', Bool.or_false, Bool.and_false])
            have e3 : decide (z' < 0) = false := decide_eq_false hz1'
            have R : Hid (Lo.map EV.kv = kvs (rng (es.take (j + 1)) ka kb)) := Lib.hid (by rw [SKIP.out IN.out]; exact hlo.out)
            clear INR SKIP TAKE PUT
            go_wp2_with fail
            go_at_call 64
            refine (CA.out _ (Below.refl _ _)).mono ?_
            rintro e w2 ⟨rfl, b2⟩
            have c2 := bcell b2
            have a0' : w2.cell? ⟨g, o + j * 2, none⟩ = some (.slice x.A x.k.length x.c) := (c2.1 _ _ hg).trans a0
            clear c2
            go_wp2_with fail
            go_at_call 64
            refine (CB.out _ b2).mono ?_
            rintro e w3 ⟨rfl, b3⟩
            have b23 := b2.trans (b3.mono b2.size)
            have OW3 := Lib.hid (own_below hown.out b23)
            have bw3 := bw.trans (b23.mono bw.size)
            go_wp2_with fail
            go_roundw
            case rel => exact ⟨j + 1, no, Ao, co, Lo, by omega, by omega, by first | trivial | go_num, rfl, R, OW3, hin, bw3⟩
            case measure => simp [intOf]; omega
      · have IN : Hid (inR ka kb y = false) := Lib.hid (by rw [INR.out, decide_eq_false ez0]; rfl)
        have e1 : decide (z ≥ 0) = false := decide_eq_false ez0
        have R : Hid (Lo.map EV.kv = kvs (rng (es.take (j + 1)) ka kb)) := Lib.hid (by rw [SKIP.out IN.out]; exact hlo.out)
        clear INR SKIP TAKE PUT
        go_wp2_with fail
        go_at_call 64
        refine (CA.out _ (Below.refl _ _)).mono ?_
        rintro e w2 ⟨rfl, b2⟩
        have OW2 := Lib.hid (own_below hown.out b2)
        have bw2 := bw.trans (b2.mono bw.size)
        go_wp2_with fail
        go_roundw
        case rel => exact ⟨j + 1, no, Ao, co, Lo, by omega, by omega, by first | trivial | go_num, rfl, R, OW2, hin, bw2⟩
        case measure => simp [intOf]; omega
    · obtain rfl : j = n := by omega
      have d1 : decide ((j : Int) < (j : Int)) = false := decide_eq_false (by omega)
      have R : Hid (Lr wr Ao no co (rng es ka kb)) := Lib.hid ⟨Lo, ⟨Rd.of_own hown.out, fun x hx => ⟨(HL.out.dat x (hin.out x hx)).1.nx bw, (HL.out.dat x (hin.out x hx)).2.nx bw⟩⟩, by rw [hlo.out, List.take_of_length_le (by have := NE.out; omega)]⟩
      go_wp2_with fail
      go_ret
      exact ⟨Ao, no, co, rfl, R, bw⟩
set_option maxRecDepth 20000 in
/-- The reference's Free. -/
theorem rFree_any {f : FV} {PA FA : Option Addr} {n pc m fc : Nat} {r0 : Int} (hcs : CsOf f PA n pc r0 FA m fc) (i : Int) (w : World) (HF : Hid (Fl w f)) :
    Calls Tryd.prog 28 #[.agg #[.slice PA n pc, .int .i64 r0, .slice FA m fc], .int .i64 i] w fun e w' => e = .returned (.bool (decide (i ∈ f.f.free))) ∧ Below w.heap.size w w' := by
  obtain ⟨h1, h2, h3, h4, h5, h6, h7⟩ := cs_root hcs
  have hf : Hid (Rd w 1 FA m fc (iv f.free)) := Lib.hid (by have := HF.out.fr; rw [← h3, ← h6, ← h7] at this; exact this)
  have HM : Hid (m = f.free.length) := Lib.hid h3
  have hnc := hf.out.nc
  have h63 := hf.out.c63
  clear h1 h2 h3 h4 h5 h6 h7
  have FF : Hid (f.f.free = f.free) := Lib.hid rfl
  have bw := Below.refl w.heap.size w
  obtain ⟨p, hp⟩ : ∃ p, w.heap.size = p := ⟨_, rfl⟩
  obtain ⟨W0, hW0⟩ : ∃ W0, w.alloc (.cells #[.slice PA n pc, .int .i64 r0, .slice FA m fc] 30) = W0 := ⟨_, rfl⟩
  have b0 : Below w.heap.size w W0 := hW0 ▸ bal _ _
  have X : Hid (Bx W0 p [.slice PA n pc, .int .i64 r0, .slice FA m fc]) := hW0 ▸ Lib.hid (Bx.put _ hp #[.slice PA n pc, .int .i64 r0, .slice FA m fc] 30)
  have TX : Hid (Ty W0 p 30) := hW0 ▸ hp ▸ Lib.hid (Ty.new _ _ _)
  have HW0 := Lib.hid hW0
  clear hW0
  replace bw := bw.trans (b0.mono bw.size)
  replace hf := Lib.hid (hf.out.nx b0)
  go_enter Tryd.func28, Tryd.ntmps28
  go_wp2_with fail
  rw [HW0.out]
  have z0 := X.out.at_ 0 (by simp)
  have z1 := X.out.at_ 1 (by simp)
  have z2 := X.out.at_ 2 (by simp)
  simp only [List.getElem?_cons_succ, List.getElem?_cons_zero] at z0 z1 z2
  go_loopw [5] (fun iv wr => ∃ j : Nat, j ≤ m ∧ iv = .int .i64 j ∧ Hid (i ∉ f.free.take j) ∧ W0 = wr) (fun iv _ => (m - intOf iv).toNat)
  case atStart => exact ⟨0, by omega, rfl, Lib.hid (by simp), rfl⟩
  case round =>
    obtain ⟨j, hj, rfl, HN, rfl⟩ := hrel
    by_cases hlt : j < m
    · have d1 : decide ((j : Int) < (m : Int)) = true := decide_eq_true (by omega)
      obtain ⟨g, o, x, rfl, hg, hx, hc⟩ := Rd.at1 hf.out hlt
      have HX := Lib.hid hx
      clear hx
      by_cases hxi : x = i
      · subst hxi
        have R : Hid (decide (x ∈ f.f.free) = true) := Lib.hid (decide_eq_true (by rw [FF.out]; exact List.mem_of_getElem? HX.out))
        go_wp2_with fail
        go_ret
        exact ⟨ret_bool (by rw [R.out]), bw⟩
      · have d2 : decide (x = i) = false := decide_eq_false hxi
        have d3 : (x == i) = false := by simpa using hxi
        have R : Hid (i ∉ f.free.take (j + 1)) := Lib.hid (by rw [List.take_add_one, HX.out]; simp; exact ⟨HN.out, fun e => hxi e.symm⟩)
        clear hxi
        go_wp2_with fail
        go_roundw
        case rel => exact ⟨j + 1, by omega, by first | trivial | go_num, R, by first | trivial | rfl⟩
        case measure => simp [intOf]; omega
    · obtain rfl : j = m := by omega
      have d1 : decide ((j : Int) < (j : Int)) = false := decide_eq_false (by omega)
      have R : Hid (decide (i ∈ f.f.free) = false) := Lib.hid (decide_eq_false (by rw [FF.out]; have := HN.out; rwa [List.take_of_length_le (by have := HM.out; omega)] at this))
      go_wp2_with fail
      go_ret
      exact ⟨ret_bool (by rw [R.out]), bw⟩
end Go.Proofs.YtphiblmkgbkdmaaDoor.Pg
