/- Walks: the reference's Find, Put, Delete. -/
import Derived.Test.YtphiblmkgbkdmaaDoorPgR3
namespace Go.Proofs.YtphiblmkgbkdmaaDoor.Pg
set_option linter.unusedVariables false
set_option linter.unusedSimpArgs false
open Go.RowKit Wl

set_option maxRecDepth 20000 in
set_option maxHeartbeats 1600000 in
theorem rFind_any {A K : Option Addr} {n c kn kc : Nat} {es : List It} {key : List UInt8} (w : World) (hs : Hid (Srt es)) (h : Hid (Lr w A n c es)) (hk : Hid (Rd w 1 K kn kc (bv key))) :
    Calls Tryd.prog 41 #[.slice A n c, .slice K kn kc] w fun e w' => e = .returned (.tuple #[.int .i64 (ix es key : Nat), .bool (fd es key)]) ∧ Below w.heap.size w w' := by
  obtain ⟨L, hL, hkv⟩ := h.out.ex
  have HL := Lib.hid hL
  have KV := Lib.hid hkv
  have NE : Hid (n = es.length) := Lib.hid h.out.len
  have hnc := hL.row.nc
  have h63 := hL.row.c63
  clear hL hkv
  go_enter Tryd.func41, Tryd.ntmps41
  go_wp2_with fail
  go_loopw [6] (fun iv wr => ∃ j : Nat, j ≤ n ∧ iv = .int .i64 j ∧ Hid (∀ (k : Nat) (y : It), k < j → es[k]? = some y → cmpB y.k key < 0) ∧ Below w.heap.size w wr) (fun iv _ => (n - intOf iv).toNat)
  case atStart => exact ⟨0, by omega, rfl, Lib.hid fun k y hk _ => by omega, Below.refl _ _⟩
  case round =>
    obtain ⟨j, hj, rfl, LO, bw⟩ := hrel
    by_cases hlt : j < n
    · have d1 : decide ((j : Int) < (n : Int)) = true := decide_eq_true (by omega)
      have HR := Lib.hid (HL.out.nx bw)
      have KR := Lib.hid (hk.out.nx bw)
      obtain ⟨g, o, x, rfl, hg, hx, a0, a1⟩ := Er.item HR.out hlt
      obtain ⟨y, hy, yk, yv⟩ := kv_at KV.out hx
      have XR := Lib.hid ((HR.out.dat x (List.mem_of_getElem? hx)).1)
      have HY : Hid (es[j]? = some y ∧ y.k = x.k) := Lib.hid ⟨hy, yk⟩
      obtain ⟨z, hz⟩ : ∃ z, cmpB x.k key = z := ⟨_, rfl⟩
      have CC : ∀ U, Below wr.heap.size wr U → Calls Tryd.prog 64 #[.slice x.A x.k.length x.c, .slice K kn kc] U fun e w' => e = .returned (.int .i64 z) ∧ Below U.heap.size U w' := fun U hU => hz ▸ rCompare_any U (Lib.hid (XR.out.nx hU)) (Lib.hid (KR.out.nx hU))
      have CC := Lib.hid CC
      have HZ := Lib.hid hz
      clear hz hx hy yk yv
      by_cases hz0 : z < 0
      · have d2 : decide (z < 0) = true := decide_eq_true hz0
        have LO2 : Hid (∀ (k : Nat) (y : It), k < j + 1 → es[k]? = some y → cmpB y.k key < 0) := Lib.hid fun k y' hk' hy' => by
          by_cases e : k = j
          · subst e
            rw [HY.out.1] at hy'; injection hy' with hy'; subst hy'
            rw [HY.out.2, HZ.out]; exact hz0
          · exact LO.out k y' (by omega) hy'
        go_wp2_with fail
        go_at_call 64
        refine (CC.out _ (Below.refl _ _)).mono ?_
        rintro e w2 ⟨rfl, b2⟩
        have bw2 := bw.trans (b2.mono bw.size)
        go_wp2_with fail
        go_roundw
        case rel => exact ⟨j + 1, by omega, by first | trivial | go_num, LO2, bw2⟩
        case measure => simp [intOf]; omega
      · have d2 : decide (z < 0) = false := decide_eq_false hz0
        obtain ⟨e1, e2⟩ := plc_of hs.out (key := key) (j := j) (by have := NE.out; omega) LO.out (fun y' hy' => by
          rw [HY.out.1] at hy'; injection hy' with hy'; subst hy'
          rw [HY.out.2, HZ.out]; omega)
        have E1 := Lib.hid e1
        have E2 : Hid (fd es key = true ↔ z = 0) := Lib.hid (e2.trans ⟨fun ⟨y', h1, h2⟩ => by
          rw [HY.out.1] at h1; injection h1 with h1; subst h1
          rw [HY.out.2, HZ.out] at h2; exact h2, fun e => ⟨y, HY.out.1, by rw [HY.out.2, HZ.out]; exact e⟩⟩)
        clear e1 e2
        go_wp2_with fail
        go_at_call 64
        refine (CC.out _ (Below.refl _ _)).mono ?_
        rintro e w2 ⟨rfl, b2⟩
        have bw2 := bw.trans (b2.mono bw.size)
        have c2 := bcell b2
        have a0' : w2.cell? ⟨g, o + j * 2, none⟩ = some (.slice x.A x.k.length x.c) := (c2.1 _ _ hg).trans a0
        clear c2
        go_wp2_with fail
        go_at_call 64
        refine (CC.out _ b2).mono ?_
        rintro e w3 ⟨rfl, b3⟩
        have bw3 := bw2.trans (b3.mono bw2.size)
        by_cases hz1 : z = 0
        · subst hz1
          have R := Lib.hid (E2.out.2 rfl)
          go_wp2_with fail
          go_ret2
          exact ⟨by rw [E1.out, R.out]; first | done | rfl, bw3⟩
        · have d3 : decide (z = 0) = false := decide_eq_false hz1
          have d4 : (z == 0) = false := by simpa using hz1
          have R : Hid (fd es key = false) := Lib.hid (by
            rcases hf : fd es key with _ | _
            · rfl
            · exact absurd (E2.out.1 hf) hz1)
          clear hz1
          go_wp2_with fail
          go_ret2
          exact ⟨by rw [E1.out, R.out]; first | done | rfl, bw3⟩
    · obtain rfl : j = n := by omega
      have d1 : decide ((j : Int) < (j : Int)) = false := decide_eq_false (by omega)
      obtain ⟨e1, e2⟩ := plc_of hs.out (key := key) (j := j) (by have := NE.out; omega) LO.out (fun y' hy' => by
        have := (List.getElem?_eq_some_iff.1 hy').1; have := NE.out; omega)
      have E1 := Lib.hid e1
      have R : Hid (fd es key = false) := Lib.hid (by
        rcases hf : fd es key with _ | _
        · rfl
        · obtain ⟨y', h1, _⟩ := e2.1 hf
          have := (List.getElem?_eq_some_iff.1 h1).1; have := NE.out; omega)
      clear e1 e2
      go_wp2_with fail
      go_ret2
      exact ⟨by rw [E1.out, R.out]; first | done | rfl, bw⟩
def LsPost (w : World) (base : Nat) (es : List It) (e : Ending) (w' : World) : Prop := ∃ (g o n c : Nat), e = .returned (.slice (some ⟨g, o, none⟩) n c) ∧ Hid (Ls w' base (some ⟨g, o, none⟩) n c es) ∧ Below w.heap.size w w'
theorem info_entry : (Tryd.prog.info? 73).map (fun i => (i.zero, i.size, i.bytes)) = some (some (.agg #[.slice none 0 0, .slice none 0 0]), 2, 48) := by kernel_rfl
theorem grew_some {w w' : World} {a : Addr} {A' : Option Addr} (h : Grew w (some a) w' A') : A' ≠ none := by
  rintro rfl
  rcases h.at_ with e | ⟨g, e, hg⟩
  · simp [blk] at e
  · simp [blk] at e
theorem kvs_upd {es : List It} (hs : Srt es) {key value : List UInt8} {L : List EV} (h : L.map EV.kv = kvs es) {K V : Option Addr} {kc vc : Nat} : (L.take (ix es key) ++ [(⟨K, kc, key, V, vc, value⟩ : EV)] ++ L.drop (ce es key)).map EV.kv = kvs (upd es key [⟨key, value, 0⟩]) := by
  rw [upd_eq hs, List.map_append, List.map_append, List.map_take, List.map_drop, h]
  simp [kvs, EV.kv, List.map_take, List.map_drop]
theorem kvs_del {es : List It} (hs : Srt es) {key : List UInt8} {L : List EV} (h : L.map EV.kv = kvs es) : (L.take (ix es key) ++ L.drop (ce es key)).map EV.kv = kvs (upd es key []) := by
  rw [upd_eq hs, List.map_append, List.map_take, List.map_drop, h]
  simp [kvs, List.map_take, List.map_drop]
theorem own_some {w : World} {base e size n c : Nat} {A : Option Addr} {xs : List Value} (h : w.ownsRow base e size (.slice A n c) n xs) (hA : A ≠ none) : ∃ g, A = some ⟨g, 0, none⟩ := by
  rcases h.2 with ⟨h1, _⟩ | ⟨g, cap, cu, h1, _⟩
  · injection h1 with h1; exact absurd h1 hA
  · injection h1 with h1; exact ⟨g, h1⟩
theorem er_none {L : List EV} {g o n J : Nat} (w : World) (hl : L.length ≤ J) (hn : n - J = 0) : Rd w 2 (some ⟨g, o, none⟩) (n - J) 0 (evc (L.drop J)) :=
  ⟨by rw [evc_len, List.length_drop]; omega, by omega, fun e => (by cases e), by omega, fun h => by omega⟩
set_option maxRecDepth 20000 in
set_option maxHeartbeats 3200000 in
theorem rPut_any {K V : Option Addr} {g o n c kn kc vn vc base : Nat} {es : List It} {key value : List UInt8} (w : World) (hs : Hid (Srt es)) (hn : n ≤ 100000) (hB : base ≤ w.heap.size) (h : Hid (Ls w base (some ⟨g, o, none⟩) n c es)) (hk : Hid (Rd w 1 K kn kc (bv key))) (hv : Hid (Rd w 1 V vn vc (bv value)))
    (sk : Hid (∀ g, 0 < kn → blk K = some g → Sf w base g)) (sv : Hid (∀ g, 0 < vn → blk V = some g → Sf w base g)) :
    Calls Tryd.prog 57 #[.slice (some ⟨g, o, none⟩) n c, .slice K kn kc, .slice V vn vc] w (LsPost w base (upd es key [⟨key, value, 0⟩])) := by
  obtain ⟨i0, hi, hz0, hz1, hz2⟩ := info_parts info_entry
  obtain ⟨L, hL, hkv, hsf⟩ := h.out.ex
  have HL := Lib.hid hL
  have KV := Lib.hid hkv
  have SF := Lib.hid hsf
  have NE : Hid (n = es.length) := Lib.hid h.out.lr.len
  have hnc := hL.row.nc
  have h63 := hL.row.c63
  have p := plc_ix hs.out key
  have hI : ix es key ≤ n := by have := p.le; have := NE.out; omega
  have hJ : ce es key ≤ n := by have := ce_le hs.out key; have := NE.out; omega
  have HJ : Hid (ce es key = if fd es key then ix es key + 1 else ix es key) := Lib.hid rfl
  have KVU : Hid (∀ (x : EV), x.k = key → x.v = value → (L.take (ix es key) ++ [x] ++ L.drop (ce es key)).map EV.kv = kvs (upd es key [⟨key, value, 0⟩])) := Lib.hid fun x h1 h2 => by
    obtain ⟨a, b, x, d, e, y⟩ := x; subst h1; subst h2; exact kvs_upd hs.out KV.out
  have FI := rFind_any w hs (Lib.hid h.out.lr) hk
  obtain ⟨I, hIe⟩ : ∃ I, ix es key = I := ⟨_, rfl⟩
  obtain ⟨J, hJe⟩ : ∃ J, ce es key = J := ⟨_, rfl⟩
  obtain ⟨F, hFe⟩ : ∃ F, fd es key = F := ⟨_, rfl⟩
  rw [hIe] at hI
  rw [hJe] at hJ
  rw [hIe, hJe] at KVU
  rw [hIe, hJe, hFe] at HJ
  rw [hIe, hFe] at FI
  have FI := Lib.hid FI
  clear hIe hJe hFe p hL hkv hsf
  go_enter Tryd.func57, Tryd.ntmps57
  go_wp2_with fail
  go_at_call 41
  refine FI.out.mono ?_
  rintro e w1 ⟨rfl, b1⟩
  have H1 := Lib.hid (HL.out.nx b1)
  have RP := Lib.hid (H1.out.pre hI)
  have z1 := b1.size
  have l0 : (0 : Int) ≤ (I : Int) := by omega
  have l1 : (I : Int) ≤ (n : Int) := by omega
  have hIc : I ≤ c := by omega
  have l2 : (I : Int) ≤ (c : Int) := by omega
  go_wp2_with (at_builtin; apply hold)
  unfold Hold
  refine wpList_app _ rfl (.tmp 16) (.tmp 19) 50 rfl w1.heap.size 73 i0 (.agg #[.slice none 0 0, .slice none 0 0]) 2 48 Tryd.underlying50 hi hz0 hz1 hz2 rfl (by omega) (by rfl) (own_lit w1 _ 2 #[] 0 (Nat.le_refl _) (by unfold maxLen; omega) rfl) (by rfl) (RP.out.row.alloc _) (evc_one _) (by omega) (by omega) (by simp) ?_
  intro A2 c2 w2 own2 g2
  rw [Nat.zero_add] at own2
  have b2 : Below w1.heap.size w1 w2 := g2.low ((Below.refl _ _).alloc (Nat.le_refl _) _) (by simp) (fun g e => by simp [blk] at e; omega)
  have OW2 : Hid (w2.ownsRow w1.heap.size 73 2 (.slice A2 I c2) I (evc (L.take I))) := Lib.hid own2
  have z2 := b2.size
  clear own2 g2
  go_wp2_with (at_builtin; apply hold)
  unfold Hold
  refine wpList_app _ rfl (.tmp 21) (.tmp 25) 50 rfl w1.heap.size 73 i0 (.agg #[.slice none 0 0, .slice none 0 0]) 2 48 Tryd.underlying50 hi hz0 hz1 hz2 rfl (by omega) (by rfl) (own_alloc OW2.out _) (by rfl) (Rd.lit w2 _ 2 #[.slice K kn kc, .slice V vn vc] 1 (by omega) rfl) (pone2 _ _ rfl rfl) (by omega) (by omega) (by simp; omega) ?_
  intro A3 c3 w3 own3 g3
  have b3 : Below w1.heap.size w1 w3 := g3.low (b2.alloc z2 _) (by simp; omega) (fun g e => (own_blk_le OW2.out e).1)
  have OW3 : Hid (w3.ownsRow w1.heap.size 73 2 (.slice A3 (I + 1) c3) (I + 1) (evc (L.take I) ++ [.slice K kn kc, .slice V vn vc])) := Lib.hid own3
  have z3 := b3.size
  clear own3 g3
  have RS := Lib.hid ((H1.out.nx b3).suf hJ)
  have m0 : (0 : Int) ≤ (J : Int) := by omega
  have m1 : (J : Int) ≤ (n : Int) := by omega
  have m2 : (n : Int) ≤ (c : Int) := by omega
  have FIN : ∀ (w4 : World) (A4 : Option Addr) (c4 : Nat), w4.ownsRow w1.heap.size 73 2 (.slice A4 (I + 1 + (n - J)) c4) (I + 1 + (n - J)) ((evc (L.take I) ++ [.slice K kn kc, .slice V vn vc]) ++ evc (L.drop J)) → Grew w3 A3 w4 A4 →
      LsPost w base (upd es key [⟨key, value, 0⟩]) (.returned (.slice A4 (I + 1 + (n - J)) c4)) w4 := fun w4 A4 c4 own4 g4 => by
    have b4 : Below w1.heap.size w1 w4 := g4.low b3 z3 (fun g e => (own_blk_le OW3.out e).1)
    have bw4 : Below w.heap.size w w4 := b1.trans (b4.mono b1.size)
    obtain ⟨g4', hA4, _⟩ := own_pos own4 (by omega)
    subst hA4
    refine ⟨g4', 0, _, c4, rfl, Lib.hid ⟨⟨L.take I ++ [⟨K, kc, key, V, vc, value⟩] ++ L.drop J, ⟨?_, fun x hx => ?_⟩, KVU.out _ rfl rfl, fun x hx => ?_⟩, fun g e => own_type own4 e⟩, bw4⟩
    · have hkl : kn = key.length := by have := hk.out.len; rw [bv_len] at this; omega
      have hvl : vn = value.length := by have := hv.out.len; rw [bv_len] at this; omega
      have e : evc (L.take I ++ [(⟨K, kc, key, V, vc, value⟩ : EV)] ++ L.drop J) = (evc (L.take I) ++ [.slice K kn kc, .slice V vn vc]) ++ evc (L.drop J) := by
        rw [evc_app, evc_app, hkl, hvl]; rfl
      rw [e]; exact Rd.of_own own4
    · rcases List.mem_append.1 hx with hx | hx
      · rcases List.mem_append.1 hx with hx | hx
        · exact ⟨(HL.out.dat x (List.mem_of_mem_take hx)).1.nx bw4, (HL.out.dat x (List.mem_of_mem_take hx)).2.nx bw4⟩
        · obtain rfl : x = _ := by simpa using hx
          have hkl : kn = key.length := by have := hk.out.len; rw [bv_len] at this; omega
          have hvl : vn = value.length := by have := hv.out.len; rw [bv_len] at this; omega
          exact ⟨by have := hk.out.nx bw4; rw [hkl] at this; exact this, by have := hv.out.nx bw4; rw [hvl] at this; exact this⟩
      · exact ⟨(HL.out.dat x (List.mem_of_mem_drop hx)).1.nx bw4, (HL.out.dat x (List.mem_of_mem_drop hx)).2.nx bw4⟩
    · have old : ∀ x ∈ L, (∀ g, 0 < x.k.length → blk x.A = some g → Sf w4 base g) ∧ ∀ g, 0 < x.v.length → blk x.B = some g → Sf w4 base g := fun x hx =>
        ⟨fun g h0 e => sf_nx ((SF.out x hx).1 g h0 e) (rd_lt (HL.out.dat x hx).1 h0 e) bw4, fun g h0 e => sf_nx ((SF.out x hx).2 g h0 e) (rd_lt (HL.out.dat x hx).2 h0 e) bw4⟩
      rcases List.mem_append.1 hx with hx | hx
      · rcases List.mem_append.1 hx with hx | hx
        · exact old x (List.mem_of_mem_take hx)
        · obtain rfl : x = _ := by simpa using hx
          have hkl : kn = key.length := by have := hk.out.len; rw [bv_len] at this; omega
          have hvl : vn = value.length := by have := hv.out.len; rw [bv_len] at this; omega
          exact ⟨fun g h0 e => sf_nx (sk.out g (by rw [hkl]; exact h0) e) (rd_lt hk.out (by rw [hkl]; exact h0) e) bw4, fun g h0 e => sf_nx (sv.out g (by rw [hvl]; exact h0) e) (rd_lt hv.out (by rw [hvl]; exact h0) e) bw4⟩
      · exact old x (List.mem_of_mem_drop hx)
  have FIN := Lib.hid FIN
  clear b2 z2
  rcases F with _ | _
  case true =>
    have HJ : Hid (J = I + 1) := Lib.hid HJ.out
    have sw : IntKind.i64.wrap ((I : Int) + 1) = (J : Int) := by rw [IntWalk.i64_in _ (by omega)]; have := HJ.out; omega
    clear HJ
    by_cases hc0 : c = J
    · have RS0 := Lib.hid (er_none (L := L) (g := g) (o := o) w3 (J := J) (by have := HL.out.len; omega) (show n - J = 0 by omega))
      go_wp2_with (at_builtin; apply hold)
      unfold Hold
      refine wpList_app _ rfl (.tmp 30) (.tmp 33) 50 rfl w1.heap.size 73 i0 (.agg #[.slice none 0 0, .slice none 0 0]) 2 48 Tryd.underlying50 hi hz0 hz1 hz2 rfl (by omega) (by rfl) OW3.out (by rfl) RS0.out (evc_one _) (by omega) (by omega) z3 ?_
      intro A4 c4 w4 own4 g4
      have R := Lib.hid (FIN.out w4 A4 c4 own4 g4)
      clear own4 g4
      go_wp2_with fail
      go_ret
      exact R.out
    · skip
      go_wp2_with (at_builtin; apply hold)
      unfold Hold
      refine wpList_app _ rfl (.tmp 30) (.tmp 33) 50 rfl w1.heap.size 73 i0 (.agg #[.slice none 0 0, .slice none 0 0]) 2 48 Tryd.underlying50 hi hz0 hz1 hz2 rfl (by omega) (by rfl) OW3.out (by rfl) RS.out.row (evc_one _) (by omega) (by omega) z3 ?_
      intro A4 c4 w4 own4 g4
      have R := Lib.hid (FIN.out w4 A4 c4 own4 g4)
      clear own4 g4
      go_wp2_with fail
      go_ret
      exact R.out
  case false =>
    obtain rfl : J = I := HJ.out
    by_cases hc0 : c = J
    · have RS0 := Lib.hid (er_none (L := L) (g := g) (o := o) w3 (J := J) (by have := HL.out.len; omega) (show n - J = 0 by omega))
      go_wp2_with (at_builtin; apply hold)
      unfold Hold
      refine wpList_app _ rfl (.tmp 30) (.tmp 33) 50 rfl w1.heap.size 73 i0 (.agg #[.slice none 0 0, .slice none 0 0]) 2 48 Tryd.underlying50 hi hz0 hz1 hz2 rfl (by omega) (by rfl) OW3.out (by rfl) RS0.out (evc_one _) (by omega) (by omega) z3 ?_
      intro A4 c4 w4 own4 g4
      have R := Lib.hid (FIN.out w4 A4 c4 own4 g4)
      clear own4 g4
      go_wp2_with fail
      go_ret
      exact R.out
    · skip
      go_wp2_with (at_builtin; apply hold)
      unfold Hold
      refine wpList_app _ rfl (.tmp 30) (.tmp 33) 50 rfl w1.heap.size 73 i0 (.agg #[.slice none 0 0, .slice none 0 0]) 2 48 Tryd.underlying50 hi hz0 hz1 hz2 rfl (by omega) (by rfl) OW3.out (by rfl) RS.out.row (evc_one _) (by omega) (by omega) z3 ?_
      intro A4 c4 w4 own4 g4
      have R := Lib.hid (FIN.out w4 A4 c4 own4 g4)
      clear own4 g4
      go_wp2_with fail
      go_ret
      exact R.out
end Go.Proofs.YtphiblmkgbkdmaaDoor.Pg
