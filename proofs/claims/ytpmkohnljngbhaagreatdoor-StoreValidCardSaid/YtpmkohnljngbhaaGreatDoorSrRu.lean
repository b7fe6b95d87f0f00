/- Walk: the reference's Transactions. -/
import Derived.Test.YtpmkohnljngbhaaGreatDoorSrRt
import Derived.Test.YtpmkohnljngbhaaGreatDoorSrCp
namespace Go.Proofs.YtpmkohnljngbhaaGreatDoor.Sr
set_option linter.unusedVariables false
set_option linter.unusedSimpArgs false
set_option maxRecDepth 1000000
open Go.RowKit Wl Pg

theorem vok_len {log : List UInt8} {last : Int} (h : glen log ≠ log.length) : vok log last = false := by
  unfold vok; rw [decide_eq_false h]; rfl
theorem vok_neg {log : List UInt8} {last : Int} (h : last < 0) : vok log last = false := by
  unfold vok; rw [decide_eq_false (show ¬ 0 ≤ last by omega)]; simp
theorem vok_big {log : List UInt8} {last : Int} (h : 2147483648 < last) : vok log last = false := by
  unfold vok; rw [decide_eq_false (show ¬ last ≤ 2147483648 by omega)]; simp
theorem vok_none {log : List UInt8} {last : Int} (h : vfold (rd log) = none) : vok log last = false := by
  unfold vok; rw [h]; simp
theorem vok_some {log : List UInt8} {last : Int} {s : Nat × Int × Bool} (h1 : glen log = log.length) (h2 : ¬ last < 0) (h3 : ¬ 2147483648 < last) (h : vfold (rd log) = some s) : vok log last = vend log last s := by
  unfold vok; rw [decide_eq_true h1, decide_eq_true (show 0 ≤ last by omega), decide_eq_true (show last ≤ 2147483648 by omega), h]; simp
theorem vstp_none' {k : Nat} {tx : Int} {op : Bool} {r : Rec} (h : (op = true ∧ r.t ≠ tx) ∨ (op = false ∧ 0 < tx ∧ r.t ≠ nx64 tx)) : vstp (some (k, tx, op)) r = none := by
  unfold vstp; simp only [Option.bind_some]; rw [if_pos h]
theorem vstp_go {k : Nat} {tx : Int} {op : Bool} {r : Rec} (h : ¬ ((op = true ∧ r.t ≠ tx) ∨ (op = false ∧ 0 < tx ∧ r.t ≠ nx64 tx))) :
    vstp (some (k, tx, op)) r = if r.k = 3 then some (k + 1, r.t, false) else if chR r = none then none else some (k, r.t, true) := by
  unfold vstp; simp only [Option.bind_some]; rw [if_neg h]
def RtPost (w : World) (b : Bool) (e : Ending) (w' : World) : Prop := ∃ (A' : Option Addr) (n' c' : Nat), e = .returned (.tuple #[.slice A' n' c', .bool b]) ∧ Below w.heap.size w w'
set_option maxHeartbeats 12800000 in
theorem rTrans_any {A : Option Addr} {n c : Nat} {log : List UInt8} {last : Int} (w : World) (hl : Hid (n = log.length)) (h : Hid (Rd w 1 A n c (bv log))) (hn : n ≤ 20000) :
    Calls Tryz.prog 22 #[.slice A n c, .int .i64 last] w (RtPost w (vok log last)) := by
  obtain ⟨vb, hvb⟩ : ∃ vb, vok log last = vb := ⟨_, rfl⟩
  rw [hvb]
  have HVB := Lib.hid hvb
  clear hvb
  have RDD := Lib.hid (rRead_any w hl h (by omega))
  have dn : decide ((n : Int) > 1048576) = false := decide_eq_false (by omega)
  have dn' : decide (1048576 < (n : Int)) = false := decide_eq_false (by omega)
  go_enter Tryz.func22, Tryz.ntmps22
  go_wp2_with fail
  go_at_call 53
  refine RDD.out.mono ?_
  rintro e w1 ⟨RA, en, rc, l, rfl, hlr, rs, b1⟩
  clear RDD
  have RS := Lib.hid rs.rr
  have HLR := Lib.hid hlr
  have hnc := RS.out.row.nc
  have hc63 := RS.out.row.c63
  have EN : Hid (en = l.length) := Lib.hid rs.len
  have en1 : en ≤ 20000 := by
    have e := glen_le log
    have : ∀ q : List Rec, q.length * 21 ≤ (encs q).length := fun q => by
      induction q with
      | nil => simp
      | cons a q ih => rw [encs_cons, List.length_append, Wl.enc_len, List.length_cons]; omega
    have := this (l.map RV.r)
    rw [List.length_map, ← rs.len] at this
    unfold glen at e
    rw [← hlr, ← hl.out] at e
    omega
  have OKL : Hid (∀ x ∈ l, Wl.ok x.r) := Lib.hid fun x hx => rd_ok log x.r (by rw [← hlr]; exact List.mem_map_of_mem hx)
  obtain ⟨gn, hgn⟩ : ∃ gn, glen log = gn := ⟨_, rfl⟩
  rw [hgn]
  have HGN := Lib.hid hgn
  clear hgn hlr rs
  by_cases hg : gn = n
  case neg =>
    obtain rfl : vb = false := by rw [← HVB.out]; exact vok_len (by rw [HGN.out, ← hl.out]; exact hg)
    have e1 : ((gn : Int) == (n : Int)) = false := by simp; omega
    go_wp2_with fail
    go_ret2
    exact ⟨none, 0, 0, rfl, b1⟩
  subst hg
  by_cases hl0 : last < 0
  · obtain rfl : vb = false := by rw [← HVB.out]; exact vok_neg hl0
    have e1 : decide (last < 0) = true := decide_eq_true hl0
    go_wp2_with fail
    go_ret2
    exact ⟨none, 0, 0, rfl, b1⟩
  have e0 : decide (last < 0) = false := decide_eq_false hl0
  by_cases hl1 : 2147483648 < last
  · obtain rfl : vb = false := by rw [← HVB.out]; exact vok_big hl1
    have e1 : decide (2147483648 < last) = true := decide_eq_true hl1
    go_wp2_with fail
    go_ret2
    exact ⟨none, 0, 0, rfl, b1⟩
  have e1 : decide (2147483648 < last) = false := decide_eq_false hl1
  have VOK : Hid (∀ s, vfold (l.map RV.r) = some s → vb = vend log last s) := Lib.hid fun s hs => by rw [← HVB.out]; exact vok_some (by rw [HGN.out, hl.out]) hl0 hl1 (by rw [← HLR.out]; exact hs)
  have VNO : Hid (∀ j, vfold ((l.take j).map RV.r) = none → vb = false) := Lib.hid fun j hj => by
    rw [← HVB.out]; exact vok_none (by rw [← HLR.out]; rw [List.map_take] at hj; exact vfold_none hj)
  clear hl0 hl1
  obtain ⟨i0, hi, hz0, hz1, hz2⟩ := info_parts info_change
  obtain ⟨i1, hi1, hc0, hc1, hc2⟩ := info_parts info_changes
  go_wp2_with fail
  go_loopw [8, 9, 10, 11, 12] (fun ov nv tv opv iv' wr => ∃ (j on oc nn nc : Nat) (OA NA : Option Addr) (tx : Int) (op : Bool), j ≤ en ∧ on ≤ j ∧ nn ≤ j ∧ iv' = .int .i64 (j : Int) ∧ ov = .slice OA on oc ∧ nv = .slice NA nn nc ∧ tv = .int .i64 tx ∧ opv = .bool op ∧
    Hid (vfold ((l.take j).map RV.r) = some (on, tx, op)) ∧ Hid (∃ xs, wr.ownsRow w1.heap.size 42 1 (.slice OA on oc) on xs) ∧ Hid (∃ xs, wr.ownsRow w1.heap.size 52 3 (.slice NA nn nc) nn xs) ∧ Hid (0 ≤ tx ∧ tx < 9223372036854775808) ∧ Below w1.heap.size w1 wr) (fun _ _ _ _ iv' _ => (en - intOf iv').toNat)
  case atStart => exact ⟨0, 0, 0, 0, 0, none, none, 0, false, by omega, by omega, by omega, rfl, rfl, rfl, rfl, rfl, Lib.hid rfl, Lib.hid ⟨[], World.ownsRow_nil _ _ _ _⟩, Lib.hid ⟨[], World.ownsRow_nil _ _ _ _⟩, Lib.hid (by omega), Below.refl _ _⟩
  case round =>
    obtain ⟨j, on, oc, nn, nc, OA, NA, tx, op, hj, hon, hnn, rfl, rfl, rfl, rfl, rfl, VF, OX, NX, TB, b2⟩ := hrel
    by_cases hlt : j < en
    · have d1 : decide ((j : Int) < (en : Int)) = true := decide_eq_true (by omega)
      obtain ⟨g', o', x, rfl, hg', hx', hxm, a0, a1, a2⟩ := (RS.out.below b2).rec_ hlt
      have HX2 := Lib.hid (tk hx')
      have OKX := Lib.hid (OKL.out x (List.mem_of_getElem? hx'))
      have XD := Lib.hid ((RS.out.dat x (List.mem_of_getElem? hx')))
      obtain ⟨xd, hxd⟩ : ∃ xd, x.d.length = xd := ⟨_, rfl⟩
      obtain ⟨xt, hxt⟩ : ∃ xt, x.t = xt := ⟨_, rfl⟩
      rw [hxd] at a2
      rw [hxt] at a1
      have HXD := Lib.hid hxd
      have HXT : Hid (x.r.t = xt) := Lib.hid hxt
      have XT : Hid (1 ≤ xt ∧ xt < 9223372036854775808) := Lib.hid (by have h := OKX.out; rw [← hxt]; exact ⟨h.2.2.1, h.2.2.2.1⟩)
      clear hx' hxd hxt
      by_cases hx3 : x.k = 3
      · rw [hx3] at a0
        have HX3 : Hid (x.r.k = 3) := Lib.hid hx3
        clear hx3
        obtain ⟨q13, hq13⟩ : ∃ q13, wr.heap.size = q13 := ⟨_, rfl⟩
        obtain ⟨W12, hW12⟩ : ∃ W12, wr.alloc (.cells #[.int .i64 3, .int .i64 xt, .slice x.A xd x.c] 89) = W12 := ⟨_, rfl⟩
        have b12 : Below wr.heap.size wr W12 := hW12 ▸ bal _ _
        have V : Hid (Bx W12 q13 [.int .i64 3, .int .i64 xt, .slice x.A xd x.c]) := hW12 ▸ Lib.hid (Bx.put _ hq13 #[.int .i64 3, .int .i64 xt, .slice x.A xd x.c] 89)
        have TV : Hid (Ty W12 q13 89) := hW12 ▸ hq13 ▸ Lib.hid (Ty.new _ _ _)
        have HW12 := Lib.hid hW12
        clear hW12
        have b112 := b2.trans (b12.mono b2.size)
        cases op with
        | true =>
          by_cases ht : xt = tx
          · subst ht
            have VK : Hid (vfold ((l.take (j + 1)).map RV.r) = if x.r.k = 3 then some (on + 1, xt, false) else if chR x.r = none then none else some (on, xt, true)) := Lib.hid (by
              rw [HX2.out, vfold_snoc, VF.out, vstp_go (by rw [HXT.out]; simp), HXT.out])
            go_upto_region 12 with fail
            rw [HW12.out]
            clear a0 a1 a2
            have v0 := V.out.at_ 0 (by simp)
            have v1 := V.out.at_ 1 (by simp)
            have v2 := V.out.at_ 2 (by simp)
            simp only [List.getElem?_cons_succ, List.getElem?_cons_zero] at v0 v1 v2
            have VK3 : Hid (vfold ((l.take (j + 1)).map RV.r) = some (on + 1, xt, false)) := Lib.hid (by rw [VK.out, if_pos HX3.out])
            obtain ⟨ys, ox⟩ := OX.out
            have ox12 := Lib.hid (own_below (own_below ox b12) (bal W12 (.cells #[.slice NA nn nc] 42)))
            have s12 := b112.size
            clear ox
            go_wp2_with (at_builtin; apply hold)
            unfold Hold
            refine wpList_app _ rfl (.tmp 73) (.tmp 75) 22 rfl w1.heap.size 42 i1 (.slice none 0 0) 1 24 Tryz.underlying22 hi1 hc0 hc1 hc2 rfl (by omega) (by rfl) ox12.out (by rfl) (Rd.lit W12 _ 1 #[.slice NA nn nc] 1 (by omega) rfl) (by intro u hu; obtain rfl := List.mem_singleton.1 hu; rfl) (by omega) (by omega) (by simp; omega) ?_
            intro A4 c4 W4 own4 g4
            have b4 : Below w1.heap.size w1 W4 := g4.low (bel_alloc b112 (Nat.le_refl _) _) (by simp; omega) fun q e => (own_blk_le ox12.out e).1
            have O4 : Hid (∃ xs, W4.ownsRow w1.heap.size 42 1 (.slice A4 (on + 1) c4) (on + 1) xs) := Lib.hid ⟨_, own4⟩
            clear own4 g4 v0 v1 v2
            go_wp2_with fail
            go_roundw
            case rel => exact ⟨j + 1, on + 1, c4, 0, 0, A4, none, xt, false, by omega, by omega, by omega, by first | rfl | go_num, rfl, rfl, rfl, rfl, VK3, O4, Lib.hid ⟨[], World.ownsRow_nil _ _ _ _⟩, Lib.hid (by have := XT.out; omega), b4⟩
            case measure => simp [intOf]; omega
          · obtain rfl : vb = false := VNO.out (j + 1) (by rw [HX2.out, vfold_snoc, VF.out]; exact vstp_none' (.inl ⟨rfl, by rw [HXT.out]; exact ht⟩))
            have e4 : (xt == tx) = false := by simp; exact ht
            have e5 : decide (xt = tx) = false := decide_eq_false ht
            have bF := b1.trans (b112.mono b1.size)
            go_upto_region 12 with fail
            rw [HW12.out]
            clear a0 a1 a2 ht
            have v0 := V.out.at_ 0 (by simp)
            have v1 := V.out.at_ 1 (by simp)
            have v2 := V.out.at_ 2 (by simp)
            simp only [List.getElem?_cons_succ, List.getElem?_cons_zero] at v0 v1 v2
            go_wp2_with fail
            go_ret2
            exact ⟨none, 0, 0, rfl, bF⟩
        | false =>
          by_cases h0 : 0 < tx
          · have e6 : decide (0 < tx) = true := decide_eq_true h0
            have wx : IntKind.i64.wrap (tx + 1) = nx64 tx := by
              have := TB.out
              unfold nx64
              split
              · rename_i h; subst h; decide
              · rw [IntKind.wrap_i64]; omega
            obtain ⟨nx, hnx⟩ : ∃ nx, nx64 tx = nx := ⟨_, rfl⟩
            rw [hnx] at wx
            have HNX := Lib.hid hnx
            clear hnx
            by_cases ht : xt = nx
            · subst ht
              have VK : Hid (vfold ((l.take (j + 1)).map RV.r) = if x.r.k = 3 then some (on + 1, xt, false) else if chR x.r = none then none else some (on, xt, true)) := Lib.hid (by
                rw [HX2.out, vfold_snoc, VF.out, vstp_go (by rw [HXT.out, HNX.out]; simp), HXT.out])
              go_upto_region 12 with fail
              rw [HW12.out]
              clear a0 a1 a2
              have v0 := V.out.at_ 0 (by simp)
              have v1 := V.out.at_ 1 (by simp)
              have v2 := V.out.at_ 2 (by simp)
              simp only [List.getElem?_cons_succ, List.getElem?_cons_zero] at v0 v1 v2
              have VK3 : Hid (vfold ((l.take (j + 1)).map RV.r) = some (on + 1, xt, false)) := Lib.hid (by rw [VK.out, if_pos HX3.out])
              obtain ⟨ys, ox⟩ := OX.out
              have ox12 := Lib.hid (own_below (own_below ox b12) (bal W12 (.cells #[.slice NA nn nc] 42)))
              have s12 := b112.size
              clear ox
              go_wp2_with (at_builtin; apply hold)
              unfold Hold
              refine wpList_app _ rfl (.tmp 73) (.tmp 75) 22 rfl w1.heap.size 42 i1 (.slice none 0 0) 1 24 Tryz.underlying22 hi1 hc0 hc1 hc2 rfl (by omega) (by rfl) ox12.out (by rfl) (Rd.lit W12 _ 1 #[.slice NA nn nc] 1 (by omega) rfl) (by intro u hu; obtain rfl := List.mem_singleton.1 hu; rfl) (by omega) (by omega) (by simp; omega) ?_
              intro A4 c4 W4 own4 g4
              have b4 : Below w1.heap.size w1 W4 := g4.low (bel_alloc b112 (Nat.le_refl _) _) (by simp; omega) fun q e => (own_blk_le ox12.out e).1
              have O4 : Hid (∃ xs, W4.ownsRow w1.heap.size 42 1 (.slice A4 (on + 1) c4) (on + 1) xs) := Lib.hid ⟨_, own4⟩
              clear own4 g4 v0 v1 v2
              go_wp2_with fail
              go_roundw
              case rel => exact ⟨j + 1, on + 1, c4, 0, 0, A4, none, xt, false, by omega, by omega, by omega, by first | rfl | go_num, rfl, rfl, rfl, rfl, VK3, O4, Lib.hid ⟨[], World.ownsRow_nil _ _ _ _⟩, Lib.hid (by have := XT.out; omega), b4⟩
              case measure => simp [intOf]; omega
            · obtain rfl : vb = false := VNO.out (j + 1) (by rw [HX2.out, vfold_snoc, VF.out]; exact vstp_none' (.inr ⟨rfl, h0, by rw [HXT.out, HNX.out]; exact ht⟩))
              have e4 : (xt == nx) = false := by simp; exact ht
              have e5 : decide (xt = nx) = false := decide_eq_false ht
              have bF := b1.trans (b112.mono b1.size)
              go_upto_region 12 with fail
              rw [HW12.out]
              clear a0 a1 a2 ht
              have v0 := V.out.at_ 0 (by simp)
              have v1 := V.out.at_ 1 (by simp)
              have v2 := V.out.at_ 2 (by simp)
              simp only [List.getElem?_cons_succ, List.getElem?_cons_zero] at v0 v1 v2
              go_wp2_with fail
              go_ret2
              exact ⟨none, 0, 0, rfl, bF⟩
          · have e6 : decide (0 < tx) = false := decide_eq_false h0
            have VK : Hid (vfold ((l.take (j + 1)).map RV.r) = if x.r.k = 3 then some (on + 1, xt, false) else if chR x.r = none then none else some (on, xt, true)) := Lib.hid (by
              rw [HX2.out, vfold_snoc, VF.out, vstp_go (by simp; omega), HXT.out])
            go_upto_region 12 with fail
            rw [HW12.out]
            clear a0 a1 a2 h0
            have v0 := V.out.at_ 0 (by simp)
            have v1 := V.out.at_ 1 (by simp)
            have v2 := V.out.at_ 2 (by simp)
            simp only [List.getElem?_cons_succ, List.getElem?_cons_zero] at v0 v1 v2
            have VK3 : Hid (vfold ((l.take (j + 1)).map RV.r) = some (on + 1, xt, false)) := Lib.hid (by rw [VK.out, if_pos HX3.out])
            obtain ⟨ys, ox⟩ := OX.out
            have ox12 := Lib.hid (own_below (own_below ox b12) (bal W12 (.cells #[.slice NA nn nc] 42)))
            have s12 := b112.size
            clear ox
            go_wp2_with (at_builtin; apply hold)
            unfold Hold
            refine wpList_app _ rfl (.tmp 73) (.tmp 75) 22 rfl w1.heap.size 42 i1 (.slice none 0 0) 1 24 Tryz.underlying22 hi1 hc0 hc1 hc2 rfl (by omega) (by rfl) ox12.out (by rfl) (Rd.lit W12 _ 1 #[.slice NA nn nc] 1 (by omega) rfl) (by intro u hu; obtain rfl := List.mem_singleton.1 hu; rfl) (by omega) (by omega) (by simp; omega) ?_
            intro A4 c4 W4 own4 g4
            have b4 : Below w1.heap.size w1 W4 := g4.low (bel_alloc b112 (Nat.le_refl _) _) (by simp; omega) fun q e => (own_blk_le ox12.out e).1
            have O4 : Hid (∃ xs, W4.ownsRow w1.heap.size 42 1 (.slice A4 (on + 1) c4) (on + 1) xs) := Lib.hid ⟨_, own4⟩
            clear own4 g4 v0 v1 v2
            go_wp2_with fail
            go_roundw
            case rel => exact ⟨j + 1, on + 1, c4, 0, 0, A4, none, xt, false, by omega, by omega, by omega, by first | rfl | go_num, rfl, rfl, rfl, rfl, VK3, O4, Lib.hid ⟨[], World.ownsRow_nil _ _ _ _⟩, Lib.hid (by have := XT.out; omega), b4⟩
            case measure => simp [intOf]; omega
      · have HX3 : Hid (x.r.k ≠ 3) := Lib.hid hx3
        obtain ⟨xk, hxk⟩ : ∃ xk, x.k = xk := ⟨_, rfl⟩
        rw [hxk] at a0
        have K12 : xk = 1 ∨ xk = 2 := by
          have h := OKX.out
          have h1 : 1 ≤ xk := by rw [← hxk]; exact h.1
          have h2 : xk ≤ 3 := by rw [← hxk]; exact h.2.1
          rw [hxk] at hx3; omega
        have e3 : decide (xk = 3) = false := decide_eq_false (by rw [← hxk]; exact hx3)
        have e3' : (xk == 3) = false := by rw [← hxk]; simpa using hx3
        have HXK : Hid (x.k = xk) := Lib.hid hxk
        clear hx3 hxk
        obtain ⟨q13, hq13⟩ : ∃ q13, wr.heap.size = q13 := ⟨_, rfl⟩
        obtain ⟨W12, hW12⟩ : ∃ W12, wr.alloc (.cells #[.int .i64 xk, .int .i64 xt, .slice x.A xd x.c] 89) = W12 := ⟨_, rfl⟩
        have b12 : Below wr.heap.size wr W12 := hW12 ▸ bal _ _
        have V : Hid (Bx W12 q13 [.int .i64 xk, .int .i64 xt, .slice x.A xd x.c]) := hW12 ▸ Lib.hid (Bx.put _ hq13 #[.int .i64 xk, .int .i64 xt, .slice x.A xd x.c] 89)
        have TV : Hid (Ty W12 q13 89) := hW12 ▸ hq13 ▸ Lib.hid (Ty.new _ _ _)
        have HW12 := Lib.hid hW12
        clear hW12
        have b112 := b2.trans (b12.mono b2.size)
        cases op with
        | true =>
          by_cases ht : xt = tx
          · subst ht
            have VK : Hid (vfold ((l.take (j + 1)).map RV.r) = if x.r.k = 3 then some (on + 1, xt, false) else if chR x.r = none then none else some (on, xt, true)) := Lib.hid (by
              rw [HX2.out, vfold_snoc, VF.out, vstp_go (by rw [HXT.out]; simp), HXT.out])
            go_upto_region 12 with fail
            rw [HW12.out]
            clear a0 a1 a2
            have v0 := V.out.at_ 0 (by simp)
            have v1 := V.out.at_ 1 (by simp)
            have v2 := V.out.at_ 2 (by simp)
            simp only [List.getElem?_cons_succ, List.getElem?_cons_zero] at v0 v1 v2
            have XD12 : Hid (Rd W12 1 x.A xd x.c (bv x.d)) := Lib.hid (by rw [← HXD.out]; exact XD.out.below b112)
            have RH := rChange_any xk xt W12 XD12 (by rw [← HXD.out]; exact OKX.out.2.2.2.2.1) K12
            rw [show (⟨xk, xt, x.d⟩ : Rec) = x.r by rw [← HXK.out, ← HXT.out]; rfl] at RH
            cases hc : chR x.r with
            | none =>
              obtain rfl : vb = false := VNO.out (j + 1) (by rw [VK.out, if_neg HX3.out, if_pos hc])
              rw [hc] at RH
              have RH := Lib.hid RH
              clear hc
              go_wp2_with fail
              go_at_call 54
              refine RH.out.mono ?_
              rintro e w15 ⟨A1, A2, n1, c1, n2, c2, dl, rfl, b15⟩
              have bF := b1.trans ((b112.trans (b15.mono b112.size)).mono b1.size)
              have bF := bel_alloc bF (Nat.le_refl _) (.cells #[.slice A1 n1 c1, .slice A2 n2 c2, .bool dl] 52)
              clear v0 v1 v2
              dsimp only [Option.isSome]
              go_wp2_with fail
              go_ret2
              exact ⟨none, 0, 0, rfl, bF⟩
            | some ch =>
              have VK3 : Hid (vfold ((l.take (j + 1)).map RV.r) = some (on, xt, true)) := Lib.hid (by rw [VK.out, if_neg HX3.out, if_neg (by rw [hc]; simp)])
              rw [hc] at RH
              have RH := Lib.hid RH
              clear hc
              go_wp2_with fail
              go_at_call 54
              refine RH.out.mono ?_
              rintro e w15 ⟨A1, A2, n1, c1, n2, c2, dl, rfl, b15⟩
              have b115 := b112.trans (b15.mono b112.size)
              obtain ⟨q14, hq14⟩ : ∃ q14, w15.heap.size = q14 := ⟨_, rfl⟩
              obtain ⟨W16, hW16⟩ : ∃ W16, w15.alloc (.cells #[.slice A1 n1 c1, .slice A2 n2 c2, .bool dl] 52) = W16 := ⟨_, rfl⟩
              have b16 : Below w15.heap.size w15 W16 := hW16 ▸ bal _ _
              have T : Hid (Bx W16 q14 [.slice A1 n1 c1, .slice A2 n2 c2, .bool dl]) := hW16 ▸ Lib.hid (Bx.put _ hq14 #[.slice A1 n1 c1, .slice A2 n2 c2, .bool dl] 52)
              have TT : Hid (Ty W16 q14 52) := hW16 ▸ hq14 ▸ Lib.hid (Ty.new _ _ _)
              have HW16 := Lib.hid hW16
              clear hW16
              have b116 := b115.trans (b16.mono b115.size)
              clear v0 v1 v2
              have v0 := T.out.at_ 0 (by simp)
              have v1 := T.out.at_ 1 (by simp)
              have v2 := T.out.at_ 2 (by simp)
              simp only [List.getElem?_cons_succ, List.getElem?_cons_zero] at v0 v1 v2
              obtain ⟨ys, ox⟩ := OX.out
              obtain ⟨zs, nx⟩ := NX.out
              have b1216 := b12.trans ((b15.trans (b16.mono b15.size)).mono b12.size)
              have ox16 := Lib.hid (own_below (own_below ox b1216) (bal W16 (.cells #[.slice A1 n1 c1, .slice A2 n2 c2, .bool dl] 52)))
              have nx16 := Lib.hid (own_below (own_below nx b1216) (bal W16 (.cells #[.slice A1 n1 c1, .slice A2 n2 c2, .bool dl] 52)))
              have s16 := b116.size
              clear ox nx
              dsimp only [Option.isSome]
              go_upto_region 20 with fail
              rw [HW16.out]
              go_wp2_with (at_builtin; apply hold)
              unfold Hold
              refine wpList_app _ rfl (.tmp 84) (.tmp 86) 42 rfl w1.heap.size 52 i0 (.agg #[.slice none 0 0, .slice none 0 0, .bool false]) 3 56 Tryz.underlying42 hi hz0 hz1 hz2 rfl (by omega) (by rfl) nx16.out (by rfl) (Rd.lit W16 _ 3 #[.slice A1 n1 c1, .slice A2 n2 c2, .bool dl] 1 (by omega) rfl) (Wl.one3 _ _ _ rfl rfl rfl) (by omega) (by omega) (by simp; omega) ?_
              intro A4 c4 W4 own4 g4
              have b4 : Below w1.heap.size w1 W4 := g4.low (bel_alloc b116 (Nat.le_refl _) _) (by simp; omega) fun q e => (own_blk_le nx16.out e).1
              have O4 : Hid (∃ xs, W4.ownsRow w1.heap.size 52 3 (.slice A4 (nn + 1) c4) (nn + 1) xs) := Lib.hid ⟨_, own4⟩
              have X4 : Hid (∃ xs, W4.ownsRow w1.heap.size 42 1 (.slice OA on oc) on xs) := Lib.hid ⟨_, own_kp ox16.out (Kp.of_grew (X := fun q => blk NA = some q) g4 fun q e => e) fun q e e2 => ty_ne (own_type ox16.out e) (own_type nx16.out e2) (by decide) rfl⟩
              clear own4 g4 v0 v1 v2
              go_wp2_with fail
              go_roundw
              case rel => exact ⟨j + 1, on, oc, nn + 1, c4, OA, A4, xt, true, by omega, by omega, by omega, by first | rfl | go_num, rfl, rfl, rfl, rfl, VK3, X4, O4, Lib.hid (by have := XT.out; omega), b4⟩
              case measure => simp [intOf]; omega
          · obtain rfl : vb = false := VNO.out (j + 1) (by rw [HX2.out, vfold_snoc, VF.out]; exact vstp_none' (.inl ⟨rfl, by rw [HXT.out]; exact ht⟩))
            have e4 : (xt == tx) = false := by simp; exact ht
            have e5 : decide (xt = tx) = false := decide_eq_false ht
            have bF := b1.trans (b112.mono b1.size)
            go_upto_region 12 with fail
            rw [HW12.out]
            clear a0 a1 a2 ht
            have v0 := V.out.at_ 0 (by simp)
            have v1 := V.out.at_ 1 (by simp)
            have v2 := V.out.at_ 2 (by simp)
            simp only [List.getElem?_cons_succ, List.getElem?_cons_zero] at v0 v1 v2
            go_wp2_with fail
            go_ret2
            exact ⟨none, 0, 0, rfl, bF⟩
        | false =>
          by_cases h0 : 0 < tx
          · have e6 : decide (0 < tx) = true := decide_eq_true h0
            have wx : IntKind.i64.wrap (tx + 1) = nx64 tx := by
              have := TB.out
              unfold nx64
              split
              · rename_i h; subst h; decide
              · rw [IntKind.wrap_i64]; omega
            obtain ⟨nx, hnx⟩ : ∃ nx, nx64 tx = nx := ⟨_, rfl⟩
            rw [hnx] at wx
            have HNX := Lib.hid hnx
            clear hnx
            by_cases ht : xt = nx
            · subst ht
              have VK : Hid (vfold ((l.take (j + 1)).map RV.r) = if x.r.k = 3 then some (on + 1, xt, false) else if chR x.r = none then none else some (on, xt, true)) := Lib.hid (by
                rw [HX2.out, vfold_snoc, VF.out, vstp_go (by rw [HXT.out, HNX.out]; simp), HXT.out])
              go_upto_region 12 with fail
              rw [HW12.out]
              clear a0 a1 a2
              have v0 := V.out.at_ 0 (by simp)
              have v1 := V.out.at_ 1 (by simp)
              have v2 := V.out.at_ 2 (by simp)
              simp only [List.getElem?_cons_succ, List.getElem?_cons_zero] at v0 v1 v2
              have XD12 : Hid (Rd W12 1 x.A xd x.c (bv x.d)) := Lib.hid (by rw [← HXD.out]; exact XD.out.below b112)
              have RH := rChange_any xk xt W12 XD12 (by rw [← HXD.out]; exact OKX.out.2.2.2.2.1) K12
              rw [show (⟨xk, xt, x.d⟩ : Rec) = x.r by rw [← HXK.out, ← HXT.out]; rfl] at RH
              cases hc : chR x.r with
              | none =>
                obtain rfl : vb = false := VNO.out (j + 1) (by rw [VK.out, if_neg HX3.out, if_pos hc])
                rw [hc] at RH
                have RH := Lib.hid RH
                clear hc
                go_wp2_with fail
                go_at_call 54
                refine RH.out.mono ?_
                rintro e w15 ⟨A1, A2, n1, c1, n2, c2, dl, rfl, b15⟩
                have bF := b1.trans ((b112.trans (b15.mono b112.size)).mono b1.size)
                have bF := bel_alloc bF (Nat.le_refl _) (.cells #[.slice A1 n1 c1, .slice A2 n2 c2, .bool dl] 52)
                clear v0 v1 v2
                dsimp only [Option.isSome]
                go_wp2_with fail
                go_ret2
                exact ⟨none, 0, 0, rfl, bF⟩
              | some ch =>
                have VK3 : Hid (vfold ((l.take (j + 1)).map RV.r) = some (on, xt, true)) := Lib.hid (by rw [VK.out, if_neg HX3.out, if_neg (by rw [hc]; simp)])
                rw [hc] at RH
                have RH := Lib.hid RH
                clear hc
                go_wp2_with fail
                go_at_call 54
                refine RH.out.mono ?_
                rintro e w15 ⟨A1, A2, n1, c1, n2, c2, dl, rfl, b15⟩
                have b115 := b112.trans (b15.mono b112.size)
                obtain ⟨q14, hq14⟩ : ∃ q14, w15.heap.size = q14 := ⟨_, rfl⟩
                obtain ⟨W16, hW16⟩ : ∃ W16, w15.alloc (.cells #[.slice A1 n1 c1, .slice A2 n2 c2, .bool dl] 52) = W16 := ⟨_, rfl⟩
                have b16 : Below w15.heap.size w15 W16 := hW16 ▸ bal _ _
                have T : Hid (Bx W16 q14 [.slice A1 n1 c1, .slice A2 n2 c2, .bool dl]) := hW16 ▸ Lib.hid (Bx.put _ hq14 #[.slice A1 n1 c1, .slice A2 n2 c2, .bool dl] 52)
                have TT : Hid (Ty W16 q14 52) := hW16 ▸ hq14 ▸ Lib.hid (Ty.new _ _ _)
                have HW16 := Lib.hid hW16
                clear hW16
                have b116 := b115.trans (b16.mono b115.size)
                clear v0 v1 v2
                have v0 := T.out.at_ 0 (by simp)
                have v1 := T.out.at_ 1 (by simp)
                have v2 := T.out.at_ 2 (by simp)
                simp only [List.getElem?_cons_succ, List.getElem?_cons_zero] at v0 v1 v2
                obtain ⟨ys, ox⟩ := OX.out
                obtain ⟨zs, nx⟩ := NX.out
                have b1216 := b12.trans ((b15.trans (b16.mono b15.size)).mono b12.size)
                have ox16 := Lib.hid (own_below (own_below ox b1216) (bal W16 (.cells #[.slice A1 n1 c1, .slice A2 n2 c2, .bool dl] 52)))
                have nx16 := Lib.hid (own_below (own_below nx b1216) (bal W16 (.cells #[.slice A1 n1 c1, .slice A2 n2 c2, .bool dl] 52)))
                have s16 := b116.size
                clear ox nx
                dsimp only [Option.isSome]
                go_upto_region 20 with fail
                rw [HW16.out]
                go_wp2_with (at_builtin; apply hold)
                unfold Hold
                refine wpList_app _ rfl (.tmp 84) (.tmp 86) 42 rfl w1.heap.size 52 i0 (.agg #[.slice none 0 0, .slice none 0 0, .bool false]) 3 56 Tryz.underlying42 hi hz0 hz1 hz2 rfl (by omega) (by rfl) nx16.out (by rfl) (Rd.lit W16 _ 3 #[.slice A1 n1 c1, .slice A2 n2 c2, .bool dl] 1 (by omega) rfl) (Wl.one3 _ _ _ rfl rfl rfl) (by omega) (by omega) (by simp; omega) ?_
                intro A4 c4 W4 own4 g4
                have b4 : Below w1.heap.size w1 W4 := g4.low (bel_alloc b116 (Nat.le_refl _) _) (by simp; omega) fun q e => (own_blk_le nx16.out e).1
                have O4 : Hid (∃ xs, W4.ownsRow w1.heap.size 52 3 (.slice A4 (nn + 1) c4) (nn + 1) xs) := Lib.hid ⟨_, own4⟩
                have X4 : Hid (∃ xs, W4.ownsRow w1.heap.size 42 1 (.slice OA on oc) on xs) := Lib.hid ⟨_, own_kp ox16.out (Kp.of_grew (X := fun q => blk NA = some q) g4 fun q e => e) fun q e e2 => ty_ne (own_type ox16.out e) (own_type nx16.out e2) (by decide) rfl⟩
                clear own4 g4 v0 v1 v2
                go_wp2_with fail
                go_roundw
                case rel => exact ⟨j + 1, on, oc, nn + 1, c4, OA, A4, xt, true, by omega, by omega, by omega, by first | rfl | go_num, rfl, rfl, rfl, rfl, VK3, X4, O4, Lib.hid (by have := XT.out; omega), b4⟩
                case measure => simp [intOf]; omega
            · obtain rfl : vb = false := VNO.out (j + 1) (by rw [HX2.out, vfold_snoc, VF.out]; exact vstp_none' (.inr ⟨rfl, h0, by rw [HXT.out, HNX.out]; exact ht⟩))
              have e4 : (xt == nx) = false := by simp; exact ht
              have e5 : decide (xt = nx) = false := decide_eq_false ht
              have bF := b1.trans (b112.mono b1.size)
              go_upto_region 12 with fail
              rw [HW12.out]
              clear a0 a1 a2 ht
              have v0 := V.out.at_ 0 (by simp)
              have v1 := V.out.at_ 1 (by simp)
              have v2 := V.out.at_ 2 (by simp)
              simp only [List.getElem?_cons_succ, List.getElem?_cons_zero] at v0 v1 v2
              go_wp2_with fail
              go_ret2
              exact ⟨none, 0, 0, rfl, bF⟩
          · have e6 : decide (0 < tx) = false := decide_eq_false h0
            have VK : Hid (vfold ((l.take (j + 1)).map RV.r) = if x.r.k = 3 then some (on + 1, xt, false) else if chR x.r = none then none else some (on, xt, true)) := Lib.hid (by
              rw [HX2.out, vfold_snoc, VF.out, vstp_go (by simp; omega), HXT.out])
            go_upto_region 12 with fail
            rw [HW12.out]
            clear a0 a1 a2 h0
            have v0 := V.out.at_ 0 (by simp)
            have v1 := V.out.at_ 1 (by simp)
            have v2 := V.out.at_ 2 (by simp)
            simp only [List.getElem?_cons_succ, List.getElem?_cons_zero] at v0 v1 v2
            have XD12 : Hid (Rd W12 1 x.A xd x.c (bv x.d)) := Lib.hid (by rw [← HXD.out]; exact XD.out.below b112)
            have RH := rChange_any xk xt W12 XD12 (by rw [← HXD.out]; exact OKX.out.2.2.2.2.1) K12
            rw [show (⟨xk, xt, x.d⟩ : Rec) = x.r by rw [← HXK.out, ← HXT.out]; rfl] at RH
            cases hc : chR x.r with
            | none =>
              obtain rfl : vb = false := VNO.out (j + 1) (by rw [VK.out, if_neg HX3.out, if_pos hc])
              rw [hc] at RH
              have RH := Lib.hid RH
              clear hc
              go_wp2_with fail
              go_at_call 54
              refine RH.out.mono ?_
              rintro e w15 ⟨A1, A2, n1, c1, n2, c2, dl, rfl, b15⟩
              have bF := b1.trans ((b112.trans (b15.mono b112.size)).mono b1.size)
              have bF := bel_alloc bF (Nat.le_refl _) (.cells #[.slice A1 n1 c1, .slice A2 n2 c2, .bool dl] 52)
              clear v0 v1 v2
              dsimp only [Option.isSome]
              go_wp2_with fail
              go_ret2
              exact ⟨none, 0, 0, rfl, bF⟩
            | some ch =>
              have VK3 : Hid (vfold ((l.take (j + 1)).map RV.r) = some (on, xt, true)) := Lib.hid (by rw [VK.out, if_neg HX3.out, if_neg (by rw [hc]; simp)])
              rw [hc] at RH
              have RH := Lib.hid RH
              clear hc
              go_wp2_with fail
              go_at_call 54
              refine RH.out.mono ?_
              rintro e w15 ⟨A1, A2, n1, c1, n2, c2, dl, rfl, b15⟩
              have b115 := b112.trans (b15.mono b112.size)
              obtain ⟨q14, hq14⟩ : ∃ q14, w15.heap.size = q14 := ⟨_, rfl⟩
              obtain ⟨W16, hW16⟩ : ∃ W16, w15.alloc (.cells #[.slice A1 n1 c1, .slice A2 n2 c2, .bool dl] 52) = W16 := ⟨_, rfl⟩
              have b16 : Below w15.heap.size w15 W16 := hW16 ▸ bal _ _
              have T : Hid (Bx W16 q14 [.slice A1 n1 c1, .slice A2 n2 c2, .bool dl]) := hW16 ▸ Lib.hid (Bx.put _ hq14 #[.slice A1 n1 c1, .slice A2 n2 c2, .bool dl] 52)
              have TT : Hid (Ty W16 q14 52) := hW16 ▸ hq14 ▸ Lib.hid (Ty.new _ _ _)
              have HW16 := Lib.hid hW16
              clear hW16
              have b116 := b115.trans (b16.mono b115.size)
              clear v0 v1 v2
              have v0 := T.out.at_ 0 (by simp)
              have v1 := T.out.at_ 1 (by simp)
              have v2 := T.out.at_ 2 (by simp)
              simp only [List.getElem?_cons_succ, List.getElem?_cons_zero] at v0 v1 v2
              obtain ⟨ys, ox⟩ := OX.out
              obtain ⟨zs, nx⟩ := NX.out
              have b1216 := b12.trans ((b15.trans (b16.mono b15.size)).mono b12.size)
              have ox16 := Lib.hid (own_below (own_below ox b1216) (bal W16 (.cells #[.slice A1 n1 c1, .slice A2 n2 c2, .bool dl] 52)))
              have nx16 := Lib.hid (own_below (own_below nx b1216) (bal W16 (.cells #[.slice A1 n1 c1, .slice A2 n2 c2, .bool dl] 52)))
              have s16 := b116.size
              clear ox nx
              dsimp only [Option.isSome]
              go_upto_region 20 with fail
              rw [HW16.out]
              go_wp2_with (at_builtin; apply hold)
              unfold Hold
              refine wpList_app _ rfl (.tmp 84) (.tmp 86) 42 rfl w1.heap.size 52 i0 (.agg #[.slice none 0 0, .slice none 0 0, .bool false]) 3 56 Tryz.underlying42 hi hz0 hz1 hz2 rfl (by omega) (by rfl) nx16.out (by rfl) (Rd.lit W16 _ 3 #[.slice A1 n1 c1, .slice A2 n2 c2, .bool dl] 1 (by omega) rfl) (Wl.one3 _ _ _ rfl rfl rfl) (by omega) (by omega) (by simp; omega) ?_
              intro A4 c4 W4 own4 g4
              have b4 : Below w1.heap.size w1 W4 := g4.low (bel_alloc b116 (Nat.le_refl _) _) (by simp; omega) fun q e => (own_blk_le nx16.out e).1
              have O4 : Hid (∃ xs, W4.ownsRow w1.heap.size 52 3 (.slice A4 (nn + 1) c4) (nn + 1) xs) := Lib.hid ⟨_, own4⟩
              have X4 : Hid (∃ xs, W4.ownsRow w1.heap.size 42 1 (.slice OA on oc) on xs) := Lib.hid ⟨_, own_kp ox16.out (Kp.of_grew (X := fun q => blk NA = some q) g4 fun q e => e) fun q e e2 => ty_ne (own_type ox16.out e) (own_type nx16.out e2) (by decide) rfl⟩
              clear own4 g4 v0 v1 v2
              go_wp2_with fail
              go_roundw
              case rel => exact ⟨j + 1, on, oc, nn + 1, c4, OA, A4, xt, true, by omega, by omega, by omega, by first | rfl | go_num, rfl, rfl, rfl, rfl, VK3, X4, O4, Lib.hid (by have := XT.out; omega), b4⟩
              case measure => simp [intOf]; omega
    · obtain rfl : j = en := by omega
      have d1 : decide ((j : Int) < (j : Int)) = false := decide_eq_false (by omega)
      have V := VOK.out _ (by have h := VF.out; rw [List.take_of_length_le (by have := EN.out; omega)] at h; exact h)
      have bF := b1.trans (b2.mono b1.size)
      unfold vend at V
      dsimp only at V
      cases op with
      | true =>
        obtain rfl : vb = false := by rw [V]; simp
        clear V
        go_wp2_with fail
        go_ret2
        exact ⟨none, 0, 0, rfl, bF⟩
      | false =>
        by_cases h1 : last < (on : Int)
        · have d2 : decide (last < (on : Int)) = true := decide_eq_true h1
          obtain rfl : vb = false := by rw [V, d2]; simp
          clear V h1
          go_wp2_with fail
          go_ret2
          exact ⟨none, 0, 0, rfl, bF⟩
        have d2 : decide (last < (on : Int)) = false := decide_eq_false h1
        by_cases h2 : 0 < on
        · have d3 : decide (0 < (on : Int)) = true := decide_eq_true (by omega)
          by_cases h3 : tx = last
          · subst h3
            obtain rfl : vb = true := by rw [V, d2]; simp
            clear V h1
            go_wp2_with fail
            go_ret2
            exact ⟨OA, on, oc, rfl, bF⟩
          · have d4 : (tx == last) = false := by simp; exact h3
            have d5 : decide (tx = last) = false := decide_eq_false h3
            obtain rfl : vb = false := by rw [V]; simp [h2, h3]
            clear V h1 h3
            go_wp2_with fail
            go_ret2
            exact ⟨none, 0, 0, rfl, bF⟩
        · obtain rfl : on = 0 := by omega
          obtain rfl : vb = true := by rw [V]; simp; omega
          clear V h1 h2
          go_wp2_with fail
          go_ret2
          exact ⟨OA, 0, oc, rfl, bF⟩
end Go.Proofs.YtpmkohnljngbhaaGreatDoor.Sr
