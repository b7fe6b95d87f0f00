/- Walks: Repair, by the program and by the reference. -/
import Derived.Test.YtfkeedeiafegiaaWalT
import Derived.Test.YtfkeedeiafegiaaWalW17
namespace Go.Proofs.Ytfkeedeiafegiaa.Wl
set_option linter.unusedVariables false
set_option linter.unusedSimpArgs false
open Go.RowKit

set_option maxHeartbeats 1600000 in
theorem Repair_any {A : Option Addr} {n c : Nat} {b : List UInt8} (w : World) (hl : Hid (n = b.length)) (h : Hid (Rd w 1 A n c (bv b))) (hn : n ≤ 1073741824) :
    Calls Try.prog 35 #[.slice A n c] w (Mk w (rend b) (b.take (rend b))) := by
  have hnc := h.out.nc
  have hc63 := h.out.c63
  go_enter Try.func35, Try.ntmps35
  go_wp2_with fail
  go_loopw [3, 4, 5, 6, 7] (fun v i _ _ _ wr => ∃ (l : List RV) (en a : Nat), v = .int .i64 en ∧ i = .int .i64 a ∧ a ≤ n ∧ en ≤ n ∧ Hid (en = (encs (upc (l.map RV.r))).length) ∧ Hid (Got b l a) ∧ Below w.heap.size w wr) (fun _ i _ _ _ _ => (n - intOf i).toNat)
  case atStart => exact ⟨[], 0, 0, rfl, rfl, by omega, by omega, Lib.hid rfl, Lib.hid (Got.nil b), Below.refl _ _⟩
  case round =>
    obtain ⟨l, en, a, rfl, rfl, ha, hen, he, gt, bw⟩ := hrel
    have hrd := Lib.hid (h.out.below bw)
    have fin : ∀ {w1 : World}, one (b.drop a) = none → Below wr.heap.size wr w1 → Hid (Rd w1 1 A en c (bv (b.take en))) ∧ Hid (en = rend b) ∧ Below w.heap.size w w1 := fun {w1} ho b1 => by
      have R := gt.out.all ho
      exact ⟨Lib.hid ((hrd.out.below b1).upto1 hen), Lib.hid (by rw [he.out, R.1]; rfl), bw.trans (b1.mono bw.size)⟩
    by_cases han : a < n
    · obtain ⟨g, o, rfl, hg, _⟩ := h.out.at_ (by omega)
      have hca : ¬ c = a := by omega
      go_wp2_with fail
      go_at_call 49
      refine (one_any (b := b.drop a) _ (Lib.hid (by have := hl.out; simp; omega)) (Lib.hid (hrd.out.tail (lo := a) (by omega))) (by omega)).mono ?_
      rintro e w1 (⟨ho, rfl, b1⟩ | ⟨r, m, A2, c2, ho, hm, rfl, own, b1⟩)
      · obtain ⟨rd1, ee, bw1⟩ := fin ho b1
        clear ho b1 fin
        have rd2 := Lib.hid (rd1.out.alloc (.cells #[.int .i64 0, .int .i64 0, .slice none 0 0] 24))
        go_wp2_with fail
        go_at_call 28
        refine (clone_any _ rd2 (by omega)).mono ?_
        rintro e w2 ⟨A2, c2, rfl, own2, b2⟩
        go_wp2_with fail
        go_ret
        rw [← ee.out]
        exact ⟨A2, c2, rfl, own_base own2 (by have := bw1.size; simp; omega), (bel_alloc bw1 (Nat.le_refl _) _).trans (b2.mono (by have := bw1.size; simp; omega))⟩
      · have hle := congrArg List.length (one_some ho).2
        rw [List.length_append, enc_len, List.length_drop, List.length_drop, ← hm, ← hl.out] at hle
        have hok := (one_some ho).1
        have hm' : m ≤ 4096 := by rw [hm]; exact ok_len hok
        have GT := Lib.hid (gt.out.push ho ⟨r.k, r.t, A2, c2, r.d⟩ rfl)
        have HM := Lib.hid hm
        have bw1 := bel_alloc (bw.trans (b1.mono bw.size)) (Nat.le_refl _) (.cells #[.int .i64 r.k, .int .i64 r.t, .slice A2 m c2] 24)
        have hlen : a + (21 + m) ≤ n := by omega
        clear hle hok hm ho own b1 fin
        by_cases hk : r.k = 3
        · have he2 : Hid (a + (21 + m) = (encs (upc ((l ++ [(⟨r.k, r.t, A2, c2, r.d⟩ : RV)]).map RV.r))).length) := Lib.hid (by
            rw [List.map_append, List.map_cons, List.map_nil, upc_snoc, if_pos (show (RV.r (⟨r.k, r.t, A2, c2, r.d⟩ : RV)).k = 3 from hk)]
            have := GT.out.len
            rw [← HM.out] at this
            rw [this]; simp)
          rw [hk] at bw1
          go_wp2_with fail
          go_roundw
          case rel => exact ⟨_, a + (21 + m), a + (21 + m), by go_num, by go_num, hlen, hlen, he2, Lib.hid (by have := GT.out; rwa [← HM.out] at this), bw1⟩
          case measure => simp [intOf]; omega
        · have he2 : Hid (en = (encs (upc ((l ++ [(⟨r.k, r.t, A2, c2, r.d⟩ : RV)]).map RV.r))).length) := Lib.hid (by
            rw [List.map_append, List.map_cons, List.map_nil, upc_snoc, if_neg (show ¬ (RV.r (⟨r.k, r.t, A2, c2, r.d⟩ : RV)).k = 3 from hk)]; exact he.out)
          go_wp2_with fail
          go_roundw
          case rel => exact ⟨_, en, a + (21 + m), by go_num, by go_num, hlen, hen, he2, Lib.hid (by have := GT.out; rwa [← HM.out] at this), bw1⟩
          case measure => simp [intOf]; omega
    · obtain rfl : a = n := by omega
      have ho : one (b.drop a) = none := one_short (by have := hl.out; simp; omega)
      by_cases hca : c = a
      · subst hca
        have hr0 := Lib.hid (hrd.out.end_ (A' := A) (c' := 0) (fun _ => rfl) hl.out.symm (by omega))
        go_wp2_with fail
        go_at_call 49
        refine (one_any (n := 0) (c := 0) (b := b.drop c) _ (Lib.hid (by have := hl.out; simp; omega)) hr0 (by omega)).mono ?_
        rintro e w1 (⟨_, rfl, b1⟩ | ⟨r, m, A2, c2, ho', _⟩)
        · obtain ⟨rd1, ee, bw1⟩ := fin ho b1
          clear ho b1 fin
          have rd2 := Lib.hid (rd1.out.alloc (.cells #[.int .i64 0, .int .i64 0, .slice none 0 0] 24))
          go_wp2_with fail
          go_at_call 28
          refine (clone_any _ rd2 (by omega)).mono ?_
          rintro e w2 ⟨A2, c2, rfl, own2, b2⟩
          go_wp2_with fail
          go_ret
          rw [← ee.out]
          exact ⟨A2, c2, rfl, own_base own2 (by have := bw1.size; simp; omega), (bel_alloc bw1 (Nat.le_refl _) _).trans (b2.mono (by have := bw1.size; simp; omega))⟩
        · rw [ho'] at ho; cases ho
      · have hr0 := Lib.hid (hrd.out.end_ (A' := Option.map (fun x => x.add a) A) (c' := c - a) (fun e => by
          rcases A with _ | q
          · have := h.out.nil rfl; omega
          · cases e) hl.out.symm rfl)
        go_wp2_with fail
        go_at_call 49
        refine (one_any (n := 0) (c := c - a) (b := b.drop a) _ (Lib.hid (by have := hl.out; simp; omega)) hr0 (by omega)).mono ?_
        rintro e w1 (⟨_, rfl, b1⟩ | ⟨r, m, A2, c2, ho', _⟩)
        · obtain ⟨rd1, ee, bw1⟩ := fin ho b1
          clear ho b1 fin
          have rd2 := Lib.hid (rd1.out.alloc (.cells #[.int .i64 0, .int .i64 0, .slice none 0 0] 24))
          go_wp2_with fail
          go_at_call 28
          refine (clone_any _ rd2 (by omega)).mono ?_
          rintro e w2 ⟨A2, c2, rfl, own2, b2⟩
          go_wp2_with fail
          go_ret
          rw [← ee.out]
          exact ⟨A2, c2, rfl, own_base own2 (by have := bw1.size; simp; omega), (bel_alloc bw1 (Nat.le_refl _) _).trans (b2.mono (by have := bw1.size; simp; omega))⟩
        · rw [ho'] at ho; cases ho

theorem take_map {l : List RV} {k : Nat} {x : RV} (h : l[k]? = some x) : (l.take (k + 1)).map RV.r = (l.take k).map RV.r ++ [x.r] := by rw [take_rv h, List.map_append]; rfl
set_option maxHeartbeats 1600000 in
theorem rRepair_any {A : Option Addr} {n c : Nat} {b : List UInt8} (w : World) (hl : Hid (n = b.length)) (h : Hid (Rd w 1 A n c (bv b))) (hn : n ≤ 1073741824) :
    Calls Try.prog 36 #[.slice A n c] w (Mk w (rend b) (b.take (rend b))) := by
  go_enter Try.func36, Try.ntmps36
  go_wp2_with fail
  go_at_call 20
  refine (rRead_any _ hl h hn).mono ?_
  rintro e w1 ⟨A1, n1, c1, l, rfl, hlr, rs, b1⟩
  have S1 := Lib.hid rs.rr
  have HLR := Lib.hid hlr
  have hnc := S1.out.row.nc
  have hc63 := S1.out.row.c63
  have htot : Hid ((encs (l.map RV.r)).length ≤ n) := Lib.hid (by have := glen_le b; rw [hlr, hl.out]; exact this)
  have h1 := Lib.hid (h.out.below b1)
  clear rs hlr
  have hpre : Hid (∀ j, (encs ((l.take j).map RV.r)).length ≤ n) := Lib.hid fun j => by
    have := encs_take_le (l.map RV.r) j
    rw [← List.map_take] at this
    have := htot.out; omega
  go_wp2_with fail
  go_loopw [5, 6, 7] (fun a v i wr => ∃ (j at_ en : Nat), j ≤ n1 ∧ i = .int .i64 j ∧ a = .int .i64 at_ ∧ v = .int .i64 en ∧ at_ ≤ n ∧ en ≤ n ∧ Hid (at_ = (encs ((l.take j).map RV.r)).length) ∧ Hid (en = (encs (upc ((l.take j).map RV.r))).length) ∧ Below w1.heap.size w1 wr) (fun _ _ i _ => (n1 - intOf i).toNat)
  case atStart => exact ⟨0, 0, 0, by omega, rfl, rfl, rfl, by omega, by omega, Lib.hid rfl, Lib.hid rfl, Below.refl _ _⟩
  case round =>
    obtain ⟨j, at_, en, hj, rfl, rfl, rfl, ha, hen, hat, he, bw⟩ := hrel
    by_cases hlt : j < n1
    · obtain ⟨g, o, x, rfl, hg, hx, hxm, a0, a1, a2⟩ := (S1.out.below bw).rec_ hlt
      have HX := Lib.hid (take_map hx)
      obtain ⟨nx, hnx⟩ : ∃ nx, x.d.length = nx := ⟨_, rfl⟩
      rw [hnx] at a2
      have HE : Hid (at_ + (21 + nx) = (encs ((l.take (j + 1)).map RV.r)).length) := Lib.hid (by
        rw [HX.out, encs_snoc, List.length_append, enc_len, ← hat.out]; show _ = _ + (21 + x.d.length); rw [hnx])
      have hle : at_ + (21 + nx) ≤ n := by rw [HE.out]; exact hpre.out _
      clear hnx hx
      by_cases hk : x.k = 3
      · have he2 : Hid (at_ + (21 + nx) = (encs (upc ((l.take (j + 1)).map RV.r))).length) := Lib.hid (by
          rw [HX.out, upc_snoc, if_pos (show x.r.k = 3 from hk), ← HX.out]; exact HE.out)
        go_wp2_with fail
        go_roundw
        case rel => exact ⟨j + 1, at_ + (21 + nx), at_ + (21 + nx), by omega, by go_num, by go_num, by go_num, hle, hle, HE, he2, bw⟩
        case measure => simp [intOf]; omega
      · have he2 : Hid (en = (encs (upc ((l.take (j + 1)).map RV.r))).length) := Lib.hid (by
          rw [HX.out, upc_snoc, if_neg (show ¬ x.r.k = 3 from hk)]; exact he.out)
        go_wp2_with fail
        go_roundw
        case rel => exact ⟨j + 1, at_ + (21 + nx), en, by omega, by go_num, by go_num, rfl, hle, hen, HE, he2, bw⟩
        case measure => simp [intOf]; omega
    · obtain rfl : j = n1 := by omega
      have hlj : Hid (l.take j = l) := Lib.hid (List.take_of_length_le (by have := S1.out.len; omega))
      have hen2 : Hid (en = rend b) := Lib.hid (by rw [he.out, hlj.out, HLR.out]; rfl)
      have h2 := Lib.hid (h1.out.below bw)
      have bF := b1.trans (bw.mono b1.size)
      go_wp2_with fail
      go_at_call 34
      refine (rCut_any (en : Int) _ hl h2 hn (by omega) (by omega)).mono ?_
      rintro e w2 ⟨A2, c2, rfl, own2, b2⟩
      have hc : cutN (en : Int) n = en := by unfold cutN; split; omega; split <;> omega
      rw [hc] at own2 ⊢
      go_wp2_with fail
      go_ret
      rw [← hen2.out]
      exact ⟨A2, c2, rfl, own_base own2 bF.size, bF.trans (b2.mono bF.size)⟩
end Go.Proofs.Ytfkeedeiafegiaa.Wl
