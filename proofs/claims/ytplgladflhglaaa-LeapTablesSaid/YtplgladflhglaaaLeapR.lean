/- Walk of the reference's parsing of tables. -/
import Derived.Test.YtplgladflhglaaaLeapP
import Derived.OwnWalk
import Derived.WalkSmall
namespace Go.Proofs.Ytplgladflhglaaa.Lp
set_option linter.unusedVariables false
set_option linter.unusedSimpArgs false
open Go.RowKit

/-- The memory of the parsing: the result's cell, the table's cell, and its own row of steps. -/
structure RP (w wr : World) (l : List ByteArray) : Prop where
  bel : Below w.heap.size w wr
  sz : w.heap.size + 2 ≤ wr.heap.size
  fr : wr.frozen? ⟨w.heap.size, 0, none⟩ = false
  ft : wr.frozen? ⟨w.heap.size + 1, 0, none⟩ = false
  cr : ∃ v, wr.cell? ⟨w.heap.size, 0, none⟩ = some v
  ct : ∃ v, wr.cell? ⟨w.heap.size + 1, 0, none⟩ = some v ∧ wr.ownsRow (w.heap.size + 2) 43 2 v l.length (cl (stA l) l.length)
theorem own_below {W W' : World} {base n : Nat} {v : Value} {xs : List Value} (h : W.ownsRow base 43 2 v n xs) (hb : Below W.heap.size W W') : W'.ownsRow base 43 2 v n xs := by
  obtain ⟨h1, h | ⟨g, cap, cur, e, hg, hh, rest⟩⟩ := h
  · exact ⟨h1, .inl h⟩
  · exact ⟨h1, .inr ⟨g, cap, cur, e, hg, (hb.block g (Array.getElem?_eq_some_iff.1 hh).1).trans hh, rest⟩⟩
theorem RP.below {w wr wk : World} {l : List ByteArray} (h : RP w wr l) (hb : Below wr.heap.size wr wk) : RP w wk l := by
  obtain ⟨h1, h2, h3, h4, ⟨v, h5⟩, ⟨u, h6, h7⟩⟩ := h
  obtain ⟨bc, bf⟩ := bcell hb
  exact ⟨h1.trans (hb.mono h1.size), Nat.le_trans h2 hb.size, (bf _ _ (by omega)).trans h3, (bf _ _ (by omega)).trans h4, ⟨v, (bc _ _ (by omega)).trans h5⟩, ⟨u, (bc _ _ (by omega)).trans h6, own_below h7 hb⟩⟩
theorem dl_bd (c : ByteArray) : -800000 ≤ (M.dl c).1 ∧ (M.dl c).1 ≤ 3000000 := by
  unfold M.dl
  split
  · simp only []
    cases hv : M.vld (M.pn c 0 4) (M.pn c 5 2) (M.pn c 8 2)
    · rw [M.dy_f hv]; omega
    · rw [M.dy_t hv]
      obtain ⟨a1, a2, a3, a4, a5, a6⟩ := M.vld_bd hv
      have := M.cnt_bd (d := M.pn c 8 2) (show 1 ≤ M.pn c 0 4 ∧ M.pn c 0 4 ≤ 10000 by omega) ⟨a3, a4⟩
      omega
  · simp
theorem stA_bd (l : List ByteArray) {i : Nat} (hi : i < l.length) : -9223372036854775808 ≤ stA l i ∧ stA l i ≤ 9223372036854775807 := by
  unfold stA day
  rw [List.getD_eq_getElem?_getD, List.getElem?_map, List.getElem?_eq_getElem hi]
  have := dl_bd l[i]
  simp only [Option.map_some, Option.getD_some]
  omega
theorem heap_cell {A B : World} {p : Addr} (h : B.heap[p.block]? = A.heap[p.block]?) : B.cell? p = A.cell? p ∧ B.frozen? p = A.frozen? p := by
  unfold World.cell? World.frozen?; rw [h]; exact ⟨rfl, rfl⟩
/-- Behind an append and the store of the new slice. -/
theorem RP.push {w W1 w3 : World} {l : List ByteArray} {c : ByteArray} {v v' : Value} {xs : List Value} {o : Obj} (h : RP w W1 l) (hv : W1.cell? ⟨w.heap.size + 1, 0, none⟩ = some v) (hown : W1.ownsRow (w.heap.size + 2) 43 2 v l.length (cl (stA l) l.length))
    (hown' : w3.ownsRow (w.heap.size + 2) 43 2 v' (l.length + 1) xs) (hxs : xs = cl (stA (l ++ [c])) (l ++ [c]).length) (hg : (W1.alloc o).grownBy w3 v.ownBlock) :
    RP w (w3.setCell ⟨w.heap.size + 1, 0, none⟩ v') (l ++ [c]) ∧ w3.cell? ⟨w.heap.size + 1, 0, none⟩ = some v ∧ w3.frozen? ⟨w.heap.size + 1, 0, none⟩ = false := by
  obtain ⟨h1, h2, h3, h4, ⟨u, h5⟩, _⟩ := h
  have hlt : ∀ r, v.ownBlock = some r → w.heap.size + 2 ≤ r := fun r hr => by
    obtain ⟨_, ⟨rfl, _⟩ | ⟨g, cap, cur, rfl, hb, _⟩⟩ := hown
    · cases hr
    · cases hr; exact hb
  have hk : ∀ k, k < w.heap.size + 2 → w3.heap[k]? = W1.heap[k]? := fun k hk => by
    rw [hg.block k (by simp; omega) (fun e => by have := hlt k e.symm; omega)]
    exact Below.heap_alloc _ _ _ (by omega)
  have k0 := heap_cell (p := ⟨w.heap.size, 0, none⟩) (hk _ (by show w.heap.size < _; omega))
  have k1 := heap_cell (p := ⟨w.heap.size + 1, 0, none⟩) (hk _ (by show w.heap.size + 1 < _; omega))
  have hsz : W1.heap.size + 1 ≤ w3.heap.size := by have := hg.size; simpa using this
  have hb3 : Below w.heap.size w w3 := Below.grown (h1.alloc (by omega) _) hg (by simp; omega) (fun j hj => by have := hlt j hj; omega)
  have cv : w3.cell? ⟨w.heap.size + 1, 0, none⟩ = some v := k1.1.trans hv
  refine ⟨⟨hb3.setCell (by simp) _, by simp [World.setCell]; omega, by rw [World.frozen?_setCell]; exact k0.2.trans h3, by rw [World.frozen?_setCell]; exact k1.2.trans h4, ⟨u, (setCell_other (by show w.heap.size ≠ w.heap.size + 1; omega)).trans (k0.1.trans h5)⟩, v', World.cell?_setCell_same' _ _ _ (by rw [cv]; rfl), ?_⟩, cv, k1.2.trans h4⟩
  subst hxs
  rw [List.length_append, List.length_singleton] at hown' ⊢
  obtain ⟨q1, q | ⟨g, cap, cur, e, hgb, hh, rest⟩⟩ := hown'
  · exact ⟨q1, .inl q⟩
  · exact ⟨q1, .inr ⟨g, cap, cur, e, hgb, (Below.heap_setCell w3 ⟨w.heap.size + 1, 0, none⟩ v' g (by show g ≠ w.heap.size + 1; omega)).trans hh, rest⟩⟩

theorem own_shape {W : World} {base n : Nat} {v : Value} {xs : List Value} (h : W.ownsRow base 43 2 v n xs) : ∃ sl cap, v = .slice sl n cap := by
  obtain ⟨_, ⟨rfl, rfl⟩ | ⟨g, cap, cur, e, _⟩⟩ := h
  · exact ⟨none, 0, rfl⟩
  · exact ⟨_, cap, e⟩
theorem ret_lp {a b : Value} {x y : Int} (h : a = b) (g : x = y) : Ending.returned (.tuple #[a, .int .i64 x]) = .returned (.tuple #[b, .int .i64 y]) := by rw [h, g]
theorem tab_nil (W : World) (A T : Nat → Int) : Tab W none 0 0 0 A T := ⟨fun h => by omega, fun h => by omega, fun i h => by omega, fun i h => by omega, fun i h => by omega, fun i h => by omega, by omega⟩

set_option maxHeartbeats 4000000 in
set_option maxRecDepth 100000 in
set_option maxHeartbeats 4000000 in
theorem rParse_any (s : ByteArray) (w : World) (hs : s.size ≤ 9223372036854775807) : Calls Try.prog 21 #[.string s] w fun e w' =>
    ∃ sl cap g, e = .returned (.tuple #[.agg #[.slice sl (lpz s).1.length cap], .int .i64 (lpz s).2]) ∧ Below w.heap.size w w' ∧ Tab w' sl (lpz s).1.length g 0 (stA (lpz s).1) stT := by
  by_cases h2 : 2000 < s.size
  · have R := lpz_5 h2
    have h2' : (2000 : Int) < s.size := by omega
    rw [R]
    clear R
    go_enter Try.func21, Try.ntmps21
    go_wp2
    exact bodyPost_ret (v := .tuple #[.agg #[.slice none 0 0], .int .i64 5]) (by simp [results, Try.results21, go_sem]) rfl ⟨none, 0, 0, rfl, (Below.refl _ _).alloc (Nat.le_refl _) _, tab_nil _ _ _⟩
  · have hsz : s.size ≤ 2000 := by omega
    obtain ⟨i0, hi, hz0, hz1, hz2⟩ := info_parts (by kernel_rfl : (Try.prog.info? 43).map (fun i => (i.zero, i.size, i.bytes)) = some (some (.agg #[.int .i64 0, .int .i64 0]), 2, 16))
    go_enter Try.func21, Try.ntmps21
    go_wp2
    go_loopw [5, 6] (fun f i wr => ∃ (F I : Nat) (l : List ByteArray), f = .int .i64 F ∧ i = .int .i64 I ∧ F ≤ I ∧ I ≤ s.size ∧ l.length ≤ F ∧ Hid (RP w wr l) ∧ Hid (okAll l) ∧ Hid (∀ k, F ≤ k → k < I → M.ch s k ≠ 10) ∧ Hid (cts s.size s = (l ++ (cts s.size (s.extract F s.size)).1, (cts s.size (s.extract F s.size)).2))) (fun _ i _ => (s.size - intOf i).toNat)
    case atStart =>
      refine ⟨0, 0, [], rfl, rfl, by omega, by omega, by simp, Lib.hid ⟨((Below.refl _ _).alloc (Nat.le_refl _) _).alloc (by simp) _, by simp, by simp [go_sem], by simp [go_sem], ⟨_, by simp [go_sem]; rfl⟩, ⟨.slice none 0 0, by simp [go_sem], World.ownsRow_nil _ _ _ _⟩⟩, Lib.hid (fun c hc => by cases hc), Lib.hid (fun k a b => by omega), Lib.hid ?_⟩
      rw [show s.extract 0 s.size = s by simp]; simp
    case round =>
      obtain ⟨F, I, l, rfl, rfl, hFI, hI, hlF, hrp, hok, hno, hct⟩ := hrel
      have hRP := hrp.out
      have bz := hRP.bel.size
      have sz2 := hRP.sz
      have z0 : w.heap.size < wr.heap.size := by omega
      have z1 : w.heap.size + 1 < wr.heap.size := by omega
      by_cases hlt : I < s.size
      · have E := M.ch_eq s I hlt
        by_cases hc : M.ch s I = 10
        · have e10 : ((s[I].toNat : Int) != 10) = false := by rw [E]; simp [hc]
          obtain ⟨c, hcc⟩ : ∃ c, s.extract F I = c := ⟨_, rfl⟩
          have hct' : Hid (cts s.size s = ((l ++ [c]) ++ (cts s.size (s.extract (I + 1) s.size)).1, (cts s.size (s.extract (I + 1) s.size)).2)) := Lib.hid (by
            rw [hct.out, cts_end hFI hlt hc hno.out, hcc]; simp)
          have csz : c.size ≤ 9223372036854775807 := by rw [← hcc]; simp [ByteArray.size_extract]; omega
          have HD : Hid (∀ w, Calls Try.prog 40 #[.string c] w fun e w' => e = .returned (.tuple #[.int .i64 (M.dl c).1, .bool (M.dl c).2]) ∧ Below w.heap.size w w') := Lib.hid fun w => date_any c w csz
          obtain ⟨db1, db2⟩ := dl_bd c
          have hFs : F ≤ s.size := by omega
          have SN := Lib.hid (cl_snoc l c)
          obtain ⟨D, hD⟩ : ∃ D, (M.dl c).1 = D := ⟨_, rfl⟩
          rw [hD] at HD db1 db2 SN
          rcases hb : (M.dl c).2 with _ | _
          · have R : Hid (lpz s = ([], 3)) := Lib.hid (lpz_3 h2 (.inr fun h => by
              have := h c (by rw [hct'.out]; simp)
              rw [hb] at this; cases this))
            rw [hb] at HD
            clear hc hb hD E hRP
            go_wp2_with (go_at_call 40; refine (HD.out _).mono ?_; rintro e W1 ⟨rfl, hb1⟩; have hR1 := hrp.out.below hb1; obtain ⟨v0, q0⟩ := hR1.cr; have f0 := hR1.fr; have hbel := hR1.bel; clear hR1)
            rw [R.out]
            exact bodyPost_ret (v := .tuple #[.agg #[.slice none 0 0], .int .i64 3]) (by simp [results, Try.results21, go_sem, q0]) rfl ⟨none, 0, 0, rfl, hbel.setCell (by simp) _, tab_nil _ _ _⟩
          · rw [hb] at HD
            have hok' : Hid (okAll (l ++ [c])) := Lib.hid fun x hx => by
              rcases List.mem_append.1 hx with h | h
              · exact hok.out x h
              · rw [List.mem_singleton.1 h]; exact hb
            clear hc hb hD E hRP
            go_wp2_with (first
              | (go_at_call 40; refine (HD.out _).mono ?_; rintro e W1 ⟨rfl, hb1⟩; have hR1 := Lib.hid (hrp.out.below hb1); obtain ⟨v, q1, hown⟩ := hR1.out.ct; obtain ⟨sl, cap, hvv⟩ := own_shape hown; subst hvv; have HO := Lib.hid hown; clear hown; have zz0 : w.heap.size + 2 ≤ W1.heap.size := hR1.out.sz; have zz1 : w.heap.size + 1 < W1.heap.size := by omega)
              | (at_builtin; refine wpList_append_own _ rfl _ _ 22 rfl (w.heap.size + 2) 43 i0 (.agg #[.int .i64 0, .int .i64 0]) 2 16 Try.underlying22 hi hz0 hz1 hz2 rfl (by decide) _ _ _ rfl (own_below HO.out ((Below.refl W1.heap.size W1).alloc (Nat.le_refl _) _)) ⟨W1.heap.size, 0, none⟩ 1 1 [.int .i64 ((D + 1) * 86400), .int .i64 ((l.length : Int) + 1)] rfl rfl (cell_two_new _ _ _ _) (fun x hx => by simp at hx; rcases hx with rfl | rfl <;> rfl) (by unfold maxLen; omega) (by omega) (by simp; omega) ?_; intro v' w3 hown' hgrow3 hnil3; obtain ⟨sl', cap', hvv'⟩ := own_shape hown'; subst hvv'; have PU := hR1.out.push (c := c) q1 HO.out hown' SN.out.symm hgrow3; have RN := Lib.hid PU.1; have q3 := PU.2.1; have f3 := PU.2.2; clear PU hown' hgrow3 hnil3))
            go_roundw
            case rel => exact ⟨I + 1, I + 1, l ++ [c], rfl, rfl, by omega, by omega, by simp; omega, RN, hok', Lib.hid (fun k a b => by omega), hct'⟩
            case measure => simp [intOf]; omega
        · have e10 : ((s[I].toNat : Int) != 10) = true := by rw [E]; simp [hc]
          have nx : Hid (∀ k, F ≤ k → k < I + 1 → M.ch s k ≠ 10) := Lib.hid fun k a b => by
            by_cases e : k = I
            · subst e; exact hc
            · exact hno.out k a (by omega)
          clear hc E hRP
          go_wp2
          go_roundw
          case rel => exact ⟨F, I + 1, l, rfl, by go_num, by omega, by omega, hlF, hrp, hok, nx, hct⟩
          case measure => simp [intOf]; omega
      · obtain rfl : I = s.size := by omega
        obtain ⟨v0, q0⟩ := hRP.cr
        have f0 := hRP.fr
        have hbel := hRP.bel
        by_cases hF : F < s.size
        · have R : Hid (lpz s = ([], 3)) := Lib.hid (lpz_3 h2 (.inl (by rw [hct.out, cts_rest hF hno.out])))
          have hF' : (F : Int) < s.size := by omega
          clear hRP hF
          go_wp2
          rw [R.out]
          exact bodyPost_ret (v := .tuple #[.agg #[.slice none 0 0], .int .i64 3]) (by simp [results, Try.results21, go_sem, q0]) rfl ⟨none, 0, 0, rfl, hbel.setCell (by simp) _, tab_nil _ _ _⟩
        · obtain rfl : F = s.size := by omega
          have hcs : cts s.size s = (l, false) := by
            rw [hct.out, cts_nil _ (by simp [ByteArray.size_extract])]; simp
          obtain ⟨v, q1, hown⟩ := hRP.ct
          obtain ⟨sl, cap, g, hvv, T1, hgb⟩ := row_tab hown (fun i hi => stA_bd l hi) (by omega)
          subst hvv
          have HT := Lib.hid T1
          rcases hv : M.okb l.length (stA l) stT with _ | _
          · have V := Lib.hid hv
            have R : Hid (lpz s = ([], 1)) := Lib.hid (lpz_1 h2 hcs hok.out hv)
            clear hRP hF hv hcs T1 hown
            go_wp2_with (go_at_call 15; refine (rValid_at _ HT V).mono ?_; rintro e W1 ⟨rfl, hb1⟩; have q0' : W1.cell? ⟨w.heap.size, 0, none⟩ = some v0 := ((bcell hb1).1 _ 0 z0).trans q0; have f0' : W1.frozen? ⟨w.heap.size, 0, none⟩ = false := ((bcell hb1).2 _ 0 z0).trans f0)
            rw [R.out]
            exact bodyPost_ret (v := .tuple #[.agg #[.slice none 0 0], .int .i64 1]) (by simp [results, Try.results21, go_sem, q0']) rfl ⟨none, 0, 0, rfl, (hbel.trans (hb1.mono bz)).setCell (by simp) _, tab_nil _ _ _⟩
          · have V := Lib.hid hv
            have R : Hid (lpz s = (l, 0)) := Lib.hid (lpz_0 h2 hcs hok.out hv)
            clear hRP hF hv hcs T1 hown
            go_wp2_with (go_at_call 15; refine (rValid_at _ HT V).mono ?_; rintro e W1 ⟨rfl, hb1⟩; have q0' : W1.cell? ⟨w.heap.size, 0, none⟩ = some v0 := ((bcell hb1).1 _ 0 z0).trans q0; have f0' : W1.frozen? ⟨w.heap.size, 0, none⟩ = false := ((bcell hb1).2 _ 0 z0).trans f0; have q1' : W1.cell? ⟨w.heap.size + 1, 0, none⟩ = some (.slice sl l.length cap) := ((bcell hb1).1 _ 0 z1).trans q1)
            rw [R.out]
            have TW := HT.out.below hb1
            exact bodyPost_ret (v := .tuple #[.agg #[.slice sl l.length cap], .int .i64 0]) (by simp [results, Try.results21, go_sem, q0']) rfl ⟨sl, cap, g, rfl, (hbel.trans (hb1.mono bz)).setCell (by simp) _, TW.setCell _ _ (fun h0 => by have := hgb h0; show g ≠ w.heap.size; omega)⟩

end Go.Proofs.Ytplgladflhglaaa.Lp
