/- Walk: the reference's Transactions. -/
import Derived.Test.YtfkeedeiafegiaaWalW20
import Derived.Test.YtfkeedeiafegiaaWalT2
import Derived.Deep.OwnRows
namespace Go.Proofs.Ytfkeedeiafegiaa.Wl
set_option linter.unusedVariables false
set_option linter.unusedSimpArgs false
open Go.RowKit

/-- Rows of records, each a row of the call's own. -/
structure Tq (w : World) (base : Nat) (A : Option Addr) (n c : Nat) (out : List GV) (l : List RV) : Prop where
  row : w.ownsRow base 33 1 (.slice A n c) n (out.map GV.v)
  dat : ∀ g ∈ out, w.ownsRow base 24 3 (.slice g.A g.n g.c) g.n (cells g.l)
  sub : ∀ g ∈ out, ∀ x ∈ g.l, x ∈ l
section
variable {w w' : World} {base n c : Nat} {A : Option Addr} {out : List GV} {l : List RV}
theorem Tq.len (h : Tq w base A n c out l) : n = out.length := by have := h.row.1; simp at this; omega
theorem Tq.below (h : Tq w base A n c out l) (hb : Below w.heap.size w w') : Tq w' base A n c out l := ⟨own_below h.row hb, fun g hg => own_below (h.dat g hg) hb, h.sub⟩
theorem Tq.nil_ (w : World) (base : Nat) (l : List RV) : Tq w base none 0 0 [] l := ⟨World.ownsRow_nil _ _ _ _, by simp, by simp⟩
/-- A row of another type grows or turns. -/
theorem Tq.kept (h : Tq w base A n c out l) {row : Option Nat} (g : w.grownBy w' row) (h1 : blk A = none ∨ blk A ≠ row) (h2 : ∀ x ∈ out, blk x.A = none ∨ blk x.A ≠ row) : Tq w' base A n c out l :=
  ⟨h.row.kept g (by rw [own_blk]; exact h1), fun x hx => (h.dat x hx).kept g (by rw [own_blk]; exact h2 x hx), h.sub⟩
theorem Tq.at_ (h : Tq w base A n c out l) {i : Nat} (hi : i < n) : ∃ g x, A = some ⟨g, 0, none⟩ ∧ g < w.heap.size ∧ out[i]? = some x ∧ x ∈ out ∧ w.cell? ⟨g, i, none⟩ = some (.slice x.A x.n x.c) := by
  obtain ⟨g, o, e, hb, hc⟩ := (Rd.of_own h.row).at_ (by omega)
  obtain ⟨g', e', _⟩ := own_pos h.row (by omega)
  obtain ⟨rfl, rfl⟩ : g' = g ∧ o = 0 := by rw [e'] at e; injection e with e; injection e with e1 e2; exact ⟨e1, e2.symm⟩
  have hl := h.len
  have hx : out[i]? = some (out[i]'(by omega)) := List.getElem?_eq_getElem (by omega)
  refine ⟨g', _, e, hb, hx, List.getElem_mem _, ?_⟩
  have := hc i (by omega)
  rw [Nat.zero_add, List.getElem?_map, hx] at this
  exact this
theorem Tq.rr {W : World} {B : Option Addr} {m d : Nat} (h : Tq w base A n c out l) (hr : Rr W B m d l) (hb : Below W.heap.size W w) {g : GV} (hg : g ∈ out) : Rr w g.A g.n g.c g.l :=
  ⟨Rd.of_own (h.dat g hg), fun x hx => (hr.dat x (h.sub g hg x hx)).below hb⟩
end
theorem info_row : (Try.prog.info? 33).map (fun i => (i.zero, i.size, i.bytes)) = some (some (.slice none 0 0), 1, 24) := by kernel_rfl
theorem info_bool : (Try.prog.info? 4).map (fun i => (i.zero, i.size, i.bytes)) = some (some (.bool false), 1, 1) := by kernel_rfl
theorem Rr.at3 {w : World} {g o n c i : Nat} {l : List RV} {x : RV} (h : Rr w (some ⟨g, o, none⟩) n c l) (hx : l[i]? = some x) :
    g < w.heap.size ∧ w.cell? ⟨g, o + i * 3, none⟩ = some (.int .i64 x.k) ∧ w.cell? ⟨g, o + i * 3 + 1, none⟩ = some (.int .i64 x.t) ∧ w.cell? ⟨g, o + i * 3 + 2, none⟩ = some (.slice x.A x.d.length x.c) := by
  have hi := (List.getElem?_eq_some_iff.1 hx).1
  have hn := h.len
  obtain ⟨g', o', x', e, hg, hx', _, a0, a1, a2⟩ := h.rec_ (i := i) (by omega)
  injection e with e
  injection e with e1 e2
  subst e1 e2
  rw [hx] at hx'
  obtain rfl := Option.some.inj hx'
  exact ⟨hg, a0, a1, a2⟩
def bb (D : List Bool) : List Value := D.map Value.bool
set_option maxHeartbeats 3200000 in
set_option maxRecDepth 20000 in
theorem rTransactions_any {A : Option Addr} {n c : Nat} {l : List RV} (f : Int) (w : World) (h : Hid (Rr w A n c l)) (hok : Hid (∀ x ∈ l, ok x.r)) (hn : n ≤ 1073741824) :
    Calls Try.prog 54 #[.slice A n c, .int .i64 f] w fun e w' => ∃ A1 n1 c1 out, e = .returned (.slice A1 n1 c1) ∧ Tq w' w.heap.size A1 n1 c1 out l ∧ out.map (fun g => g.l.map RV.r) = rtr (l.map RV.r) f ∧ n1 ≤ n ∧ Below w.heap.size w w' := by
  obtain ⟨i0, hi, hz0, hz1, hz2⟩ := info_parts info_rec
  obtain ⟨j0, kj, kz0, kz1, kz2⟩ := info_parts info_row
  have hmk := run_make_row' (P := Try.prog) 80 4 (.bool false) 1 Try.underlying80 info_bool rfl .i64 .i64 n (by omega) (by omega)
  have hnc := h.out.row.nc
  have hc63 := h.out.row.c63
  have hnl := Lib.hid h.out.len
  go_enter Try.func54, Try.ntmps54
  go_wp2_with fail
  obtain ⟨W1, hW1⟩ : ∃ W1, w.alloc (.cells (madeCells #[.bool false] n) 4) = W1 := ⟨_, rfl⟩
  have bw1 : Below w.heap.size w W1 := hW1 ▸ (Below.refl _ _).alloc (Nat.le_refl _) _
  have dn1 : Hid (W1.ownsRow w.heap.size 4 1 (.slice (some ⟨w.heap.size, 0, none⟩) n n) n (bb (List.replicate n false))) := Lib.hid (by
    have := own_lit w (base := w.heap.size) 4 1 (madeCells #[.bool false] n) n (Nat.le_refl _) (by unfold maxLen; omega) (by rw [size_madeCells]; omega)
    rw [toList_madeCells_one, hW1] at this
    unfold bb; rw [List.map_replicate]; exact this)
  rw [hW1]
  clear hW1 hmk
  go_loopw [5, 7] (fun v iv wr => ∃ (i : Nat) (D : List Bool) (Ao : Option Addr) (no co : Nat) (out : List GV), i ≤ n ∧ no ≤ i ∧ iv = .int .i64 i ∧ v = .slice Ao no co ∧ Hid (wr.ownsRow w.heap.size 4 1 (.slice (some ⟨w.heap.size, 0, none⟩) n n) n (bb D)) ∧ Hid (Out l D i n) ∧
    Hid (Tq wr w.heap.size Ao no co out l) ∧ Hid (out.map (fun g => g.l.map RV.r) = rtr ((l.take i).map RV.r) f) ∧ Below w.heap.size w wr) (fun _ i _ => (n - intOf i).toNat)
  case atStart => exact ⟨0, List.replicate n false, none, 0, 0, [], by omega, by omega, rfl, rfl, dn1, Lib.hid (Out.start l n), Lib.hid (Tq.nil_ _ _ _), Lib.hid rfl, bw1⟩
  case round =>
    obtain ⟨i, D, Ao, no, co, out, hin, hno, rfl, rfl, dn, ou, tq, ho, bw⟩ := hrel
    have zw := bw.size
    by_cases hlt : i < n
    · obtain ⟨g, o, y, rfl, hg, hy, hym, a0, a1, a2⟩ := (h.out.below bw).rec_ hlt
      have hgw : g < w.heap.size := (h.out.at3 hy).1
      have HY := Lib.hid hy
      have hyo := hok.out y hym
      by_cases hk : y.k = 3
      · have HK := Lib.hid hk
        have HYO := Lib.hid hyo
        obtain ⟨z, hz⟩ : ∃ z, wr.heap.size = z := ⟨_, rfl⟩
        have hzt : Hid (∀ x ∈ out, ∀ q, blk x.A = some q → q < z) := Lib.hid fun x hx q hq => by rw [← hz]; exact (own_blk_le (tq.out.dat x hx) hq).2
        have zwz : w.heap.size < z := by rw [← hz]; exact (own_blk_le (g := w.heap.size) dn.out rfl).2
        rw [hz] at zw
        clear hy hyo
        go_wp2_with fail
        go_loopw [8, 9] (fun v iv wr => ∃ (k : Nat) (D' : List Bool) (At : Option Addr) (nt ct : Nat) (T : List RV), k ≤ i ∧ nt ≤ k ∧ iv = .int .i64 k ∧ v = .slice At nt ct ∧ Hid (wr.ownsRow w.heap.size 4 1 (.slice (some ⟨w.heap.size, 0, none⟩) n n) n (bb D')) ∧ Hid (Inn l D D' T y.t k n) ∧
          Hid (wr.ownsRow z 24 3 (.slice At nt ct) nt (cells T)) ∧ Hid (∀ x ∈ T, x ∈ l) ∧ Hid (Tq wr w.heap.size Ao no co out l) ∧ z ≤ wr.heap.size ∧ Below w.heap.size w wr) (fun _ iv _ => (i - intOf iv).toNat)
        case atStart => exact ⟨0, D, none, 0, 0, [], by omega, by omega, rfl, rfl, dn, Lib.hid (Inn.start ou.out.len), Lib.hid (World.ownsRow_nil _ _ _ _), Lib.hid (by simp), tq, by omega, bw⟩
        case round =>
          obtain ⟨k, D', At, nt, ct, T, hki, hnt, rfl, rfl, dn', inn, ot, hT, tq', zi, ibw⟩ := hrel
          have ziw := ibw.size
          obtain ⟨hgi, y0, y1, y2⟩ := (h.out.below ibw).at3 HY.out
          by_cases hkt : k < i
          · obtain ⟨d, hd⟩ := inn.out.bit (show k < n by omega)
            obtain ⟨x, hx⟩ : ∃ x, l[k]? = some x := ⟨_, List.getElem?_eq_getElem (by have := hnl.out; omega)⟩
            obtain ⟨_, x0, x1, x2⟩ := (h.out.below ibw).at3 hx
            have cd : wr.cell? ⟨w.heap.size, k, none⟩ = some (.bool d) := by
              rw [dn'.out.cellAt k (by omega)]; unfold bb; rw [List.getElem?_map, hd]; rfl
            have zdn := (own_blk_le (g := w.heap.size) dn'.out rfl).2
            have HX := Lib.hid hx
            have HD := Lib.hid hd
            have hS := Abv.cells wr
            clear hx hd
            have SK : d = true ∨ x.k = 3 ∨ x.t ≠ y.t ∨ (d = false ∧ x.k ≠ 3 ∧ x.t = y.t) := by
              rcases d with _ | _
              · by_cases h1 : x.k = 3
                · exact .inr (.inl h1)
                · by_cases h2 : x.t = y.t
                  · exact .inr (.inr (.inr ⟨rfl, h1, h2⟩))
                  · exact .inr (.inr (.inl h2))
              · exact .inl rfl
            have skip : ∀ {w2 : World}, Inn l D D' T y.t (k + 1) n → Below wr.heap.size wr w2 → ∃ (k' : Nat) (D' : List Bool) (At' : Option Addr) (nt' ct' : Nat) (T : List RV), k' ≤ i ∧ nt' ≤ k' ∧ Value.int .i64 ((k : Int) + 1) = .int .i64 k' ∧ Value.slice At nt ct = .slice At' nt' ct' ∧ Hid (w2.ownsRow w.heap.size 4 1 (.slice (some ⟨w.heap.size, 0, none⟩) n n) n (bb D')) ∧ Hid (Inn l D D' T y.t k' n) ∧
                Hid (w2.ownsRow z 24 3 (.slice At' nt' ct') nt' (cells T)) ∧ Hid (∀ x ∈ T, x ∈ l) ∧ Hid (Tq w2 w.heap.size Ao no co out l) ∧ z ≤ w2.heap.size ∧ Below w.heap.size w w2 := fun {w2} hI hb2 =>
              ⟨k + 1, D', At, nt, ct, T, by omega, by omega, rfl, rfl, Lib.hid (own_below dn'.out hb2), Lib.hid hI, Lib.hid (own_below ot.out hb2), hT, Lib.hid (tq'.out.below hb2), by have := hb2.size; omega, ibw.trans (hb2.mono ziw)⟩
            clear hk
            rcases SK with rfl | h3 | h4 | ⟨rfl, h3, h4⟩
            · have IN := Lib.hid (inn.out.skip HX.out HD.out (.inl rfl))
              go_wp2_with fail
              refine wp_region_abv (by kernel_rfl) (by kernel_rfl) ?_
              repeat (go_big_quiet_step (fail))
              refine wpQuiet_nil ?_
              rintro w2 hb2
              go_wp2_with fail
              go_roundw
              case rel => exact skip IN.out hb2
              case measure => simp [intOf]; omega
            · have IN := Lib.hid (inn.out.skip HX.out HD.out (.inr (.inl h3)))
              have hk3 : (x.k != 3) = false := by simpa using h3
              clear h3
              rcases d with _ | _
              all_goals
                go_wp2_with fail
                refine wp_region_abv (by kernel_rfl) (by kernel_rfl) ?_
                repeat (go_big_quiet_step (fail))
                refine wpQuiet_nil ?_
                rintro w2 hb2
                go_wp2_with fail
                go_roundw
                case rel => exact skip IN.out hb2
                case measure => simp [intOf]; omega
            · have IN := Lib.hid (inn.out.skip HX.out HD.out (.inr (.inr h4)))
              have ht4 : (x.t == y.t) = false := by simpa using h4
              clear h4
              rcases d with _ | _ <;> rcases hk3 : (x.k != 3) with _ | _
              all_goals
                go_wp2_with fail
                refine wp_region_abv (by kernel_rfl) (by kernel_rfl) ?_
                repeat (go_big_quiet_step (fail))
                refine wpQuiet_nil ?_
                rintro w2 hb2
                go_wp2_with fail
                go_roundw
                case rel => exact skip IN.out hb2
                case measure => simp [intOf]; omega
            · have IN := Lib.hid (inn.out.take HX.out HD.out h3 h4)
              have hk3 : (x.k != 3) = true := by simpa using h3
              have ht4 : (x.t == y.t) = true := by simpa using h4
              clear h3 h4 skip
              go_wp2_with fail
              refine wp_region_abv (by kernel_rfl) (by kernel_rfl) ?_
              repeat (go_big_quiet_step (fail))
              refine wpQuiet_nil ?_
              rintro w2 hb2
              have z2 := hb2.size
              have dn2 := own_below dn'.out hb2
              have c2 : w2.cell? ⟨w.heap.size, k, none⟩ = some (.bool false) := (hb2.cell (p := ⟨w.heap.size, k, none⟩) zdn).trans cd
              have f2 : w2.frozen? ⟨w.heap.size, k, none⟩ = false := dn2.frozenAt k
              have sg := set_grown w2 ⟨w.heap.size, k, none⟩ (.bool true)
              have dn3 : Hid ((w2.setCell ⟨w.heap.size, k, none⟩ (.bool true)).ownsRow w.heap.size 4 1 (.slice (some ⟨w.heap.size, 0, none⟩) n n) n (bb (D'.set k true))) := Lib.hid (by
                have := (dn2.stored k (.bool true)).1; unfold bb; rw [List.map_set]; exact this)
              have ot3 : Hid ((w2.setCell ⟨w.heap.size, k, none⟩ (.bool true)).ownsRow z 24 3 (.slice At nt ct) nt (cells T)) := Lib.hid (own_set (own_below ot.out hb2) _ _ (fun e => by have : z ≤ w.heap.size := (own_blk_le ot.out e).1; omega))
              have tq2 := tq'.out.below hb2
              have tq3 : Hid (Tq (w2.setCell ⟨w.heap.size, k, none⟩ (.bool true)) w.heap.size Ao no co out l) := Lib.hid (tq2.kept sg (own_ne tq2.row dn2 (by decide)) fun u hu => own_ne (tq2.dat u hu) dn2 (by decide))
              have bw2 : Below w.heap.size w w2 := ibw.trans (hb2.mono ziw)
              have bw3 : Below w.heap.size w (w2.setCell ⟨w.heap.size, k, none⟩ (.bool true)) := bw2.setCell (by show w.heap.size ≤ w.heap.size; omega) _
              have cx : ∀ j, (w2.setCell ⟨w.heap.size, k, none⟩ (.bool true)).cell? ⟨g, j, none⟩ = wr.cell? ⟨g, j, none⟩ := fun j =>
                (World.cell?_of_block (sg.block g (by omega) (fun e => by have e' : g = w.heap.size := Option.some.inj e; omega))).trans (hb2.cell (p := ⟨g, j, none⟩) (by omega))
              have q0 := (cx (o + k * 3)).trans x0
              have q1 := (cx (o + k * 3 + 1)).trans x1
              have q2 := (cx (o + k * 3 + 2)).trans x2
              obtain ⟨w3, hw3⟩ : ∃ w3, w2.setCell ⟨w.heap.size, k, none⟩ (.bool true) = w3 := ⟨_, rfl⟩
              rw [hw3] at dn3 ot3 tq3 bw3
              have z3 : w2.heap.size ≤ w3.heap.size := by rw [← hw3]; simp [World.setCell]
              obtain ⟨nx, hnx⟩ : ∃ nx, x.d.length = nx := ⟨_, rfl⟩
              rw [hnx] at q2
              have HNX := Lib.hid hnx
              have HW3 := Lib.hid hw3
              obtain ⟨Wb, hWb⟩ : ∃ Wb, w3.alloc (.cells #[.int .i64 x.k, .int .i64 x.t, .slice x.A nx x.c] 24) = Wb := ⟨_, rfl⟩
              have HWb := Lib.hid hWb
              have hbb : Below w3.heap.size w3 Wb := hWb ▸ (Below.refl _ _).alloc (Nat.le_refl _) _
              have dnb := Lib.hid (own_below dn3.out hbb)
              have otb := Lib.hid (own_below ot3.out hbb)
              have tqb := Lib.hid (tq3.out.below hbb)
              have bwb : Below w.heap.size w Wb := bw3.trans (hbb.mono (by omega))
              have hs3 : w3.heap.size = w2.heap.size := by rw [← hw3]; simp [World.setCell]
              have zb := hbb.size
              clear hS x0 x1 x2 y0 y1 y2 a0 a1 a2 cd hw3 hnx hWb hbb dn3 ot3 tq3 tq2 bw3 sg dn' dn2 inn ot tq' HD hb2 cx HK HYO ho ou dn tq
              go_wp2_with (first | (rw [HW3.out]; rw [HWb.out]; at_builtin; refine wpList_app _ rfl (.tmp 59) (.tmp 64) 33 rfl z 24 i0 (.agg #[.int .i64 0, .int .i64 0, .slice none 0 0]) 3 40 Try.underlying33 hi hz0 hz1 hz2 rfl (by omega) (by rfl) otb.out (by rfl) (by exact HWb.out ▸ Rd.lit' _ _ 3 #[.int .i64 x.k, .int .i64 x.t, .slice x.A nx x.c] 1 hs3 (by omega) rfl) (one3 _ _ _ rfl rfl rfl) (by omega) (by omega) (by omega) ?_; intro A2 c2 w4 own4 g4))
              have dn4 := Lib.hid (own_grew dnb.out g4 (own_ne dnb.out otb.out (by decide)))
              have ot4 : Hid (w4.ownsRow z 24 3 (.slice A2 (nt + 1) c2) (nt + 1) (cells (T ++ [x]))) := Lib.hid (by
                rw [cells_snoc]; unfold RV.cs; rw [HNX.out]; exact own4)
              have tq4 : Hid (Tq w4 w.heap.size Ao no co out l) := Lib.hid (tqb.out.kept g4.by_ (own_ne tqb.out.row otb.out (by decide)) fun u hu => (ap_lo (fun q e => (own_blk_le otb.out e).1) (hzt.out u hu)).symm)
              have bw4 : Below w.heap.size w w4 := g4.low bwb (by omega) (fun q e => by have := (own_blk_le otb.out e).1; omega)
              have hT2 : Hid (∀ u ∈ T ++ [x], u ∈ l) := Lib.hid fun u hu => by
                rcases List.mem_append.1 hu with hu | hu
                · exact hT.out u hu
                · obtain rfl : u = x := by simpa using hu
                  exact List.mem_of_getElem? HX.out
              exact ⟨⟨k + 1, _, A2, nt + 1, c2, _, by omega, by omega, rfl, rfl, dn4, IN, ot4, hT2, tq4, by have := g4.by_.size; omega, bw4⟩, by simp [intOf]; omega⟩
          · obtain rfl : k = i := by omega
            obtain ⟨ou', hT'⟩ := ou.out.commit HY.out HK.out hlt inn.out
            have OU := Lib.hid ou'
            have HT' := Lib.hid hT'
            clear ou' hT' hk hz
            by_cases hf : f ≤ y.t
            · have HO : Hid (out.map (fun g => g.l.map RV.r) ++ [(T ++ [y]).map RV.r] = rtr ((l.take (k + 1)).map RV.r) f) := Lib.hid (by
                rw [rtr_yes HY.out HYO.out HK.out hf HT'.out, ho.out])
              obtain ⟨ny, hny⟩ : ∃ ny, y.d.length = ny := ⟨_, rfl⟩
              rw [hny] at y2
              have HNY := Lib.hid hny
              obtain ⟨Wb, hWb⟩ : ∃ Wb, wr.alloc (.cells #[.int .i64 y.k, .int .i64 y.t, .slice y.A ny y.c] 24) = Wb := ⟨_, rfl⟩
              have HWb := Lib.hid hWb
              have hbb : Below wr.heap.size wr Wb := hWb ▸ (Below.refl _ _).alloc (Nat.le_refl _) _
              have dnb := Lib.hid (own_below dn'.out hbb)
              have otb := Lib.hid (own_below ot.out hbb)
              have tqb := Lib.hid (tq'.out.below hbb)
              have bwb : Below w.heap.size w Wb := ibw.trans (hbb.mono ziw)
              have zb := hbb.size
              have hrb : Hid (Rd Wb 3 (some ⟨wr.heap.size, 0, none⟩) 1 1 (#[.int .i64 y.k, .int .i64 y.t, .slice y.A ny y.c] : Array Value).toList) := Lib.hid (hWb ▸ Rd.lit' _ _ 3 _ 1 rfl (by omega) rfl)
              clear a0 a1 a2 hny hWb hbb dn' inn ot tq' ho dn tq HT'
              go_wp2_with (first
                | (rw [HWb.out]; at_builtin; refine wpList_app _ rfl (.tmp 74) (.tmp 79) 33 rfl z 24 i0 (.agg #[.int .i64 0, .int .i64 0, .slice none 0 0]) 3 40 Try.underlying33 hi hz0 hz1 hz2 rfl (by omega) (by rfl) otb.out (by rfl) hrb.out (one3 _ _ _ rfl rfl rfl) (by omega) (by omega) (by omega) ?_; intro A2 c2 w4 own4 g4; have z4 := g4.by_.size
                   have tq4 : Hid (Tq w4 w.heap.size Ao no co out l) := Lib.hid (tqb.out.kept g4.by_ (own_ne tqb.out.row otb.out (by decide)) fun u hu => (ap_lo (fun q e => (own_blk_le otb.out e).1) (hzt.out u hu)).symm)
                   have rd4 : Hid (Rd (w4.alloc (.cells #[.slice A2 (nt + 1) c2] 33)) 1 (some ⟨w4.heap.size, 0, none⟩) 1 1 (#[.slice A2 (nt + 1) c2] : Array Value).toList) := Lib.hid (Rd.lit' _ _ 1 _ 1 rfl (by omega) rfl))
                | (at_builtin; refine wpList_app _ rfl (.tmp 73) (.tmp 81) 74 rfl w.heap.size 33 j0 (.slice none 0 0) 1 24 Try.underlying74 kj kz0 kz1 kz2 rfl (by omega) (by rfl) (tq4.out.row.alloc _) (by rfl) rd4.out (one1 _ rfl) (by omega) (by omega) (by simp; omega) ?_; intro A5 c5 w5 own5 g5))
              have dn4 := own_alloc (own_grew dnb.out g4 (own_ne dnb.out otb.out (by decide))) (.cells #[.slice A2 (nt + 1) c2] 33)
              have ot4 : w4.ownsRow w.heap.size 24 3 (.slice A2 (nt + 1) c2) (nt + 1) (cells (T ++ [y])) := own_base (by
                rw [cells_snoc]; unfold RV.cs; rw [HNY.out]; exact own4) (by omega)
              have ra4 := own_alloc tq4.out.row (.cells #[.slice A2 (nt + 1) c2] 33)
              have dn5 := Lib.hid (own_grew dn4 g5 (own_ne dn4 ra4 (by decide)))
              have ot5 := own_grew (own_alloc ot4 (.cells #[.slice A2 (nt + 1) c2] 33)) g5 (own_ne (own_alloc ot4 _) ra4 (by decide))
              have hT2 : ∀ u ∈ T ++ [y], u ∈ l := fun u hu => by
                rcases List.mem_append.1 hu with hu | hu
                · exact hT.out u hu
                · obtain rfl : u = y := by simpa using hu
                  exact hym
              have tq5 : Hid (Tq w5 w.heap.size A5 (no + 1) c5 (out ++ [⟨A2, nt + 1, c2, T ++ [y]⟩]) l) := Lib.hid (by
                refine ⟨by rw [List.map_append]; exact own5, fun u hu => ?_, fun u hu => ?_⟩
                · rcases List.mem_append.1 hu with hu | hu
                  · have := own_alloc (tq4.out.dat u hu) (.cells #[.slice A2 (nt + 1) c2] 33)
                    exact own_grew this g5 (own_ne this ra4 (by decide))
                  · obtain rfl : u = ⟨A2, nt + 1, c2, T ++ [y]⟩ := by simpa using hu
                    exact ot5
                · rcases List.mem_append.1 hu with hu | hu
                  · exact tq4.out.sub u hu
                  · obtain rfl : u = ⟨A2, nt + 1, c2, T ++ [y]⟩ := by simpa using hu
                    exact hT2)
              have HO2 : Hid ((out ++ [(⟨A2, nt + 1, c2, T ++ [y]⟩ : GV)]).map (fun g => g.l.map RV.r) = rtr ((l.take (k + 1)).map RV.r) f) := Lib.hid (by rw [← HO.out, List.map_append]; rfl)
              have bw4 : Below w.heap.size w w4 := g4.low bwb (by omega) (fun q e => by have := (own_blk_le otb.out e).1; omega)
              have bw5 : Below w.heap.size w w5 := g5.low (bel_alloc bw4 (Nat.le_refl _) _) (by simp; omega) (fun q e => (own_blk_le tq4.out.row e).1)
              exact ⟨⟨k + 1, D', A5, no + 1, c5, _, by omega, by omega, rfl, rfl, dn5, OU, tq5, HO2, bw5⟩, by simp [intOf]; omega⟩
            · have HO : Hid (out.map (fun g => g.l.map RV.r) = rtr ((l.take (k + 1)).map RV.r) f) := Lib.hid (by
                rw [rtr_no HY.out HK.out hf, ho.out])
              go_wp2_with fail
              go_roundw
              case rel => exact ⟨k + 1, D', Ao, no, co, out, by omega, by omega, by go_num, rfl, dn', OU, tq', HO, ibw⟩
              case measure => simp [intOf]; omega
      · have OU := Lib.hid (ou.out.skip hy hk hlt)
        have HO : Hid (out.map (fun g => g.l.map RV.r) = rtr ((l.take (i + 1)).map RV.r) f) := Lib.hid (by
          rw [rtr_skip hy hk, ho.out])
        have hk3 : (y.k != 3) = true := by simpa using hk
        go_wp2_with fail
        go_roundw
        case rel => exact ⟨i + 1, D, Ao, no, co, out, by omega, by omega, by go_num, rfl, dn, OU, tq, HO, bw⟩
        case measure => simp [intOf]; omega
    · obtain rfl : i = n := by omega
      have HF : Hid (l.take i = l) := Lib.hid (List.take_of_length_le (by have := hnl.out; omega))
      rw [HF.out] at ho
      go_wp2_with fail
      go_ret
      exact ⟨Ao, no, co, out, rfl, tq.out, ho.out, hno, bw⟩
end Go.Proofs.Ytfkeedeiafegiaa.Wl
