/- Walk of leap.Text. -/
import Derived.Test.YtplgladflhglaaaLeapB
namespace Go.Proofs.Ytplgladflhglaaa.Lp
set_option linter.unusedVariables false
set_option linter.unusedSimpArgs false
open Go.RowKit

theorem own_below' {W W' : World} {base n size : Nat} {e : TypeId} {v : Value} {xs : List Value} (h : W.ownsRow base e size v n xs) (hb : Below W.heap.size W W') : W'.ownsRow base e size v n xs := by
  obtain ⟨h1, h | ⟨g, cap, cur, e, hg, hh, rest⟩⟩ := h
  · exact ⟨h1, .inl h⟩
  · exact ⟨h1, .inr ⟨g, cap, cur, e, hg, (hb.block g (Array.getElem?_eq_some_iff.1 hh).1).trans hh, rest⟩⟩
theorem builderAt_below {T e : TypeId} {B b : Nat} {p : Value} {bs : List Value} {w w' : World} (h : Lib.BuilderAt T e B b p bs w) (hb : Below w.heap.size w w') : Lib.BuilderAt T e B b p bs w' := by
  have hlt := h.lt
  obtain ⟨hB, v, hh, hown, hne⟩ := h
  exact ⟨hB, v, (hb.block b hlt).trans hh, own_below' hown hb, hne⟩
theorem builder_below {T e : TypeId} {B b : Nat} {bs : List Value} {w w' : World} (h : Lib.IsBuilder T e B b bs w) (hb : Below w.heap.size w w') : Lib.IsBuilder T e B b bs w' :=
  h.elim (fun x => .inl (builderAt_below x hb)) (fun x => .inr (builderAt_below x hb))
theorem strCells_append (a b : ByteArray) : Lib.strCells (a ++ b) = Lib.strCells a ++ Lib.strCells b := by
  simp [Lib.strCells, ByteArray.data_append]

/-- The state of leap.Text behind j steps. -/
structure TB (w wr : World) (b : Nat) (A : Nat → Int) (j : Nat) : Prop where
  bel : Below w.heap.size w wr
  lb : w.heap.size < b
  bz : b ≤ wr.heap.size
  bld : Lib.IsBuilder 69 5 b b (Lib.strCells (strOfNums (ltx A j))) wr
theorem TB.below {w wr wk : World} {b j : Nat} {A : Nat → Int} (h : TB w wr b A j) (hb : Below wr.heap.size wr wk) : TB w wk b A j :=
  ⟨h.bel.trans (hb.mono h.bel.size), h.lb, Nat.le_trans h.bz hb.size, builder_below h.bld hb⟩
theorem TB.alloc {w wr : World} {b j : Nat} {A : Nat → Int} (h : TB w wr b A j) (o : Obj) : TB w (wr.alloc o) b A j := h.below ((Below.refl _ _).alloc (Nat.le_refl _) _)
theorem TB.drewN {w wr : World} {b j : Nat} {A : Nat → Int} (h : TB w wr b A j) (q : Nat) : TB w (wr.drewN q) b A j := h.below (bdrewN (Below.refl _ _))

set_option maxHeartbeats 4000000 in
set_option maxRecDepth 100000 in
theorem Text_tab {sl : Option Addr} {n b o cap : Nat} {A T : Nat → Int} (w : World) (h : Hid (Tab w sl n b o A T)) (hv : M.okb n A T = true) :
    Calls Try.prog 28 #[.agg #[.slice sl n cap]] w fun e w' => e = .returned (.tuple #[.string (strOfNums (ltx A n)), .int .i64 0]) ∧ Below w.heap.size w w' := by
  have hk := Lib.hid (M.ok_of_b hv)
  have V := Lib.hid hv
  have hn := hk.out.n100
  clear hv
  have X0 := Lib.hid (Bx.start cap h.out)
  go_enter Try.func28, Try.ntmps28
  go_wp2_with (go_at_call 19; refine (Valid_at _ (Lib.hid X0.out.tab) V).mono ?_; rintro e w1 ⟨rfl, hb1⟩; have X1 := Lib.hid (X0.out.step hb1); have q1 := X1.out.cell; have z1 := X1.out.lt; have bel1 := X1.out.bel)
  have zn : ¬ w.heap.size = w1.heap.size := by omega
  have I0 : Hid (TB w (w1.alloc (.cells #[.pointer none, .slice none 0 0] 69)) w1.heap.size A 0) := Lib.hid ⟨bel1.alloc bel1.size _, z1, by simp, .inl ⟨Nat.le_refl _, _, World.alloc_heap_new w1 _, World.ownsRow_nil _ _ _ _, by simp [Value.ownBlock]⟩⟩
  go_wp2_with fail
  go_loopw [18] (fun i wr => ∃ j : Nat, j ≤ n ∧ i = .int .i64 j ∧ Hid (TB w wr w1.heap.size A j)) (fun i _ => (n - intOf i).toNat)
  case atStart => exact ⟨0, by omega, rfl, I0⟩
  case round =>
    obtain ⟨j, hj, rfl, TJ⟩ := hrel
    by_cases hlt : j < n
    · obtain ⟨y, m, d, D, hA, hv, hc, ht, hdt, D1, D2⟩ := ok_date hk.out hlt
      have hT := h.out.below TJ.out.bel
      have hs := hT.sl (by omega)
      have cA := hT.cA j hlt
      have cT := hT.cT j hlt
      have hb' := hT.lt (by omega)
      rw [hA] at cA
      subst hs
      obtain ⟨u, hu⟩ : ∃ u, strOfNums (M.dtext y m d) = u := ⟨_, rfl⟩
      have HSp : Hid (∀ w, Calls Try.prog 41 #[.int .i64 ((D + 1) * 86400 - 1)] w fun e w' => e = .returned (.tuple #[.int .i64 D, .int .i64 86399, .int .i64 0]) ∧ ∃ q, w' = w.drewN q) := Lib.hid fun w => Split_at w (by omega) D1 D2
      have HDa : Hid (∀ w, Calls Try.prog 42 #[.int .i64 D] w fun e w' => e = .returned (.tuple #[.agg #[.int .i64 y, .int .i64 m, .int .i64 d], .int .i64 0]) ∧ Below w.heap.size w w') := Lib.hid fun w => by
        have := Date_any D w; rw [hdt] at this; exact this
      have HTx : Hid (∀ w, Calls Try.prog 44 #[.agg #[.int .i64 y, .int .i64 m, .int .i64 d]] w fun e w' => e = .returned (.string u) ∧ Below w.heap.size w w') := Lib.hid fun w => hu ▸ cText_any y m d w
      have su : u.size = 10 := by rw [← hu, strOfNums_size, dtext_len hv]
      have s1 : (⟨#[10]⟩ : ByteArray).size = 1 := rfl
      have sx : (u ++ ⟨#[10]⟩).size = 11 := by rw [ByteArray.size_append, su, s1]
      have nx : Hid (strOfNums (ltx A (j + 1)) = strOfNums (ltx A j) ++ (u ++ ⟨#[10]⟩)) := Lib.hid (by
        rw [← hu, str_nl, str_append, str_append, ltx, ht])
      have sl0 : (Lib.strCells (strOfNums (ltx A j))).length = 11 * j := by rw [Lib.strCells_length, strOfNums_size, ltx_len hk.out hj]
      have HW : Hid (∀ W, TB w W w1.heap.size A j → Calls Try.prog 43 #[.pointer (some ⟨w1.heap.size, 0, none⟩), .string (u ++ ⟨#[10]⟩)] W fun e W' => e = .returned (.tuple #[.int .i64 11, .nilIface]) ∧ TB w W' w1.heap.size A (j + 1)) := Lib.hid fun W hW => by
        have := WriteString_any w1.heap.size w1.heap.size _ (u ++ ⟨#[10]⟩) W hW.bld (by rw [sl0, sx]; omega) hW.bz
        refine this.mono fun e W' ⟨he, hbl, hbe⟩ => ⟨by rw [he, sx]; rfl, hW.bel.trans (hbe.mono (Nat.le_of_lt hW.lb)), hW.lb, Nat.le_trans hW.bz hbe.size, .inr ?_⟩
        rw [nx.out, strCells_append]; exact hbl
      clear hu hA hv hc ht hdt sx nx sl0
      go_wp2_with (first
        | (go_at_call 41; refine (HSp.out _).mono ?_; rintro e w2 ⟨rfl, q, rfl⟩)
        | (go_at_call 42; refine (HDa.out _).mono ?_; rintro e w3 ⟨rfl, hb3⟩; have T3 := Lib.hid (((TJ.out.alloc _).drewN _).below hb3))
        | (go_at_call 44; refine (HTx.out _).mono ?_; rintro e w4 ⟨rfl, hb4⟩; have T4 := Lib.hid ((T3.out.alloc _).below hb4))
        | (go_at_call 43; refine (HW.out _ T4.out).mono ?_; rintro e w5 ⟨rfl, t5⟩; have T5 := Lib.hid t5; clear t5))
      go_roundw
      case rel => exact ⟨j + 1, by omega, by go_num, T5⟩
      case measure => simp [intOf]; omega
    · obtain rfl : j = n := by omega
      have HStr : Hid (∀ W, TB w W w1.heap.size A j → Calls Try.prog 45 #[.pointer (some ⟨w1.heap.size, 0, none⟩)] W fun e W' => e = .returned (.string (strOfNums (ltx A j))) ∧ Below w.heap.size w W') := Lib.hid fun W hW => by
        have := Try.Builder_String_any w1.heap.size w1.heap.size (strOfNums (ltx A j)).data.toList W hW.bld hW.bz
        exact this.mono fun e W' ⟨he, hb⟩ => ⟨he, hW.bel.trans (hb.mono (Nat.le_of_lt hW.lb))⟩
      go_wp2_with (go_at_call 45; refine (HStr.out _ TJ.out).mono ?_; rintro e w5 ⟨rfl, hb5⟩)
      go_ret2
      exact ⟨rfl, hb5⟩

end Go.Proofs.Ytplgladflhglaaa.Lp
