/- Walks through the validity of tables of leap seconds. -/
import Derived.Test.YtplgladflhglaaaLeapW
namespace Go.Proofs.Ytplgladflhglaaa.Lp
set_option linter.unusedVariables false
set_option linter.unusedSimpArgs false
open Go.RowKit

theorem Valid_any {sl : Option Addr} {n b o cap : Nat} {A T : Nat → Int} (w : World) (h : Hid (Tab w sl n b o A T)) :
    Calls Try.prog 19 #[.agg #[.slice sl n cap]] w fun e w' => e = .returned (.bool (M.okb n A T)) ∧ Below w.heap.size w w' := by
  have hn := h.out.n62
  rcases Nat.lt_or_ge 100 n with h100 | h100
  · have R := Lib.hid (M.okb_f (n := n) (A := A) (T := T) fun h => by have := h.n100; omega)
    go_enter Try.func19, Try.ntmps19
    go_wp2
    go_ret
    exact ⟨ret_bool R.out.symm, (Below.refl _ _).alloc (Nat.le_refl _) _⟩
  · go_enter Try.func19, Try.ntmps19
    go_wp2
    go_loopw [3, 13] (fun c i wr => (Below w.heap.size w wr ∧ w.heap.size < wr.heap.size) ∧ ∃ j : Nat, j ≤ n ∧ i = .int .i64 j ∧ c = .int .i64 (M.bfr A j) ∧ Hid (∀ i, i < j → M.step A T i)) (fun _ i _ => (n - intOf i).toNat)
    case atStart => exact ⟨⟨(Below.refl _ _).alloc (Nat.le_refl _) _, by simp⟩, 0, by omega, rfl, rfl, Lib.hid fun i hi => by omega⟩
    case round =>
      obtain ⟨⟨hb0, hz⟩, j, hj, rfl, rfl, hst⟩ := hrel
      obtain ⟨bb1, bb2⟩ := M.bfr_bd h.out.bA hj
      by_cases hlt : j < n
      · have hs := h.out.sl (by omega)
        have ht := h.out.below hb0
        have cA := ht.cA j hlt
        have cT := ht.cT j hlt
        obtain ⟨a1, a2⟩ := h.out.bA j hlt
        obtain ⟨t1, t2⟩ := h.out.bT j hlt
        have hb' := ht.lt (by omega)
        subst hs
        clear ht
        have hf : Hid (¬ M.step A T j → M.okb n A T = false) := Lib.hid fun hh => M.okb_f fun hk => hh (hk.step hlt)
        have hx : Hid (M.step A T j → ∀ i, i < j + 1 → M.step A T i) := Lib.hid fun hh i hi => by
          by_cases e : i = j
          · subst e; exact hh
          · exact hst.out i (by omega)
        have SC := M.step_cases A T j
        obtain ⟨B, hB⟩ : ∃ B, M.bfr A j = B := ⟨_, rfl⟩
        rw [hB] at SC bb1 bb2 ⊢
        have hbn : M.bfr A (j + 1) = A j := rfl
        have HBN := Lib.hid hbn
        clear hB hbn
        rcases SC with ⟨g1, g⟩ | ⟨g1, ⟨g2, g⟩ | ⟨g2, ⟨g3, g⟩ | ⟨g3, ⟨g4, g⟩ | ⟨g4, g⟩⟩⟩⟩
        · have R := Lib.hid (hf.out g)
          clear g
          have gg := g1; rw [M.tm_em] at gg
          go_wp2
          go_ret
          exact ⟨ret_bool R.out.symm, hb0.alloc hb0.size _⟩
        · have R := Lib.hid (hf.out g)
          clear g
          have gg := g1; rw [M.tm_em] at gg
          go_wp2
          go_ret
          exact ⟨ret_bool R.out.symm, hb0.alloc hb0.size _⟩
        · have R := Lib.hid (hf.out g)
          clear g
          have gg := g1; rw [M.tm_em] at gg
          go_wp2
          go_ret
          exact ⟨ret_bool R.out.symm, hb0.alloc hb0.size _⟩
        · have R := Lib.hid (hf.out g)
          clear g
          have gg := g1; rw [M.tm_em] at gg
          go_wp2
          go_ret
          exact ⟨ret_bool R.out.symm, hb0.alloc hb0.size _⟩
        · have nx := Lib.hid (hx.out g)
          clear g
          have gg := g1; rw [M.tm_em] at gg
          go_wp2
          go_roundw
          case rel => exact ⟨⟨hb0.alloc hb0.size _, by simp; omega⟩, j + 1, by omega, by go_num, by rw [HBN.out], nx⟩
          case measure => simp [intOf]; omega
      · obtain rfl : j = n := by omega
        have R := Lib.hid (M.okb_t (M.ok_of h100 hst.out))
        go_wp2
        go_ret
        exact ⟨ret_bool R.out.symm, hb0⟩

end Go.Proofs.Ytplgladflhglaaa.Lp
