/- Texts of tables: the reference's walk. -/
import Derived.Test.YtplgladflhglaaaLeapX
import Derived.Test.YtplgladflhglaaaTextS
namespace Go.Proofs.Ytplgladflhglaaa.Lp
set_option linter.unusedVariables false
set_option linter.unusedSimpArgs false
open Go.RowKit

/-- The codes of the text of a day. -/
noncomputable def dtl (x : Int) : List Int := M.dtext (M.dtx x).1.1 (M.dtx x).1.2.1 (M.dtx x).1.2.2
/-- The codes of the text of n steps. -/
noncomputable def ltx (A : Nat → Int) : Nat → List Int
  | 0 => []
  | n + 1 => ltx A n ++ (dtl (A n / 86400 - 1) ++ [10])
/-- The date of a step. -/
theorem ok_date {n : Nat} {A T : Nat → Int} (h : M.Ok n A T) {j : Nat} (hj : j < n) : ∃ y m d D, A j = (D + 1) * 86400 ∧ M.vld y m d = true ∧ M.cnt y m d = D ∧ dtl (A j / 86400 - 1) = M.dtext y m d ∧ M.dtx D = ((y, m, d), 0) ∧ -719162 ≤ D ∧ D < 2932897 := by
  have h1 := h.lo j hj
  have h2 := h.hi j hj
  have h3 := h.day j hj
  obtain ⟨D, hD⟩ : ∃ D, A j / 86400 - 1 = D := ⟨_, rfl⟩
  have hx : -719162 ≤ D ∧ D < 2932897 := by omega
  obtain ⟨y, m, d, hv, hc, hd⟩ := M.date_ex hx
  refine ⟨y, m, d, D, by omega, hv, hc, ?_, hd, hx.1, hx.2⟩
  unfold dtl; rw [hD, hd]
theorem ltx_len {n : Nat} {A T : Nat → Int} (h : M.Ok n A T) : ∀ {j : Nat}, j ≤ n → (ltx A j).length = 11 * j
  | 0, _ => rfl
  | j + 1, hj => by
    obtain ⟨y, m, d, D, _, hv, _, e, _⟩ := ok_date h (j := j) (by omega)
    rw [ltx, List.length_append, List.length_append, e, dtext_len hv, ltx_len h (by omega)]; simp; omega

theorem Split_at {x D : Int} (w : World) (hx : x = D * 86400 + 86399) (h1 : -719162 ≤ D) (h2 : D < 2932897) :
    Calls Try.prog 41 #[.int .i64 x] w fun e w' => e = .returned (.tuple #[.int .i64 D, .int .i64 86399, .int .i64 0]) ∧ ∃ q, w' = w.drewN q := by
  have HD : Hid (∀ w, Calls Try.prog 56 #[.int .i64 x, .int .i64 86400] w fun e w' => e = .returned (.tuple #[.int .i64 D, .int .i64 86399, .int .i64 0]) ∧ ∃ n, w' = w.drewN n) := Lib.hid fun w => by
    have := Div_pos x 86400 w (by omega) (by omega) (by omega) (by omega)
    rw [show x / 86400 = D by omega, show x % 86400 = 86399 by omega] at this; exact this
  have b1 : -62135596800 ≤ x := by omega
  have b2 : x < 253402300800 := by omega
  clear hx
  go_enter Try.func41, Try.ntmps41
  go_wp2_with (go_at_call 56; refine (HD.out _).mono ?_; rintro e w' ⟨rfl, n, rfl⟩)
  go_ret3
  exact ⟨rfl, _, rfl⟩

theorem str_nl : (⟨#[10]⟩ : ByteArray) = strOfNums [10] := rfl
set_option maxHeartbeats 2000000 in
theorem rTabText_any {sl : Option Addr} {n b o cap : Nat} {A T : Nat → Int} (w : World) (h : Hid (Tab w sl n b o A T)) (hk : Hid (M.Ok n A T)) :
    Calls Try.prog 29 #[.agg #[.slice sl n cap]] w fun e w' => e = .returned (.string (strOfNums (ltx A n))) ∧ Below w.heap.size w w' := by
  have hn := hk.out.n100
  have X0 := Lib.hid (Bx.start cap h.out)
  go_enter Try.func29, Try.ntmps29
  go_wp2_with fail
  go_loopw [3, 4] (fun s i wr => ∃ j : Nat, j ≤ n ∧ i = .int .i64 j ∧ s = .string (strOfNums (ltx A j)) ∧ Hid (Bx w wr sl n cap b o A T)) (fun _ i _ => (n - intOf i).toNat)
  case atStart => exact ⟨0, by omega, rfl, rfl, X0⟩
  case round =>
    obtain ⟨j, hj, rfl, rfl, X⟩ := hrel
    have cB := X.out.cell
    by_cases hlt : j < n
    · obtain ⟨y, m, d, D, hA, hv, hc, ht, _, D1, D2⟩ := ok_date hk.out hlt
      have hs := X.out.tab.sl (by omega)
      have cA := X.out.tab.cA j hlt
      rw [hA] at cA
      subst hs
      obtain ⟨t, ht'⟩ : ∃ t, strOfNums (ltx A j) = t := ⟨_, rfl⟩
      obtain ⟨u, hu⟩ : ∃ u, strOfNums (M.dtext y m d) = u := ⟨_, rfl⟩
      have HDt : Hid (∀ w, Calls Try.prog 46 #[.int .i64 D] w fun e w' => e = .returned (.string u) ∧ Below w.heap.size w w') := Lib.hid fun w => hu ▸ dateText_at w hv hc
      have st : t.size = 11 * j := by rw [← ht', strOfNums_size, ltx_len hk.out hj]
      have su : u.size = 10 := by rw [← hu, strOfNums_size, dtext_len hv]
      have s1 : (⟨#[10]⟩ : ByteArray).size = 1 := rfl
      have nx : Hid (t ++ u ++ ⟨#[10]⟩ = strOfNums (ltx A (j + 1))) := Lib.hid (by
        rw [← ht', ← hu, str_nl, str_append, str_append, ltx, ht, List.append_assoc])
      have q1 : ((D + 1) * 86400).tdiv 86400 = D + 1 := Int.mul_tdiv_cancel _ (by omega)
      have q2 : (D + 1) * 86400 / 86400 = D + 1 := Int.mul_ediv_cancel _ (by omega)
      rw [ht']
      clear ht' hu hA hv hc ht
      go_wp2_with (go_at_call 46; (try rw [show D + 1 - 1 = D by omega]); refine (HDt.out _).mono ?_; rintro e w1 ⟨rfl, hb1⟩; have X1 := Lib.hid (X.out.step hb1))
      go_roundw
      case rel => exact ⟨j + 1, by omega, by go_num, by rw [nx.out], X1⟩
      case measure => simp [intOf]; omega
    · obtain rfl : j = n := by omega
      have bel := X.out.bel
      go_wp2_with fail
      go_ret
      exact ⟨rfl, bel⟩

end Go.Proofs.Ytplgladflhglaaa.Lp
