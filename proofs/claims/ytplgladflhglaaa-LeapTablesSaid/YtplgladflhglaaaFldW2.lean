/- Walk of the reference's fields of a day. -/
import Derived.Test.YtplgladflhglaaaFldW
namespace Go.Proofs.Ytplgladflhglaaa
set_option linter.unusedVariables false
set_option linter.unusedSimpArgs false
open Go.RowKit

/-- The cell of a result, in a world behind some calls. -/
structure RCell (w wr : World) : Prop where
  bel : Below w.heap.size w wr
  lt : w.heap.size < wr.heap.size
  fr : wr.frozen? ⟨w.heap.size, 0, none⟩ = false
  fr1 : wr.frozen? ⟨w.heap.size, 1, none⟩ = false
  fr2 : wr.frozen? ⟨w.heap.size, 2, none⟩ = false
  c0 : ∃ v, wr.cell? ⟨w.heap.size, 0, none⟩ = some v
  c1 : ∃ v, wr.cell? ⟨w.heap.size, 1, none⟩ = some v
  c2 : ∃ v, wr.cell? ⟨w.heap.size, 2, none⟩ = some v
theorem RCell.below {w wr wk : World} (h : RCell w wr) (hb : Below wr.heap.size wr wk) : RCell w wk := by
  obtain ⟨h1, h2, h3, h4, h5, ⟨v0, h6⟩, ⟨v1, h7⟩, ⟨v2, h8⟩⟩ := h
  obtain ⟨bc, bf⟩ := bcell hb
  exact ⟨h1.trans (hb.mono h1.size), Nat.lt_of_lt_of_le h2 hb.size, (bf _ _ h2).trans h3, (bf _ _ h2).trans h4, (bf _ _ h2).trans h5, ⟨v0, (bc _ _ h2).trans h6⟩, ⟨v1, (bc _ _ h2).trans h7⟩, ⟨v2, (bc _ _ h2).trans h8⟩⟩
theorem RCell.alloc {w wr : World} (h : RCell w wr) (o : Obj) : RCell w (wr.alloc o) := h.below ((Below.refl _ _).alloc (Nat.le_refl _) _)

set_option maxHeartbeats 4000000 in
theorem Fields_at {x y m d : Int} (w : World) (hv : M.vld y m d = true) (hx : M.cnt y m d = x) :
    Calls Try.prog 60 #[.int .i64 x] w fun e w' => e = .returned (.agg #[.int .i64 y, .int .i64 m, .int .i64 d]) ∧ Below w.heap.size w w' := by
  obtain ⟨x1, x2⟩ := M.cnt_inside hv
  obtain ⟨y1, y2, m1, m2, d1, d2⟩ := M.vld_bd hv
  obtain ⟨z1, z2⟩ := M.cnt_in_year hv
  rw [hx] at x1 x2 z1 z2
  have hd := M.vld_iff.1 hv
  have MN : Hid (∀ m' : Int, m < m' → m' ≤ 12 → x < M.cnt y m' 1) := Lib.hid fun m' h1 h2 => by
    have := M.cnt_m_lt (y := y) (d' := 1) ⟨y1, y2⟩ m1 h1 h2 hd.2 (by omega)
    rw [hx] at this; exact this
  have YN : Hid (∀ y' : Int, y < y' → x < M.cnt y' 1 1) := Lib.hid fun y' h => by
    have := M.cnt_11_mono (y := y + 1) (z := y') (by omega) (by omega); omega
  have HF : Hid (M.cnt y 1 1 ≤ x) := Lib.hid z1
  have HM : Hid (M.cnt y m 1 ≤ x ∧ x - M.cnt y m 1 + 1 = d) := Lib.hid (by
    rw [M.cnt_d y m 1]; rw [M.cnt_d y m d] at hx; omega)
  have NEAR : Hid (∀ Y : Int, 1 ≤ Y → x + 719164 < 365 * Y + Y / 4 → y ≤ Y + 1) := Lib.hid fun Y h1 h2 => by
    rw [M.cnt_11] at z1; omega
  clear z1 z2 hd hv hx
  go_enter Try.func60, Try.ntmps60
  go_wp2_with fail
  refine (jDate_any _ _ x1 x2).mono ?_
  rintro e w1 ⟨⟨Y, jm, jd, rfl, Y1, Y2, Y3⟩, hb1⟩
  have near := NEAR.out Y Y1 Y3
  have RC : RCell w w1 := RCell.below ⟨(Below.refl _ _).alloc (Nat.le_refl _) _, by simp, by simp [go_sem], by simp [go_sem], by simp [go_sem], ⟨_, by simp [go_sem]; rfl⟩, ⟨_, by simp [go_sem]; rfl⟩, ⟨_, by simp [go_sem]; rfl⟩⟩ hb1
  have HR := Lib.hid RC
  clear Y3 NEAR RC
  go_wp2_with fail
  go_loopw [5] (fun t wr => ∃ K : Int, y ≤ K ∧ K ≤ 10000 ∧ t = .int .i64 K ∧ Hid (RCell w wr)) (fun t _ => (intOf t).toNat)
  case atStart => exact ⟨Y + 1, near, by omega, by go_num, Lib.hid (HR.out.alloc _)⟩
  case round =>
    obtain ⟨K, K1, K2, rfl, RK⟩ := hrel
    by_cases hbig : 9999 < K
    · obtain rfl : K = 10000 := by omega
      go_wp2_with fail
      go_roundw
      case rel => exact ⟨9999, by omega, by omega, by go_num, RK⟩
      case measure => simp [intOf]
    · have HFi : Hid (∀ w, Calls Try.prog 72 #[.int .i64 K] w fun e w' => e = .returned (.int .i64 (M.cnt K 1 1)) ∧ Below w.heap.size w w') := Lib.hid fun w => first_any K w (by omega) (by omega)
      by_cases he : K = y
      · subst he
        have hle := HF.out
        clear HF
        go_wp2_with (go_at_call 72; refine (HFi.out _).mono ?_; rintro e w2 ⟨rfl, hb2⟩; have R2 := Lib.hid (RK.out.below hb2))
        go_loopw [6] (fun t wr => ∃ L : Int, m ≤ L ∧ L ≤ 12 ∧ t = .int .i64 L ∧ Hid (RCell w wr)) (fun t _ => (intOf t).toNat)
        case atStart => exact ⟨12, by omega, by omega, rfl, R2⟩
        case round =>
          obtain ⟨L, L1, L2, rfl, RL⟩ := hrel
          have hv := M.vld_11 ⟨y1, y2⟩ (m := L) (by omega)
          have HG : Hid (∀ w, Calls Try.prog 55 #[.agg #[.int .i64 K, .int .i64 L, .int .i64 1]] w fun e w' => e = .returned (.tuple #[.int .i64 (M.cnt K L 1), .bool true]) ∧ Below w.heap.size w w') := Lib.hid fun w => by
            have := Greg_yes K L 1 w hv; rw [M.dy_t hv, hv] at this; exact this
          clear hv
          have cb := M.cnt_bd (y := K) (m := L) (d := 1) (by omega) (by omega)
          by_cases hm : L = m
          · subst hm
            have hle := HM.out.1
            have hdd := Lib.hid HM.out.2
            clear HM
            go_wp2_with (go_at_call 55; refine (HG.out _).mono ?_; rintro e w3 ⟨rfl, hb3⟩; have R3 := Lib.hid (RL.out.below hb3); have f0 := R3.out.fr; have f1 := R3.out.fr1; have f2 := R3.out.fr2; obtain ⟨v0, q0⟩ := R3.out.c0; obtain ⟨v1, q1⟩ := R3.out.c1; obtain ⟨v2, q2⟩ := R3.out.c2)
            have bel3 := R3.out.bel
            exact bodyPost_ret (v := .agg #[.int .i64 K, .int .i64 L, .int .i64 (x - M.cnt K L 1 + 1)]) (by simp [results, Try.results60, go_sem, q0, q1, q2]) rfl ⟨by rw [hdd.out], ((bel3.setCell (Nat.le_refl _) _).setCell (p := ⟨w.heap.size, 1, none⟩) (Nat.le_refl _) _).setCell (p := ⟨w.heap.size, 2, none⟩) (Nat.le_refl _) _⟩
          · have hgt := MN.out L (by omega) L2
            go_wp2_with (go_at_call 55; refine (HG.out _).mono ?_; rintro e w3 ⟨rfl, hb3⟩; have R3 := Lib.hid (RL.out.below hb3))
            go_roundw
            case rel => exact ⟨L - 1, by omega, by omega, by go_num, R3⟩
            case measure => simp [intOf]; omega
      · have hgt := YN.out K (by omega)
        go_wp2_with (go_at_call 72; refine (HFi.out _).mono ?_; rintro e w2 ⟨rfl, hb2⟩; have R2 := Lib.hid (RK.out.below hb2))
        go_roundw
        case rel => exact ⟨K - 1, by omega, by omega, by go_num, R2⟩
        case measure => simp [intOf]; omega

end Go.Proofs.Ytplgladflhglaaa
