/- Walks through civil.Parse. -/
import Derived.Test.YtplgladflhglaaaCivP
namespace Go.Proofs.Ytplgladflhglaaa
set_option linter.unusedVariables false
set_option linter.unusedSimpArgs false
open Go.RowKit

/-- The memory of civil.Parse at the head of a round: the result's block, and the block of the three numbers. -/
structure PInv (w wr : World) (a0 a1 a2 : Int) : Prop where
  bel : Below w.heap.size w wr
  sz : w.heap.size + 2 ≤ wr.heap.size
  r0 : wr.cell? ⟨w.heap.size, 0, none⟩ = some (.int .i64 0)
  r1 : wr.cell? ⟨w.heap.size, 1, none⟩ = some (.int .i64 0)
  r2 : wr.cell? ⟨w.heap.size, 2, none⟩ = some (.int .i64 0)
  f0 : wr.frozen? ⟨w.heap.size, 0, none⟩ = false
  f1 : wr.frozen? ⟨w.heap.size, 1, none⟩ = false
  f2 : wr.frozen? ⟨w.heap.size, 2, none⟩ = false
  n0 : wr.cell? ⟨w.heap.size + 1, 0, none⟩ = some (.int .i64 a0)
  n1 : wr.cell? ⟨w.heap.size + 1, 1, none⟩ = some (.int .i64 a1)
  n2 : wr.cell? ⟨w.heap.size + 1, 2, none⟩ = some (.int .i64 a2)
  g0 : wr.frozen? ⟨w.heap.size + 1, 0, none⟩ = false
  g1 : wr.frozen? ⟨w.heap.size + 1, 1, none⟩ = false
  g2 : wr.frozen? ⟨w.heap.size + 1, 2, none⟩ = false
def part (j : Nat) : Int := if j ≤ 4 then 0 else if j ≤ 7 then 1 else 2

theorem pn_le {s : ByteArray} {a k : Nat} (hk : k ≤ 4) (h : ∀ i, i < k → 48 ≤ M.ch s (a + i) ∧ M.ch s (a + i) ≤ 57) : 0 ≤ M.pn s a k ∧ M.pn s a k ≤ 9999 := by
  have hb := M.pn_bd s a k h
  refine ⟨hb.1, ?_⟩
  have h1 := hb.2
  have hj4 : k = 0 ∨ k = 1 ∨ k = 2 ∨ k = 3 ∨ k = 4 := by omega
  rcases hj4 with rfl | rfl | rfl | rfl | rfl <;> simp at h1 <;> omega
theorem PInv.put {w wr : World} {a0 a1 a2 : Int} (h : PInv w wr a0 a1 a2) (q i : Nat) (hi : i < 3) (x : Int) :
    PInv w ((wr.drewN q).setCell ⟨w.heap.size + 1, i, none⟩ (.int .i64 x)) (if i = 0 then x else a0) (if i = 1 then x else a1) (if i = 2 then x else a2) := by
  obtain ⟨bel, sz, r0, r1, r2, f0, f1, f2, n0, n1, n2, g0, g1, g2⟩ := h
  have hi' : i = 0 ∨ i = 1 ∨ i = 2 := by omega
  rcases hi' with rfl | rfl | rfl
  all_goals
    refine ⟨(bdrewN bel).setCell (by simp) _, by simpa [World.setCell] using sz, ?_, ?_, ?_, ?_, ?_, ?_, ?_, ?_, ?_, ?_, ?_, ?_⟩
    all_goals (simp [go_sem, *])

set_option maxHeartbeats 6000000 in
theorem Parse_any (s : ByteArray) (w : World) (hs : s.size ≤ 9223372036854775807) : Calls Try.prog 37 #[.string s] w fun e w' =>
    e = .returned (.tuple #[.agg #[.int .i64 (M.prs s).1.1, .int .i64 (M.prs s).1.2.1, .int .i64 (M.prs s).1.2.2], .int .i64 (M.prs s).2]) ∧ Below w.heap.size w w' := by
  by_cases h10 : s.size = 10
  · have H10 := Lib.hid h10
    have k10 : ((s.size : Int) != 10) = false := by simp; omega
    have k10' : s.size ≤ 10 := by omega
    have k10'' : 10 ≤ s.size := by omega
    clear h10
    go_enter Try.func37, Try.ntmps37
    go_wp2
    go_loopw [5, 13] (fun p i wr => ∃ j : Nat, j ≤ 10 ∧ i = .int .i64 j ∧ p = .int .i64 (part j) ∧ Hid (∀ p, p < j → M.okAt s p) ∧ Hid (PInv w wr (M.pn s 0 (min j 4)) (M.pn s 5 (min (j - 5) 2)) (M.pn s 8 (j - 8)))) (fun _ i _ => (10 - intOf i).toNat)
    case atStart => exact ⟨0, by omega, rfl, rfl, Lib.hid fun p hp => absurd hp (by omega), Lib.hid ⟨((Below.refl _ _).alloc (Nat.le_refl _) _).alloc (by simp) _, by simp, by simp [go_sem], by simp [go_sem], by simp [go_sem], by simp [go_sem], by simp [go_sem], by simp [go_sem], by simp [go_sem, M.pn], by simp [go_sem, M.pn], by simp [go_sem, M.pn], by simp [go_sem], by simp [go_sem], by simp [go_sem]⟩⟩
    case round =>
      obtain ⟨j, hj, rfl, rfl, hok, inv⟩ := hrel
      by_cases hlt : j < 10
      · have hlt' : j < s.size := by omega
        have E := Lib.hid (M.ch_eq s j hlt')
        have B0 := pn_le (s := s) (a := 0) (k := min j 4) (by omega) (fun i hi => (M.okAt_dig (by omega)).1 (hok.out _ (by omega)))
        have B1 := pn_le (s := s) (a := 5) (k := min (j - 5) 2) (by omega) (fun i hi => (M.okAt_dig (by omega)).1 (hok.out _ (by omega)))
        have B2 := pn_le (s := s) (a := 8) (k := j - 8) (by omega) (fun i hi => (M.okAt_dig (by omega)).1 (hok.out _ (by omega)))
        obtain ⟨p0, P0⟩ : ∃ x, Hid (M.pn s 0 (min j 4) = x) := ⟨_, Lib.hid rfl⟩
        obtain ⟨p1, P1⟩ : ∃ x, Hid (M.pn s 5 (min (j - 5) 2) = x) := ⟨_, Lib.hid rfl⟩
        obtain ⟨p2, P2⟩ : ∃ x, Hid (M.pn s 8 (j - 8) = x) := ⟨_, Lib.hid rfl⟩
        rw [P0.out] at B0 inv; rw [P1.out] at B1 inv; rw [P2.out] at B2 inv
        obtain ⟨bel, sz, r0, r1, r2, f0, f1, f2, n0, n1, n2, g0, g1, g2⟩ := inv.out
        obtain ⟨B0a, B0b⟩ := B0
        obtain ⟨B1a, B1b⟩ := B1
        obtain ⟨B2a, B2b⟩ := B2
        by_cases h47 : j = 4 ∨ j = 7
        · by_cases hc : M.ch s j = 45
          · have e45 : ((s[j].toNat : Int) != 45) = false := by rw [E.out]; simp [hc]
            have nx : Hid (∀ p, p < j + 1 → M.okAt s p) := Lib.hid fun p hp => by
              by_cases h : p = j
              · subst h; exact (M.okAt_dash h47).2 hc
              · exact hok.out p (by omega)
            clear hc
            rcases h47 with rfl | rfl
            · rw [show part 4 = 0 from rfl]
              go_wp2
              go_roundw
              case rel => exact ⟨5, by omega, by rfl, by rfl, nx, Lib.hid (by rw [show M.pn s 0 (min 5 4) = p0 from P0.out, show M.pn s 5 (min (5 - 5) 2) = p1 from P1.out, show M.pn s 8 (5 - 8) = p2 from P2.out]; exact inv.out)⟩
              case measure => simp [intOf]
            · rw [show part 7 = 1 from rfl]
              go_wp2
              go_roundw
              case rel => exact ⟨8, by omega, by rfl, by rfl, nx, Lib.hid (by rw [show M.pn s 0 (min 8 4) = p0 from P0.out, show M.pn s 5 (min (8 - 5) 2) = p1 from P1.out, show M.pn s 8 (8 - 8) = p2 from P2.out]; exact inv.out)⟩
              case measure => simp [intOf]
          · have e45 : ((s[j].toNat : Int) != 45) = true := by rw [E.out]; simp [hc]
            have R := Lib.hid (M.prs_3 (M.form_f (s := s) fun h => hc ((M.okAt_dash h47).1 (h.2 j hlt))))
            clear hc
            rcases h47 with rfl | rfl
            all_goals
              go_wp2
              exact bodyPost_ret (v := .tuple #[.agg #[.int .i64 0, .int .i64 0, .int .i64 0], .int .i64 3]) (by simp [results, Try.results37, go_sem, r0, r1, r2]) rfl ⟨ret_prs R.out, ((bel.setCell (by simp) _).setCell (by simp) _).setCell (by simp) _⟩
        · by_cases hc : 48 ≤ M.ch s j ∧ M.ch s j ≤ 57
          · have nx : Hid (∀ p, p < j + 1 → M.okAt s p) := Lib.hid fun p hp => by
              by_cases h : p = j
              · subst h; exact (M.okAt_dig h47).2 hc
              · exact hok.out p (by omega)
            have c1 : 48 ≤ (s[j].toNat : Int) := by rw [E.out]; exact hc.1
            have c2 : (s[j].toNat : Int) ≤ 57 := by rw [E.out]; exact hc.2
            have hjj : j = 0 ∨ j = 1 ∨ j = 2 ∨ j = 3 ∨ j = 5 ∨ j = 6 ∨ j = 8 ∨ j = 9 := by omega
            clear hc h47
            rcases hjj with rfl | rfl | rfl | rfl | rfl | rfl | rfl | rfl
            · rw [show part 0 = 0 from rfl]
              go_wp2
              go_region
              go_wp2
              go_roundw
              case rel => exact ⟨1, by omega, by rfl, by rfl, nx, Lib.hid (by rw [show M.pn s 0 (min 1 4) = 10 * p0 + ((s[0].toNat : Int) - 48) from by rw [E.out, ← P0.out]; rfl, show M.pn s 5 (min (1 - 5) 2) = p1 from P1.out, show M.pn s 8 (1 - 8) = p2 from P2.out]; exact inv.out.put _ 0 (by omega) _)⟩
              case measure => simp [intOf]
            · rw [show part 1 = 0 from rfl]
              go_wp2
              go_region
              go_wp2
              go_roundw
              case rel => exact ⟨2, by omega, by rfl, by rfl, nx, Lib.hid (by rw [show M.pn s 0 (min 2 4) = 10 * p0 + ((s[1].toNat : Int) - 48) from by rw [E.out, ← P0.out]; rfl, show M.pn s 5 (min (2 - 5) 2) = p1 from P1.out, show M.pn s 8 (2 - 8) = p2 from P2.out]; exact inv.out.put _ 0 (by omega) _)⟩
              case measure => simp [intOf]
            · rw [show part 2 = 0 from rfl]
              go_wp2
              go_region
              go_wp2
              go_roundw
              case rel => exact ⟨3, by omega, by rfl, by rfl, nx, Lib.hid (by rw [show M.pn s 0 (min 3 4) = 10 * p0 + ((s[2].toNat : Int) - 48) from by rw [E.out, ← P0.out]; rfl, show M.pn s 5 (min (3 - 5) 2) = p1 from P1.out, show M.pn s 8 (3 - 8) = p2 from P2.out]; exact inv.out.put _ 0 (by omega) _)⟩
              case measure => simp [intOf]
            · rw [show part 3 = 0 from rfl]
              go_wp2
              go_region
              go_wp2
              go_roundw
              case rel => exact ⟨4, by omega, by rfl, by rfl, nx, Lib.hid (by rw [show M.pn s 0 (min 4 4) = 10 * p0 + ((s[3].toNat : Int) - 48) from by rw [E.out, ← P0.out]; rfl, show M.pn s 5 (min (4 - 5) 2) = p1 from P1.out, show M.pn s 8 (4 - 8) = p2 from P2.out]; exact inv.out.put _ 0 (by omega) _)⟩
              case measure => simp [intOf]
            · rw [show part 5 = 1 from rfl]
              go_wp2
              go_region
              go_wp2
              go_roundw
              case rel => exact ⟨6, by omega, by rfl, by rfl, nx, Lib.hid (by rw [show M.pn s 0 (min 6 4) = p0 from P0.out, show M.pn s 5 (min (6 - 5) 2) = 10 * p1 + ((s[5].toNat : Int) - 48) from by rw [E.out, ← P1.out]; rfl, show M.pn s 8 (6 - 8) = p2 from P2.out]; exact inv.out.put _ 1 (by omega) _)⟩
              case measure => simp [intOf]
            · rw [show part 6 = 1 from rfl]
              go_wp2
              go_region
              go_wp2
              go_roundw
              case rel => exact ⟨7, by omega, by rfl, by rfl, nx, Lib.hid (by rw [show M.pn s 0 (min 7 4) = p0 from P0.out, show M.pn s 5 (min (7 - 5) 2) = 10 * p1 + ((s[6].toNat : Int) - 48) from by rw [E.out, ← P1.out]; rfl, show M.pn s 8 (7 - 8) = p2 from P2.out]; exact inv.out.put _ 1 (by omega) _)⟩
              case measure => simp [intOf]
            · rw [show part 8 = 2 from rfl]
              go_wp2
              go_region
              go_wp2
              go_roundw
              case rel => exact ⟨9, by omega, by rfl, by rfl, nx, Lib.hid (by rw [show M.pn s 0 (min 9 4) = p0 from P0.out, show M.pn s 5 (min (9 - 5) 2) = p1 from P1.out, show M.pn s 8 (9 - 8) = 10 * p2 + ((s[8].toNat : Int) - 48) from by rw [E.out, ← P2.out]; rfl]; exact inv.out.put _ 2 (by omega) _)⟩
              case measure => simp [intOf]
            · rw [show part 9 = 2 from rfl]
              go_wp2
              go_region
              go_wp2
              go_roundw
              case rel => exact ⟨10, by omega, by rfl, by rfl, nx, Lib.hid (by rw [show M.pn s 0 (min 10 4) = p0 from P0.out, show M.pn s 5 (min (10 - 5) 2) = p1 from P1.out, show M.pn s 8 (10 - 8) = 10 * p2 + ((s[9].toNat : Int) - 48) from by rw [E.out, ← P2.out]; rfl]; exact inv.out.put _ 2 (by omega) _)⟩
              case measure => simp [intOf]
          · have R := Lib.hid (M.prs_3 (M.form_f (s := s) fun h => hc ((M.okAt_dig h47).1 (h.2 j hlt))))
            have hjj : j = 0 ∨ j = 1 ∨ j = 2 ∨ j = 3 ∨ j = 5 ∨ j = 6 ∨ j = 8 ∨ j = 9 := by omega
            by_cases hc1 : M.ch s j < 48
            · have c1 : (s[j].toNat : Int) < 48 := by rw [E.out]; exact hc1
              clear hc h47 hc1
              rcases hjj with rfl | rfl | rfl | rfl | rfl | rfl | rfl | rfl
              all_goals
                go_wp2
                exact bodyPost_ret (v := .tuple #[.agg #[.int .i64 0, .int .i64 0, .int .i64 0], .int .i64 3]) (by simp [results, Try.results37, go_sem, r0, r1, r2]) rfl ⟨ret_prs R.out, ((bel.setCell (by simp) _).setCell (by simp) _).setCell (by simp) _⟩
            · have c1 : 48 ≤ (s[j].toNat : Int) := by rw [E.out]; omega
              have c2 : 57 < (s[j].toNat : Int) := by rw [E.out]; omega
              clear hc h47 hc1
              rcases hjj with rfl | rfl | rfl | rfl | rfl | rfl | rfl | rfl
              all_goals
                go_wp2
                exact bodyPost_ret (v := .tuple #[.agg #[.int .i64 0, .int .i64 0, .int .i64 0], .int .i64 3]) (by simp [results, Try.results37, go_sem, r0, r1, r2]) rfl ⟨ret_prs R.out, ((bel.setCell (by simp) _).setCell (by simp) _).setCell (by simp) _⟩
      · obtain rfl : j = 10 := by omega
        have hf : M.form s = true := M.form_t ⟨H10.out, hok.out⟩
        obtain ⟨bel, sz, r0, r1, r2, f0, f1, f2, n0, n1, n2, g0, g1, g2⟩ := inv.out
        have z1 : w.heap.size < wr.heap.size := by omega
        have z2 : w.heap.size < wr.heap.size + 1 := by omega
        rcases hv : M.vld (M.pn s 0 4) (M.pn s 5 2) (M.pn s 8 2) with _ | _
        · skip
          have R := Lib.hid (M.prs_1 hf hv)
          go_wp2_with (go_at_call 51; refine (Valid_any _ _ _ _).mono ?_; rintro e w2 ⟨rfl, hb2⟩; obtain ⟨hc2, hf2⟩ := bcell hb2)
          have q0 : w2.cell? ⟨w.heap.size, 0, none⟩ = some (.int .i64 0) := by rw [hc2 _ _ (by simp; omega), cell_alloc_lt z1]; exact r0
          have q1 : w2.cell? ⟨w.heap.size, 1, none⟩ = some (.int .i64 0) := by rw [hc2 _ _ (by simp; omega), cell_alloc_lt z1]; exact r1
          have q2 : w2.cell? ⟨w.heap.size, 2, none⟩ = some (.int .i64 0) := by rw [hc2 _ _ (by simp; omega), cell_alloc_lt z1]; exact r2
          exact bodyPost_ret (v := .tuple #[.agg #[.int .i64 0, .int .i64 0, .int .i64 0], .int .i64 1]) (by simp [results, Try.results37, go_sem, q0, q1, q2]) rfl ⟨ret_prs R.out, (((((bel.alloc (by omega) _).trans (hb2.mono (by simp; omega))).setCell (by simp) _).setCell (by simp) _).setCell (by simp) _)⟩
        · skip
          have R := Lib.hid (M.prs_0 hf hv)
          go_wp2_with (go_at_call 51; refine (Valid_any _ _ _ _).mono ?_; rintro e w2 ⟨rfl, hb2⟩; obtain ⟨hc2, hf2⟩ := bcell hb2)
          have q0 : w2.cell? ⟨w.heap.size, 0, none⟩ = some (.int .i64 0) := by rw [hc2 _ _ (by simp; omega), cell_alloc_lt z1]; exact r0
          have q1 : w2.cell? ⟨w.heap.size, 1, none⟩ = some (.int .i64 0) := by rw [hc2 _ _ (by simp; omega), cell_alloc_lt z1]; exact r1
          have q2 : w2.cell? ⟨w.heap.size, 2, none⟩ = some (.int .i64 0) := by rw [hc2 _ _ (by simp; omega), cell_alloc_lt z1]; exact r2
          exact bodyPost_ret (v := .tuple #[.agg #[.int .i64 (M.pn s 0 4), .int .i64 (M.pn s 5 2), .int .i64 (M.pn s 8 2)], .int .i64 0]) (by simp [results, Try.results37, go_sem, q0, q1, q2]) rfl ⟨ret_prs R.out, (((((bel.alloc (by omega) _).trans (hb2.mono (by simp; omega))).setCell (by simp) _).setCell (by simp) _).setCell (by simp) _)⟩
  · have k10 : ((s.size : Int) != 10) = true := by simp; omega
    have R := Lib.hid (M.prs_3 (M.form_f (s := s) fun h => h10 h.1))
    clear h10
    go_enter Try.func37, Try.ntmps37
    go_wp2
    exact bodyPost_ret (v := .tuple #[.agg #[.int .i64 0, .int .i64 0, .int .i64 0], .int .i64 3]) (by simp [results, Try.results37, go_sem]) rfl ⟨ret_prs R.out, (Below.refl _ _).alloc (Nat.le_refl _) _⟩

end Go.Proofs.Ytplgladflhglaaa
