/- Walk of leap.Minute. -/
import Derived.Test.YtplgladflhglaaaLeapC3
import Derived.Test.YtplgladflhglaaaLeapM3
namespace Go.Proofs.Ytplgladflhglaaa.Lp
set_option linter.unusedVariables false
set_option linter.unusedSimpArgs false
open Go.RowKit

theorem total_at {sl : Option Addr} {n b o cap : Nat} {A T : Nat → Int} {x v : Int} (w : World) (h : Hid (Tab w sl n b o A T)) (hk : Hid (M.Ok n A T)) (h1 : -9223372036854775808 ≤ x) (h2 : x ≤ 9223372036854775807) (hv : Hid (M.tot A x n = v)) :
    Calls Try.prog 31 #[.agg #[.slice sl n cap], .int .i64 x] w fun e w' => e = .returned (.int .i64 v) ∧ Below w.heap.size w w' := hv.out ▸ total_any x w h hk h1 h2

/-- The first instant behind a minute. -/
def M.nxt (x : Int) : Int := x - (x + 62135596800) % 60 + 60
noncomputable def M.mnt (n : Nat) (A T : Nat → Int) (x : Int) : Int × Int :=
  if M.okb n A T = false then (0, 1) else if x < -62135596800 ∨ 253402300800 ≤ x then (0, 2) else (60 + M.hit A (M.nxt x) n, 0)
theorem M.mnt_1 {n : Nat} {A T : Nat → Int} {x : Int} (h : M.okb n A T = false) : M.mnt n A T x = (0, 1) := by simp only [M.mnt, if_pos h]
theorem M.mnt_2 {n : Nat} {A T : Nat → Int} {x : Int} (h : M.okb n A T = true) (h2 : x < -62135596800 ∨ 253402300800 ≤ x) : M.mnt n A T x = (0, 2) := by simp only [M.mnt, h]; rw [if_neg (by simp), if_pos h2]
theorem M.mnt_0 {n : Nat} {A T : Nat → Int} {x : Int} (h : M.okb n A T = true) (h2 : -62135596800 ≤ x) (h3 : x < 253402300800) : M.mnt n A T x = (60 + M.hit A (M.nxt x) n, 0) := by simp only [M.mnt, h]; rw [if_neg (by simp), if_neg (by omega)]
theorem ret_mnt {n : Nat} {A T : Nat → Int} {x a c : Int} (h : M.mnt n A T x = (a, c)) : Ending.returned (.tuple #[.int .i64 a, .int .i64 c]) = .returned (.tuple #[.int .i64 (M.mnt n A T x).1, .int .i64 (M.mnt n A T x).2]) := by rw [h]

set_option maxHeartbeats 1000000 in
theorem Minute_any {sl : Option Addr} {n b o cap : Nat} {A T : Nat → Int} (x : Int) (w : World) (h : Hid (Tab w sl n b o A T)) (h1 : -9223372036854775808 ≤ x) (h2 : x ≤ 9223372036854775807) :
    Calls Try.prog 26 #[.agg #[.slice sl n cap], .int .i64 x] w fun e w' => e = .returned (.tuple #[.int .i64 (M.mnt n A T x).1, .int .i64 (M.mnt n A T x).2]) ∧ Below w.heap.size w w' := by
  have x0 := Bx.start cap h.out
  have X0 := Lib.hid x0
  clear x0
  rcases hv : M.okb n A T with _ | _
  · have R := Lib.hid (M.mnt_1 (x := x) hv)
    have V := Lib.hid hv
    clear hv
    go_enter Try.func26, Try.ntmps26
    go_wp2_with fail
    refine (Valid_at _ (Lib.hid X0.out.tab) V).mono ?_; rintro e w1 ⟨rfl, hb1⟩
    have X1 := Lib.hid (X0.out.step hb1)
    go_wp2_with fail
    go_ret2
    exact ⟨ret_mnt R.out, X1.out.bel⟩
  · have V := Lib.hid hv
    have K := Lib.hid (M.ok_of_b hv)
    by_cases hx : x < -62135596800 ∨ 253402300800 ≤ x
    · have R := Lib.hid (M.mnt_2 hv hx)
      have I := Lib.hid (inst_f hx)
      clear hv hx
      go_enter Try.func26, Try.ntmps26
      go_wp2_with fail
      refine (Valid_at _ (Lib.hid X0.out.tab) V).mono ?_; rintro e w1 ⟨rfl, hb1⟩
      have X1 := Lib.hid (X0.out.step hb1)
      go_wp2_with fail
      refine (instant_at _ I).mono ?_; rintro e w2 ⟨rfl, rfl⟩
      go_wp2_with fail
      go_ret2
      exact ⟨ret_mnt R.out, X1.out.bel⟩
    · have r1 : -62135596800 ≤ x := by omega
      have r2 : x < 253402300800 := by omega
      have R := M.mnt_0 hv r1 r2
      have I := Lib.hid (inst_t r1 r2)
      clear hv hx
      obtain ⟨E, hE⟩ : ∃ E, x - (x + 62135596800) % 60 + 60 = E := ⟨_, rfl⟩
      rw [show M.nxt x = E from hE] at R
      have E1 : -62135596800 < E := by omega
      have E2 : E ≤ 253402300860 := by omega
      obtain ⟨F, hF⟩ : ∃ F, E - 1 = F := ⟨_, rfl⟩
      obtain ⟨u1, u2⟩ := M.tot_bd A E n
      obtain ⟨v1, v2⟩ := M.tot_bd A F n
      have hn := K.out.n100
      obtain ⟨u, hu⟩ : ∃ u, M.tot A E n = u := ⟨_, rfl⟩
      obtain ⟨v, hvv⟩ : ∃ v, M.tot A F n = v := ⟨_, rfl⟩
      have R' : Hid (M.mnt n A T x = (60 + u - v, 0)) := Lib.hid (by rw [R]; unfold M.hit; rw [hF, hu, hvv]; congr 1; omega)
      rw [hu] at u1 u2
      rw [hvv] at v1 v2
      have HU := Lib.hid hu
      have HV := Lib.hid hvv
      have F1 : -62135596800 ≤ F := by omega
      have F2 : F ≤ 253402300860 := by omega
      have m0 : 0 ≤ x + 62135596800 := by omega
      have m1 : 0 ≤ (x + 62135596800) % 60 := by omega
      have m2 : (x + 62135596800) % 60 ≤ 59 := by omega
      clear R hu hvv
      go_enter Try.func26, Try.ntmps26
      go_wp2_with fail
      refine (Valid_at _ (Lib.hid X0.out.tab) V).mono ?_; rintro e w1 ⟨rfl, hb1⟩
      have X1 := Lib.hid (X0.out.step hb1); have q1 := X1.out.cell; have z1 := X1.out.lt
      go_wp2_with fail
      refine (instant_at _ I).mono ?_; rintro e w2 ⟨rfl, rfl⟩
      go_wp2_with fail
      have hS := Abv.cells w1
      refine wp_region_abv (by kernel_rfl) (by kernel_rfl) ?_
      repeat (go_big_quiet_step (first
        | (go_at_call_of 31 (Value.int IntKind.i64 E); exact abv_call (total_at _ (Lib.hid (X1.out.tab.below (Abv.bel _))) K (by omega) (by omega) HU))
        | (go_at_call_of 31 (Value.int IntKind.i64 F); exact abv_call (total_at _ (Lib.hid (X1.out.tab.below (Abv.bel _))) K (by omega) (by omega) HV))))
      refine wpQuiet_nil ?_
      rintro w3 hb3
      have X3 := Lib.hid (X1.out.step hb3)
      go_wp2
      go_ret2
      exact ⟨ret_mnt R'.out, X3.out.bel⟩
theorem Minute_at {sl : Option Addr} {n b o cap : Nat} {A T : Nat → Int} {x a e : Int} (w : World) (h : Hid (Tab w sl n b o A T)) (h1 : -9223372036854775808 ≤ x) (h2 : x ≤ 9223372036854775807) (hv : Hid (M.mnt n A T x = (a, e))) :
    Calls Try.prog 26 #[.agg #[.slice sl n cap], .int .i64 x] w fun y w' => y = .returned (.tuple #[.int .i64 a, .int .i64 e]) ∧ Below w.heap.size w w' :=
  (Minute_any x w h h1 h2).mono fun _ _ ⟨he, hw⟩ => ⟨he.trans (ret_mnt hv.out).symm, hw⟩

end Go.Proofs.Ytplgladflhglaaa.Lp
