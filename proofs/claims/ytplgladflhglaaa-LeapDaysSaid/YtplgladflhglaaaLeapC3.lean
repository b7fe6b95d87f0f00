/- Walks through leap: distances, sums, minutes. -/
import Derived.Test.YtplgladflhglaaaLeapO
import Derived.Test.YtplgladflhglaaaLeapM2
namespace Go.Proofs.Ytplgladflhglaaa.Lp
set_option linter.unusedVariables false
set_option linter.unusedSimpArgs false
open Go.RowKit

noncomputable def M.dst (n : Nat) (A T : Nat → Int) (a b : Int) : Int × Int :=
  if (M.atm n A T a).2 ≠ 0 then (0, (M.atm n A T a).2) else if (M.atm n A T b).2 ≠ 0 then (0, (M.atm n A T b).2) else ((M.atm n A T b).1 - (M.atm n A T a).1, 0)
theorem M.dst_1 {n : Nat} {A T : Nat → Int} {a b u e : Int} (h : M.atm n A T a = (u, e)) (he : e ≠ 0) : M.dst n A T a b = (0, e) := by unfold M.dst; rw [h, if_pos he]
theorem M.dst_2 {n : Nat} {A T : Nat → Int} {a b u v e : Int} (h : M.atm n A T a = (u, 0)) (h2 : M.atm n A T b = (v, e)) (he : e ≠ 0) : M.dst n A T a b = (0, e) := by unfold M.dst; rw [h, if_neg (by simp), h2, if_pos he]
theorem M.dst_0 {n : Nat} {A T : Nat → Int} {a b u v : Int} (h : M.atm n A T a = (u, 0)) (h2 : M.atm n A T b = (v, 0)) : M.dst n A T a b = (v - u, 0) := by unfold M.dst; rw [h, if_neg (by simp), h2, if_neg (by simp)]
theorem ret_dst {n : Nat} {A T : Nat → Int} {a b u e : Int} (h : M.dst n A T a b = (u, e)) : Ending.returned (.tuple #[.int .i64 u, .int .i64 e]) = .returned (.tuple #[.int .i64 (M.dst n A T a b).1, .int .i64 (M.dst n A T a b).2]) := by rw [h]
/-- The three answers of Atomic. -/
theorem M.atm_cases (n : Nat) (A T : Nat → Int) (x : Int) : (∃ e, M.atm n A T x = (0, e) ∧ e ≠ 0 ∧ (e = 1 ∨ e = 2)) ∨ ∃ u, M.atm n A T x = (u, 0) ∧ M.okb n A T = true ∧ -62135596800 ≤ x ∧ x < 253402300800 ∧ u = x + M.tot A x n ∧ -62135596800 ≤ u ∧ u ≤ 253402300900 := by
  rcases hv : M.okb n A T with _ | _
  · left; exact ⟨1, M.atm_1 hv, by omega, .inl rfl⟩
  · by_cases hx : x < -62135596800 ∨ 253402300800 ≤ x
    · left; exact ⟨2, M.atm_2 hv hx, by omega, .inr rfl⟩
    · right
      have tb := M.tot_bd A x n
      have hn := (M.ok_of_b hv).n100
      exact ⟨_, M.atm_0 hv (by omega) (by omega), rfl, by omega, by omega, rfl, by omega, by omega⟩

theorem Distance_any {sl : Option Addr} {n b o cap : Nat} {A T : Nat → Int} (x y : Int) (w : World) (h : Hid (Tab w sl n b o A T)) (h1 : -9223372036854775808 ≤ x) (h2 : x ≤ 9223372036854775807) (h3 : -9223372036854775808 ≤ y) (h4 : y ≤ 9223372036854775807) :
    Calls Try.prog 23 #[.agg #[.slice sl n cap], .int .i64 x, .int .i64 y] w fun e w' => e = .returned (.tuple #[.int .i64 (M.dst n A T x y).1, .int .i64 (M.dst n A T x y).2]) ∧ Below w.heap.size w w' := by
  have x0 := Bx.start cap h.out
  have X0 := Lib.hid x0
  clear x0
  rcases M.atm_cases n A T x with ⟨e, hx, he, _⟩ | ⟨u, hx, -, -, -, -, u1, u2⟩
  · have R := Lib.hid (M.dst_1 (b := y) hx he)
    have HX := Lib.hid hx
    have e0 : (e != 0) = true := by simp [he]
    clear hx he
    go_enter Try.func23, Try.ntmps23
    go_wp2_with fail
    refine (Atomic_at _ (Lib.hid X0.out.tab) h1 h2 HX).mono ?_; rintro e' w1 ⟨rfl, hb1⟩
    have X1 := Lib.hid (X0.out.step hb1)
    go_wp2_with fail
    go_ret2
    exact ⟨ret_dst R.out, X1.out.bel⟩
  · rcases M.atm_cases n A T y with ⟨e, hy, he, _⟩ | ⟨v, hy, -, -, -, -, v1, v2⟩
    · have R := Lib.hid (M.dst_2 hx hy he)
      have HX := Lib.hid hx
      have HY := Lib.hid hy
      have e0 : (e != 0) = true := by simp [he]
      clear hx hy he
      go_enter Try.func23, Try.ntmps23
      go_wp2_with fail
      refine (Atomic_at _ (Lib.hid X0.out.tab) h1 h2 HX).mono ?_; rintro e' w1 ⟨rfl, hb1⟩
      have X1 := Lib.hid (X0.out.step hb1); have q1 := X1.out.cell; have z1 := X1.out.lt
      go_wp2_with fail
      refine (Atomic_at _ (Lib.hid X1.out.tab) h3 h4 HY).mono ?_; rintro e' w2 ⟨rfl, hb2⟩
      have X2 := Lib.hid (X1.out.step hb2)
      go_wp2_with fail
      go_ret2
      exact ⟨ret_dst R.out, X2.out.bel⟩
    · have R := Lib.hid (M.dst_0 hx hy)
      have HX := Lib.hid hx
      have HY := Lib.hid hy
      clear hx hy
      go_enter Try.func23, Try.ntmps23
      go_wp2_with fail
      refine (Atomic_at _ (Lib.hid X0.out.tab) h1 h2 HX).mono ?_; rintro e' w1 ⟨rfl, hb1⟩
      have X1 := Lib.hid (X0.out.step hb1); have q1 := X1.out.cell; have z1 := X1.out.lt
      go_wp2_with fail
      refine (Atomic_at _ (Lib.hid X1.out.tab) h3 h4 HY).mono ?_; rintro e' w2 ⟨rfl, hb2⟩
      have X2 := Lib.hid (X1.out.step hb2)
      go_wp2_with fail
      go_ret2
      exact ⟨ret_dst R.out, X2.out.bel⟩
theorem Distance_at {sl : Option Addr} {n b o cap : Nat} {A T : Nat → Int} {x y u e : Int} (w : World) (h : Hid (Tab w sl n b o A T)) (h1 : -9223372036854775808 ≤ x) (h2 : x ≤ 9223372036854775807) (h3 : -9223372036854775808 ≤ y) (h4 : y ≤ 9223372036854775807) (hv : Hid (M.dst n A T x y = (u, e))) :
    Calls Try.prog 23 #[.agg #[.slice sl n cap], .int .i64 x, .int .i64 y] w fun z w' => z = .returned (.tuple #[.int .i64 u, .int .i64 e]) ∧ Below w.heap.size w w' :=
  (Distance_any x y w h h1 h2 h3 h4).mono fun _ _ ⟨he, hw⟩ => ⟨he.trans (ret_dst hv.out).symm, hw⟩

/-- The instant at a distance. -/
noncomputable def M.adl (n : Nat) (A T : Nat → Int) (x d : Int) : Int × Int :=
  if (M.atm n A T x).2 ≠ 0 then (0, (M.atm n A T x).2) else if 1013609203200 < d ∨ d < -1013609203200 then (0, 2)
  else if (M.cvl n A T ((M.atm n A T x).1 + d)).2 ≠ 0 then (0, (M.cvl n A T ((M.atm n A T x).1 + d)).2)
  else if (M.cvl n A T ((M.atm n A T x).1 + d)).1.2 = true then (0, 11) else ((M.cvl n A T ((M.atm n A T x).1 + d)).1.1, 0)
theorem M.adl_1 {n : Nat} {A T : Nat → Int} {x d u e : Int} (h : M.atm n A T x = (u, e)) (he : e ≠ 0) : M.adl n A T x d = (0, e) := by unfold M.adl; rw [h, if_pos he]
theorem M.adl_2 {n : Nat} {A T : Nat → Int} {x d u : Int} (h : M.atm n A T x = (u, 0)) (hd : 1013609203200 < d ∨ d < -1013609203200) : M.adl n A T x d = (0, 2) := by unfold M.adl; rw [h, if_neg (by simp), if_pos hd]
theorem M.adl_3 {n : Nat} {A T : Nat → Int} {x d u c e : Int} {i : Bool} (h : M.atm n A T x = (u, 0)) (hd : ¬ (1013609203200 < d ∨ d < -1013609203200)) (hc : M.cvl n A T (u + d) = ((c, i), e)) (he : e ≠ 0) : M.adl n A T x d = (0, e) := by
  unfold M.adl; rw [h, if_neg (by simp), if_neg hd]; simp only []; rw [hc, if_pos he]
theorem M.adl_4 {n : Nat} {A T : Nat → Int} {x d u c : Int} (h : M.atm n A T x = (u, 0)) (hd : ¬ (1013609203200 < d ∨ d < -1013609203200)) (hc : M.cvl n A T (u + d) = ((c, true), 0)) : M.adl n A T x d = (0, 11) := by
  unfold M.adl; rw [h, if_neg (by simp), if_neg hd]; simp only []; rw [hc, if_neg (by simp), if_pos rfl]
theorem M.adl_0 {n : Nat} {A T : Nat → Int} {x d u c : Int} (h : M.atm n A T x = (u, 0)) (hd : ¬ (1013609203200 < d ∨ d < -1013609203200)) (hc : M.cvl n A T (u + d) = ((c, false), 0)) : M.adl n A T x d = (c, 0) := by
  unfold M.adl; rw [h, if_neg (by simp), if_neg hd]; simp only []; rw [hc, if_neg (by simp), if_neg (by simp)]
theorem ret_adl {n : Nat} {A T : Nat → Int} {a b u e : Int} (h : M.adl n A T a b = (u, e)) : Ending.returned (.tuple #[.int .i64 u, .int .i64 e]) = .returned (.tuple #[.int .i64 (M.adl n A T a b).1, .int .i64 (M.adl n A T a b).2]) := by rw [h]

set_option maxHeartbeats 1000000 in
theorem Add_any {sl : Option Addr} {n b o cap : Nat} {A T : Nat → Int} (x d : Int) (w : World) (h : Hid (Tab w sl n b o A T)) (h1 : -9223372036854775808 ≤ x) (h2 : x ≤ 9223372036854775807) (h3 : -9223372036854775808 ≤ d) (h4 : d ≤ 9223372036854775807) :
    Calls Try.prog 27 #[.agg #[.slice sl n cap], .int .i64 x, .int .i64 d] w fun e w' => e = .returned (.tuple #[.int .i64 (M.adl n A T x d).1, .int .i64 (M.adl n A T x d).2]) ∧ Below w.heap.size w w' := by
  have x0 := Bx.start cap h.out
  have X0 := Lib.hid x0
  clear x0
  rcases M.atm_cases n A T x with ⟨e, hx, he, _⟩ | ⟨u, hx, -, -, -, -, u1, u2⟩
  · have R := Lib.hid (M.adl_1 (d := d) hx he)
    have HX := Lib.hid hx
    have e0 : (e != 0) = true := by simp [he]
    clear hx he
    go_enter Try.func27, Try.ntmps27
    go_wp2_with fail
    refine (Atomic_at _ (Lib.hid X0.out.tab) h1 h2 HX).mono ?_; rintro e' w1 ⟨rfl, hb1⟩
    have X1 := Lib.hid (X0.out.step hb1)
    go_wp2_with fail
    go_ret2
    exact ⟨ret_adl R.out, X1.out.bel⟩
  · have HX := Lib.hid hx
    by_cases hd : 1013609203200 < d ∨ d < -1013609203200
    · have R := Lib.hid (M.adl_2 hx hd)
      have hd' : 1013609203200 < d ∨ (d ≤ 1013609203200 ∧ d < -1013609203200) := by omega
      clear hx hd
      rcases hd' with hd | ⟨hd, hd'⟩
      all_goals
        go_enter Try.func27, Try.ntmps27
        go_wp2_with fail
        refine (Atomic_at _ (Lib.hid X0.out.tab) h1 h2 HX).mono ?_; rintro e' w1 ⟨rfl, hb1⟩
        have X1 := Lib.hid (X0.out.step hb1)
        go_wp2_with fail
        go_ret2
        exact ⟨ret_adl R.out, X1.out.bel⟩
    · obtain ⟨⟨⟨c, i⟩, e⟩, hc⟩ : ∃ z, M.cvl n A T (u + d) = z := ⟨_, rfl⟩
      have HC := Lib.hid hc
      have d1 : d ≤ 1013609203200 := by omega
      have d2 : -1013609203200 ≤ d := by omega
      have RR : (e ≠ 0 ∧ Hid (M.adl n A T x d = (0, e))) ∨ (e = 0 ∧ i = true ∧ Hid (M.adl n A T x d = (0, 11))) ∨ (e = 0 ∧ i = false ∧ Hid (M.adl n A T x d = (c, 0))) := by
        by_cases he : e = 0
        · subst he
          right
          cases i
          · right; exact ⟨rfl, rfl, Lib.hid (M.adl_0 hx hd hc)⟩
          · left; exact ⟨rfl, rfl, Lib.hid (M.adl_4 hx hd hc)⟩
        · left; exact ⟨he, Lib.hid (M.adl_3 hx hd hc he)⟩
      clear hx hd hc
      rcases RR with ⟨he, R⟩ | ⟨rfl, rfl, R⟩ | ⟨rfl, rfl, R⟩
      · have e0 : (e != 0) = true := by simp [he]
        clear he
        go_enter Try.func27, Try.ntmps27
        go_wp2_with fail
        refine (Atomic_at _ (Lib.hid X0.out.tab) h1 h2 HX).mono ?_; rintro e' w1 ⟨rfl, hb1⟩
        have X1 := Lib.hid (X0.out.step hb1); have q1 := X1.out.cell; have z1 := X1.out.lt
        go_wp2_with fail
        refine (Civil_at _ (Lib.hid X1.out.tab) (by omega) (by omega) HC).mono ?_; rintro e' w2 ⟨rfl, hb2⟩
        have X2 := Lib.hid (X1.out.step hb2)
        go_wp2_with fail
        go_ret2
        exact ⟨ret_adl R.out, X2.out.bel⟩
      · go_enter Try.func27, Try.ntmps27
        go_wp2_with fail
        refine (Atomic_at _ (Lib.hid X0.out.tab) h1 h2 HX).mono ?_; rintro e' w1 ⟨rfl, hb1⟩
        have X1 := Lib.hid (X0.out.step hb1); have q1 := X1.out.cell; have z1 := X1.out.lt
        go_wp2_with fail
        refine (Civil_at _ (Lib.hid X1.out.tab) (by omega) (by omega) HC).mono ?_; rintro e' w2 ⟨rfl, hb2⟩
        have X2 := Lib.hid (X1.out.step hb2)
        go_wp2_with fail
        go_ret2
        exact ⟨ret_adl R.out, X2.out.bel⟩
      · go_enter Try.func27, Try.ntmps27
        go_wp2_with fail
        refine (Atomic_at _ (Lib.hid X0.out.tab) h1 h2 HX).mono ?_; rintro e' w1 ⟨rfl, hb1⟩
        have X1 := Lib.hid (X0.out.step hb1); have q1 := X1.out.cell; have z1 := X1.out.lt
        go_wp2_with fail
        refine (Civil_at _ (Lib.hid X1.out.tab) (by omega) (by omega) HC).mono ?_; rintro e' w2 ⟨rfl, hb2⟩
        have X2 := Lib.hid (X1.out.step hb2)
        go_wp2_with fail
        go_ret2
        exact ⟨ret_adl R.out, X2.out.bel⟩
theorem Add_at {sl : Option Addr} {n b o cap : Nat} {A T : Nat → Int} {x y u e : Int} (w : World) (h : Hid (Tab w sl n b o A T)) (h1 : -9223372036854775808 ≤ x) (h2 : x ≤ 9223372036854775807) (h3 : -9223372036854775808 ≤ y) (h4 : y ≤ 9223372036854775807) (hv : Hid (M.adl n A T x y = (u, e))) :
    Calls Try.prog 27 #[.agg #[.slice sl n cap], .int .i64 x, .int .i64 y] w fun z w' => z = .returned (.tuple #[.int .i64 u, .int .i64 e]) ∧ Below w.heap.size w w' :=
  (Add_any x y w h h1 h2 h3 h4).mono fun _ _ ⟨he, hw⟩ => ⟨he.trans (ret_adl hv.out).symm, hw⟩

end Go.Proofs.Ytplgladflhglaaa.Lp
