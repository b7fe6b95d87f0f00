/- Walk of the long division. -/
import Derived.Test.YtfmdgeeooohilaaIntAw
import Derived.Test.YtfmdgeeooohilaaIntD3
namespace Go.Proofs.Ytfmdgeeooohilaa
set_option linter.unusedVariables false
set_option linter.unusedSimpArgs false
open Go.RowKit

theorem ret_u2 {q a b : Int} (h : a = b) : Ending.returned (.tuple #[.int .u64 q, .int .u64 a]) = .returned (.tuple #[.int .u64 q, .int .u64 b]) := by rw [h]
/-- A difference of words whose true value is a word. -/
theorem M.sub_word {a c x U m1 m2 m3 : Int} (hU : a * 4294967296 + c - x = U) (h0 : 0 ≤ U) (h1 : U < 18446744073709551616) (M1 : IntKind.u64.wrap (a * 4294967296) = m1) (M2 : IntKind.u64.wrap (m1 + c) = m2) (M3 : IntKind.u64.wrap x = m3) :
    IntKind.u64.wrap (m2 - m3) = U := by
  rw [IntKind.wrap_u64] at *
  omega

set_option maxRecDepth 100000 in
set_option maxHeartbeats 8000000 in
theorem Div64_long (hi lo y : Int) (w : World) (h1 : 1 ≤ hi) (h2 : hi < y) (h3 : 0 ≤ lo) (h4 : lo ≤ 18446744073709551615) (h5 : y ≤ 18446744073709551615) :
    Calls Try.prog 33 #[.int .u64 hi, .int .u64 lo, .int .u64 y] w fun e w' => (∃ q, e = .returned (.tuple #[.int .u64 q, .int .u64 ((hi * 18446744073709551616 + lo) % y)])) ∧ w = w' := by
  have y0z : (y == 0) = false := by simp; omega
  have hi0 : (hi == 0) = false := by simp; omega
  have hy1 : 1 ≤ y := by omega
  obtain ⟨s, Y, H, L, u, Z, c1, c0, y1, y0, p, hs, hbl, E0, E1, E3, E2, E4, E5, E6, E7, E8, E9, hYY, y1a, y1b, y0a, y0b, sh⟩ := M.shiftedI hi lo y (by omega) h2 h3 h4 h5
  have SH := Lib.hid sh
  have HL : Hid (∀ w, Calls Try.prog 39 #[.int .u64 y] w fun e w' => e = .returned (.int .i64 (s : Int)) ∧ w = w') := Lib.hid fun w =>
    (Try.bits_LeadingZeros64 y w (by omega) (by omega)).mono fun _ _ ⟨he, hw⟩ => ⟨he.trans (by rw [hbl]), hw.symm⟩
  have p1 := sh.p1
  have u0 := sh.u0
  have uY := sh.uY
  have c1a := sh.c1a
  have c1b := sh.c1b
  have c0a := sh.c0a
  have c0b := sh.c0b
  have Ya := sh.lo63
  have Yb := sh.hi64
  have DS := Lib.hid (M.Dig.start hYY y1a y1b y0a y0b u0 uY c1a c1b)
  have d1 : 0 ≤ u / y1 := DS.out.q0
  have d2 : u / y1 ≤ 4294967297 := DS.out.qB
  have d3 : 0 ≤ u - u / y1 * y1 := DS.out.r0
  have d4 : u - u / y1 * y1 < 4294967296 := DS.out.rB
  have d5 : u / y1 * y1 ≤ u := by omega
  have d6 : 0 ≤ u / y1 * y1 := Int.mul_nonneg d1 (by omega)
  have Z0 : 0 ≤ Z := by rw [← E7, IntKind.wrap_u64]; omega
  have Z1 : Z ≤ 18446744073709551615 := by rw [← E7, IntKind.wrap_u64]; omega
  have H0 : 0 ≤ H := by rw [← E4, IntKind.wrap_u64]; omega
  have H1 : H ≤ 18446744073709551615 := by rw [← E4, IntKind.wrap_u64]; omega
  have HYY := Lib.hid hYY
  clear sh hbl hYY
  go_enter Try.func33, Try.ntmps33
  go_wp2_with (go_at_call 39; refine (HL.out _).mono ?_; rintro e w' ⟨rfl, rfl⟩)
  clear E1 E2 E3 E4 E5 E6 E7 E8 E9
  go_loop [15, 16] (fun q r => ∃ Q R : Int, q = .int .u64 Q ∧ r = .int .u64 R ∧ Hid (M.Dig Y y1 y0 u c1 Q R)) (fun q _ => (intOf q).toNat)
  case atStart => exact ⟨_, _, rfl, rfl, DS⟩
  case round =>
    clear d1 d2 d3 d4 d5 d6 DS
    obtain ⟨Q, R, rfl, rfl, D⟩ := hrel
    have q0 := D.out.q0
    have qB := D.out.qB
    have r0 := D.out.r0
    have rB := D.out.rB
    by_cases ht : 4294967296 ≤ Q ∨ 4294967296 * R + c1 < Q * y0
    · have g := D.out.great ht
      obtain ⟨_, g2⟩ := g
      by_cases hr : R + y1 < 4294967296
      · have nx := Lib.hid (D.out.next ht hr)
        have ht' : 4294967296 ≤ Q ∨ (Q < 4294967296 ∧ 4294967296 * R + c1 < Q * y0 ∧ 0 ≤ Q * y0 ∧ Q * y0 < 18446744073709551616) := by
          rcases Int.lt_or_le Q 4294967296 with h | h
          · have := D.out.small h; omega
          · exact .inl h
        clear ht
        rcases ht' with ht | ⟨ht, ht', sm1, sm2⟩
        all_goals
          go_wp2
          go_round
          case rel => exact ⟨_, _, rfl, rfl, nx⟩
          case measure => simp [intOf]; omega
      · obtain ⟨f1, f2, f3, f4⟩ := D.out.stops ht (by omega)
        have ht' : 4294967296 ≤ Q ∨ (Q < 4294967296 ∧ 4294967296 * R + c1 < Q * y0 ∧ 0 ≤ Q * y0 ∧ Q * y0 < 18446744073709551616) := by
          rcases Int.lt_or_le Q 4294967296 with h | h
          · have := D.out.small h; omega
          · exact .inl h
        have hr' : 4294967296 ≤ R + y1 := by omega
        clear ht hr D
        rcases ht' with ht | ⟨ht, ht', sm1, sm2⟩
        all_goals
          obtain ⟨U, hU⟩ : ∃ U, u * 4294967296 + c1 - (Q - 1) * Y = U := ⟨_, rfl⟩
          obtain ⟨n1, N1⟩ : ∃ m, IntKind.u64.wrap (u * 4294967296) = m := ⟨_, rfl⟩
          obtain ⟨n2, N2⟩ : ∃ m, IntKind.u64.wrap (n1 + c1) = m := ⟨_, rfl⟩
          obtain ⟨n3, N3⟩ : ∃ m, IntKind.u64.wrap ((Q - 1) * Y) = m := ⟨_, rfl⟩
          have U0 : 0 ≤ U := by rw [← hU]; exact f1
          have U1 : U < Y := by rw [← hU]; exact f2
          have N4 : IntKind.u64.wrap (n2 - n3) = U := M.sub_word hU (by omega) (by omega) N1 N2 N3
          have DS := Lib.hid (M.Dig.start HYY.out y1a y1b y0a y0b U0 U1 c0a c0b)
          have d1 : 0 ≤ U / y1 := DS.out.q0
          have d2 : U / y1 ≤ 4294967297 := DS.out.qB
          have d3 : 0 ≤ U - U / y1 * y1 := DS.out.r0
          have d4 : U - U / y1 * y1 < 4294967296 := DS.out.rB
          have d5 : U / y1 * y1 ≤ U := by omega
          have d6 : 0 ≤ U / y1 * y1 := Int.mul_nonneg d1 (by omega)
          go_wp2
          go_loop [18, 16] (fun q r => ∃ Q R : Int, q = .int .u64 Q ∧ r = .int .u64 R ∧ Hid (M.Dig Y y1 y0 U c0 Q R)) (fun q _ => (intOf q).toNat)
          case atStart => exact ⟨_, _, rfl, rfl, DS⟩
          case round =>
            clear d1 d2 d3 d4 d5 d6 N4 N3 N2 N1 DS
            obtain ⟨Q', R', rfl, rfl, D⟩ := hrel
            have q0 := D.out.q0
            have qB := D.out.qB
            have r0 := D.out.r0
            have rB := D.out.rB
            by_cases ht : 4294967296 ≤ Q' ∨ 4294967296 * R' + c0 < Q' * y0
            · have g := D.out.great ht
              obtain ⟨_, g2⟩ := g
              by_cases hr : R' + y1 < 4294967296
              · have nx := Lib.hid (D.out.next ht hr)
                have ht' : 4294967296 ≤ Q' ∨ (Q' < 4294967296 ∧ 4294967296 * R' + c0 < Q' * y0 ∧ 0 ≤ Q' * y0 ∧ Q' * y0 < 18446744073709551616) := by
                  rcases Int.lt_or_le Q' 4294967296 with h | h
                  · have := D.out.small h; omega
                  · exact .inl h
                clear ht
                rcases ht' with ht | ⟨ht, ht', sm1, sm2⟩
                all_goals
                  go_wp2
                  go_round
                  case rel => exact ⟨_, _, rfl, rfl, nx⟩
                  case measure => simp [intOf]; omega
              · obtain ⟨e1, e2, e3, e4⟩ := D.out.stops ht (by omega)
                have ht' : 4294967296 ≤ Q' ∨ (Q' < 4294967296 ∧ 4294967296 * R' + c0 < Q' * y0 ∧ 0 ≤ Q' * y0 ∧ Q' * y0 < 18446744073709551616) := by
                  rcases Int.lt_or_le Q' 4294967296 with h | h
                  · have := D.out.small h; omega
                  · exact .inl h
                have hr' : 4294967296 ≤ R' + y1 := by omega
                rw [← hU] at e1 e2
                clear ht hr
                rcases ht' with ht | ⟨ht, ht', sm1, sm2⟩
                all_goals
                  have RR := Lib.hid (SH.out.rest (q1 := Q - 1) (q0 := Q' - 1) hy1 e1 e2)
                  obtain ⟨T, hT⟩ : ∃ T, (u * 4294967296 + c1 - (Q - 1) * Y) * 4294967296 + c0 - (Q' - 1) * Y = T := ⟨_, rfl⟩
                  obtain ⟨m1, M1⟩ : ∃ m, IntKind.u64.wrap (U * 4294967296) = m := ⟨_, rfl⟩
                  obtain ⟨m2, M2⟩ : ∃ m, IntKind.u64.wrap (m1 + c0) = m := ⟨_, rfl⟩
                  obtain ⟨m3, M3⟩ : ∃ m, IntKind.u64.wrap ((Q' - 1) * Y) = m := ⟨_, rfl⟩
                  have M4 : IntKind.u64.wrap (m2 - m3) = T := M.sub_word (hU ▸ hT) (by have := e1; omega) (by have := e2; omega) M1 M2 M3
                  obtain ⟨m5, M5⟩ : ∃ m, IntKind.u64.wrap ((Q - 1) * 4294967296) = m := ⟨_, rfl⟩
                  obtain ⟨m6, M6⟩ : ∃ m, IntKind.u64.wrap (m5 + (Q' - 1)) = m := ⟨_, rfl⟩
                  have t0 : 0 ≤ T := by have := e1; omega
                  have t1 : T ≤ 18446744073709551615 := by have := e2; omega
                  have RT : Hid (T / p = (hi * 18446744073709551616 + lo) % y) := Lib.hid (by have := RR.out; rw [hT] at this; exact this)
                  have tp0 : 0 ≤ T / p := Int.ediv_nonneg t0 (by omega)
                  have tp1 : T / p ≤ T := Int.ediv_le_self _ t0
                  clear hT RR
                  go_wp2
                  go_ret2
                  exact ⟨⟨_, ret_u2 RT.out⟩, rfl⟩
            · have ht1 : Q' < 4294967296 := by omega
              have ht2 : Q' * y0 ≤ 4294967296 * R' + c0 := by omega
              obtain ⟨e1, e2, e3, e4⟩ := D.out.fits ht1 ht2
              obtain ⟨sm1, sm2⟩ := D.out.small ht1
              rw [← hU] at e1 e2
              clear ht
              have RR := Lib.hid (SH.out.rest (q1 := Q - 1) (q0 := Q') hy1 e1 e2)
              obtain ⟨T, hT⟩ : ∃ T, (u * 4294967296 + c1 - (Q - 1) * Y) * 4294967296 + c0 - (Q') * Y = T := ⟨_, rfl⟩
              obtain ⟨m1, M1⟩ : ∃ m, IntKind.u64.wrap (U * 4294967296) = m := ⟨_, rfl⟩
              obtain ⟨m2, M2⟩ : ∃ m, IntKind.u64.wrap (m1 + c0) = m := ⟨_, rfl⟩
              obtain ⟨m3, M3⟩ : ∃ m, IntKind.u64.wrap ((Q') * Y) = m := ⟨_, rfl⟩
              have M4 : IntKind.u64.wrap (m2 - m3) = T := M.sub_word (hU ▸ hT) (by have := e1; omega) (by have := e2; omega) M1 M2 M3
              obtain ⟨m5, M5⟩ : ∃ m, IntKind.u64.wrap ((Q - 1) * 4294967296) = m := ⟨_, rfl⟩
              obtain ⟨m6, M6⟩ : ∃ m, IntKind.u64.wrap (m5 + (Q')) = m := ⟨_, rfl⟩
              have t0 : 0 ≤ T := by have := e1; omega
              have t1 : T ≤ 18446744073709551615 := by have := e2; omega
              have RT : Hid (T / p = (hi * 18446744073709551616 + lo) % y) := Lib.hid (by have := RR.out; rw [hT] at this; exact this)
              have tp0 : 0 ≤ T / p := Int.ediv_nonneg t0 (by omega)
              have tp1 : T / p ≤ T := Int.ediv_le_self _ t0
              clear hT RR
              go_wp2
              go_ret2
              exact ⟨⟨_, ret_u2 RT.out⟩, rfl⟩
    · have ht1 : Q < 4294967296 := by omega
      have ht2 : Q * y0 ≤ 4294967296 * R + c1 := by omega
      obtain ⟨f1, f2, f3, f4⟩ := D.out.fits ht1 ht2
      obtain ⟨sm1, sm2⟩ := D.out.small ht1
      clear ht D
      obtain ⟨U, hU⟩ : ∃ U, u * 4294967296 + c1 - (Q) * Y = U := ⟨_, rfl⟩
      obtain ⟨n1, N1⟩ : ∃ m, IntKind.u64.wrap (u * 4294967296) = m := ⟨_, rfl⟩
      obtain ⟨n2, N2⟩ : ∃ m, IntKind.u64.wrap (n1 + c1) = m := ⟨_, rfl⟩
      obtain ⟨n3, N3⟩ : ∃ m, IntKind.u64.wrap ((Q) * Y) = m := ⟨_, rfl⟩
      have U0 : 0 ≤ U := by rw [← hU]; exact f1
      have U1 : U < Y := by rw [← hU]; exact f2
      have N4 : IntKind.u64.wrap (n2 - n3) = U := M.sub_word hU (by omega) (by omega) N1 N2 N3
      have DS := Lib.hid (M.Dig.start HYY.out y1a y1b y0a y0b U0 U1 c0a c0b)
      have d1 : 0 ≤ U / y1 := DS.out.q0
      have d2 : U / y1 ≤ 4294967297 := DS.out.qB
      have d3 : 0 ≤ U - U / y1 * y1 := DS.out.r0
      have d4 : U - U / y1 * y1 < 4294967296 := DS.out.rB
      have d5 : U / y1 * y1 ≤ U := by omega
      have d6 : 0 ≤ U / y1 * y1 := Int.mul_nonneg d1 (by omega)
      go_wp2
      go_loop [18, 16] (fun q r => ∃ Q R : Int, q = .int .u64 Q ∧ r = .int .u64 R ∧ Hid (M.Dig Y y1 y0 U c0 Q R)) (fun q _ => (intOf q).toNat)
      case atStart => exact ⟨_, _, rfl, rfl, DS⟩
      case round =>
        clear d1 d2 d3 d4 d5 d6 N4 N3 N2 N1 DS
        obtain ⟨Q', R', rfl, rfl, D⟩ := hrel
        have q0 := D.out.q0
        have qB := D.out.qB
        have r0 := D.out.r0
        have rB := D.out.rB
        by_cases ht : 4294967296 ≤ Q' ∨ 4294967296 * R' + c0 < Q' * y0
        · have g := D.out.great ht
          obtain ⟨_, g2⟩ := g
          by_cases hr : R' + y1 < 4294967296
          · have nx := Lib.hid (D.out.next ht hr)
            have ht' : 4294967296 ≤ Q' ∨ (Q' < 4294967296 ∧ 4294967296 * R' + c0 < Q' * y0 ∧ 0 ≤ Q' * y0 ∧ Q' * y0 < 18446744073709551616) := by
              rcases Int.lt_or_le Q' 4294967296 with h | h
              · have := D.out.small h; omega
              · exact .inl h
            clear ht
            rcases ht' with ht | ⟨ht, ht', sm1, sm2⟩
            all_goals
              go_wp2
              go_round
              case rel => exact ⟨_, _, rfl, rfl, nx⟩
              case measure => simp [intOf]; omega
          · obtain ⟨e1, e2, e3, e4⟩ := D.out.stops ht (by omega)
            have ht' : 4294967296 ≤ Q' ∨ (Q' < 4294967296 ∧ 4294967296 * R' + c0 < Q' * y0 ∧ 0 ≤ Q' * y0 ∧ Q' * y0 < 18446744073709551616) := by
              rcases Int.lt_or_le Q' 4294967296 with h | h
              · have := D.out.small h; omega
              · exact .inl h
            have hr' : 4294967296 ≤ R' + y1 := by omega
            rw [← hU] at e1 e2
            clear ht hr
            rcases ht' with ht | ⟨ht, ht', sm1, sm2⟩
            all_goals
              have RR := Lib.hid (SH.out.rest (q1 := Q) (q0 := Q' - 1) hy1 e1 e2)
              obtain ⟨T, hT⟩ : ∃ T, (u * 4294967296 + c1 - (Q) * Y) * 4294967296 + c0 - (Q' - 1) * Y = T := ⟨_, rfl⟩
              obtain ⟨m1, M1⟩ : ∃ m, IntKind.u64.wrap (U * 4294967296) = m := ⟨_, rfl⟩
              obtain ⟨m2, M2⟩ : ∃ m, IntKind.u64.wrap (m1 + c0) = m := ⟨_, rfl⟩
              obtain ⟨m3, M3⟩ : ∃ m, IntKind.u64.wrap ((Q' - 1) * Y) = m := ⟨_, rfl⟩
              have M4 : IntKind.u64.wrap (m2 - m3) = T := M.sub_word (hU ▸ hT) (by have := e1; omega) (by have := e2; omega) M1 M2 M3
              obtain ⟨m5, M5⟩ : ∃ m, IntKind.u64.wrap ((Q) * 4294967296) = m := ⟨_, rfl⟩
              obtain ⟨m6, M6⟩ : ∃ m, IntKind.u64.wrap (m5 + (Q' - 1)) = m := ⟨_, rfl⟩
              have t0 : 0 ≤ T := by have := e1; omega
              have t1 : T ≤ 18446744073709551615 := by have := e2; omega
              have RT : Hid (T / p = (hi * 18446744073709551616 + lo) % y) := Lib.hid (by have := RR.out; rw [hT] at this; exact this)
              have tp0 : 0 ≤ T / p := Int.ediv_nonneg t0 (by omega)
              have tp1 : T / p ≤ T := Int.ediv_le_self _ t0
              clear hT RR
              go_wp2
              go_ret2
              exact ⟨⟨_, ret_u2 RT.out⟩, rfl⟩
        · have ht1 : Q' < 4294967296 := by omega
          have ht2 : Q' * y0 ≤ 4294967296 * R' + c0 := by omega
          obtain ⟨e1, e2, e3, e4⟩ := D.out.fits ht1 ht2
          obtain ⟨sm1, sm2⟩ := D.out.small ht1
          rw [← hU] at e1 e2
          clear ht
          have RR := Lib.hid (SH.out.rest (q1 := Q) (q0 := Q') hy1 e1 e2)
          obtain ⟨T, hT⟩ : ∃ T, (u * 4294967296 + c1 - (Q) * Y) * 4294967296 + c0 - (Q') * Y = T := ⟨_, rfl⟩
          obtain ⟨m1, M1⟩ : ∃ m, IntKind.u64.wrap (U * 4294967296) = m := ⟨_, rfl⟩
          obtain ⟨m2, M2⟩ : ∃ m, IntKind.u64.wrap (m1 + c0) = m := ⟨_, rfl⟩
          obtain ⟨m3, M3⟩ : ∃ m, IntKind.u64.wrap ((Q') * Y) = m := ⟨_, rfl⟩
          have M4 : IntKind.u64.wrap (m2 - m3) = T := M.sub_word (hU ▸ hT) (by have := e1; omega) (by have := e2; omega) M1 M2 M3
          obtain ⟨m5, M5⟩ : ∃ m, IntKind.u64.wrap ((Q) * 4294967296) = m := ⟨_, rfl⟩
          obtain ⟨m6, M6⟩ : ∃ m, IntKind.u64.wrap (m5 + (Q')) = m := ⟨_, rfl⟩
          have t0 : 0 ≤ T := by have := e1; omega
          have t1 : T ≤ 18446744073709551615 := by have := e2; omega
          have RT : Hid (T / p = (hi * 18446744073709551616 + lo) % y) := Lib.hid (by have := RR.out; rw [hT] at this; exact this)
          have tp0 : 0 ≤ T / p := Int.ediv_nonneg t0 (by omega)
          have tp1 : T / p ≤ T := Int.ediv_le_self _ t0
          clear hT RR
          go_wp2
          go_ret2
          exact ⟨⟨_, ret_u2 RT.out⟩, rfl⟩

end Go.Proofs.Ytfmdgeeooohilaa
