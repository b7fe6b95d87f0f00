/- Finer, Divides, Common for whatever calendars; the law ConversionPairs. -/
import Derived.Test.YtainibnjpkbfpaaCalM6
import Derived.Test.YtainibnjpkbfpaaCalW26
namespace Go.Proofs.Ytainibnjpkbfpaa.Cv
set_option linter.unusedVariables false
set_option linter.unusedSimpArgs false
open Go.RowKit Wl

theorem both {a b : Bool} (h : (a && b) = true) : Hid (a = true) ∧ Hid (b = true) := by
  rw [Bool.and_eq_true] at h; exact ⟨Lib.hid h.1, Lib.hid h.2⟩
/-- What the contracts of pairs ask, where there is a common period. -/
theorem cp_get {a b : Cal} (ha : Vc a) (hb : Vc b) {z : Int} (hp : prr a b = (z, 0)) : ∃ qa qb : Int, ∃ K K2 : Nat, Cp a b z qa qb ∧ qa * (a.l.length : Int) = (K : Int) ∧ qb * (b.l.length : Int) = (K2 : Int) ∧ K ≤ 5000 ∧ K2 ≤ 5000 ∧
    ((z / a.p * a.l.length).toNat = K) ∧ ((z / b.p * b.l.length).toNat = K2) := by
  rcases prr_cases ha hb with ⟨z', e, _, _, h⟩ | ⟨z', qa, qb, cp, h⟩
  · rw [hp] at h; injection h with _ h; cases h
  · rcases h with ⟨h, _⟩ | ⟨h, h1, h2⟩
    · rw [hp] at h; injection h with _ h; cases h
    · rw [hp] at h
      injection h with h _
      subst h
      obtain ⟨K, K2, e1, e2, k1, k2⟩ := cp_count ha hb cp h1 h2
      exact ⟨qa, qb, K, K2, cp, e1, e2, k1, k2, by rw [cp.da, e1]; rfl, by rw [cp.db, e2]; rfl⟩
theorem prr_e {a b : Cal} (ha : Vc a) (hb : Vc b) : (prr a b = (0, 9)) ∨ ∃ z e, prr a b = (z, e) ∧ (e = 5 ∨ e = 0) ∧ z % a.p = 0 ∧ z % b.p = 0 ∧ 1 ≤ z ∧ z ≤ 12622780800 := by
  rcases prr_cases ha hb with ⟨z', e, _, _, h⟩ | ⟨z', qa, qb, cp, h⟩
  · exact .inl h
  · right
    rcases h with ⟨h, _⟩ | ⟨h, h1, h2⟩
    · exact ⟨z', 5, h, .inl rfl, cp.ra, cp.rb, cp.m1, cp.m2⟩
    · exact ⟨z', 0, h, .inr rfl, cp.ra, cp.rb, cp.m1, cp.m2⟩
theorem Finer_at {A B : Option Addr} {n cp m cq : Nat} {o p r s : Int} {l g : List (Int × Int)} {b : Bool} {e : Int} (w : World) (h : Hid (Sr w A n cp l)) (k : Hid (Sr w B m cq g)) (hf : Hid (fnr ⟨o, p, l⟩ ⟨r, s, g⟩ = (b, e))) :
    Calls Try.prog 39 #[.agg #[.int .i64 o, .int .i64 p, .slice A n cp], .agg #[.int .i64 r, .int .i64 s, .slice B m cq]] w fun x w' => x = .returned (.tuple #[.bool b, .int .i64 e]) ∧ Below w.heap.size w w' := by
  have hf' := hf.out
  rcases hb : (vld ⟨o, p, l⟩ && vld ⟨r, s, g⟩) with _ | _
  · rw [fnr_bad hb] at hf'
    injection hf' with e1 e2
    subst e1 e2
    exact Finer_bad w h k (Lib.hid hb)
  · obtain ⟨hv, kv⟩ := both hb
    have V := hVc hv
    have V2 := hVc kv
    obtain ⟨⟨z, e'⟩, hp⟩ : ∃ q, prr ⟨o, p, l⟩ ⟨r, s, g⟩ = q := ⟨_, rfl⟩
    unfold fnr at hf'
    rw [if_pos hb, hp] at hf'
    by_cases he : e' = 0
    · subst he
      rw [if_pos rfl] at hf'
      obtain ⟨qa, qb, K, K2, cp, e1, e2, k1, k2, t1, t2⟩ := cp_get V.out V2.out hp
      have := Finer_ok w h k hv kv (Lib.hid cp) (Lib.hid hp) K K2 e1 e2 k1 k2
      dsimp only at hf' t1 t2
      rw [t1] at hf'
      injection hf' with e3 e4
      rw [e3] at this
      rw [← e4]; exact this
    · rw [if_neg (by exact he)] at hf'
      injection hf' with e3 e4
      have := Finer_err w h k hv kv (Lib.hid hp) (Lib.hid he)
      rw [← e3, ← e4]; exact this
theorem Divides_at {A B : Option Addr} {n cp m cq : Nat} {o p r s : Int} {l g : List (Int × Int)} {b : Bool} {e : Int} (w : World) (h : Hid (Sr w A n cp l)) (k : Hid (Sr w B m cq g)) (hf : Hid (dvr ⟨o, p, l⟩ ⟨r, s, g⟩ = (b, e))) :
    Calls Try.prog 38 #[.agg #[.int .i64 o, .int .i64 p, .slice A n cp], .agg #[.int .i64 r, .int .i64 s, .slice B m cq]] w fun x w' => x = .returned (.tuple #[.bool b, .int .i64 e]) ∧ Below w.heap.size w w' := by
  have hf' := hf.out
  rcases hb : (vld ⟨o, p, l⟩ && vld ⟨r, s, g⟩) with _ | _
  · rw [dvr_bad hb] at hf'
    injection hf' with e1 e2
    subst e1 e2
    exact Divides_bad w h k (Lib.hid hb)
  · obtain ⟨hv, kv⟩ := both hb
    have V := hVc hv
    have V2 := hVc kv
    obtain ⟨⟨z, e'⟩, hp⟩ : ∃ q, prr ⟨o, p, l⟩ ⟨r, s, g⟩ = q := ⟨_, rfl⟩
    unfold dvr at hf'
    rw [if_pos hb, hp] at hf'
    by_cases he : e' = 0
    · subst he
      rw [if_pos rfl] at hf'
      obtain ⟨qa, qb, K, K2, cp, e1, e2, k1, k2, t1, t2⟩ := cp_get V.out V2.out hp
      have := Divides_ok w h k hv kv (Lib.hid cp) (Lib.hid hp) K K2 e1 e2 k1 k2
      dsimp only at hf' t1 t2
      rw [t2] at hf'
      injection hf' with e3 e4
      rw [e3] at this
      rw [← e4]; exact this
    · rw [if_neg (by exact he)] at hf'
      injection hf' with e3 e4
      have := Divides_err w h k hv kv (Lib.hid hp) (Lib.hid he)
      rw [← e3, ← e4]; exact this
theorem rFiner_at {A B : Option Addr} {n cp m cq : Nat} {o p r s : Int} {l g : List (Int × Int)} {b : Bool} {e : Int} (w : World) (h : Hid (Sr w A n cp l)) (k : Hid (Sr w B m cq g)) (hf : Hid (fnr ⟨o, p, l⟩ ⟨r, s, g⟩ = (b, e))) :
    Calls Try.prog 41 #[.agg #[.int .i64 o, .int .i64 p, .slice A n cp], .agg #[.int .i64 r, .int .i64 s, .slice B m cq]] w fun x w' => x = .returned (.tuple #[.bool b, .int .i64 e]) ∧ Below w.heap.size w w' := by
  have hf' := hf.out
  rcases hb : (vld ⟨o, p, l⟩ && vld ⟨r, s, g⟩) with _ | _
  · rw [fnr_bad hb] at hf'
    injection hf' with e1 e2
    subst e1 e2
    exact rFiner_bad w h k (Lib.hid hb)
  · obtain ⟨hv, kv⟩ := both hb
    have V := hVc hv
    have V2 := hVc kv
    obtain ⟨⟨z, e'⟩, hp⟩ : ∃ q, prr ⟨o, p, l⟩ ⟨r, s, g⟩ = q := ⟨_, rfl⟩
    unfold fnr at hf'
    rw [if_pos hb, hp] at hf'
    by_cases he : e' = 0
    · subst he
      rw [if_pos rfl] at hf'
      obtain ⟨qa, qb, K, K2, cp, e1, e2, k1, k2, t1, t2⟩ := cp_get V.out V2.out hp
      have := rFiner_ok w h k hv kv (Lib.hid cp) (Lib.hid hp) K K2 e1 e2 k1 k2
      dsimp only at hf' t1 t2
      rw [t1] at hf'
      injection hf' with e3 e4
      rw [e3] at this
      rw [← e4]; exact this
    · rw [if_neg (by exact he)] at hf'
      injection hf' with e3 e4
      have := rFiner_err w h k hv kv (Lib.hid hp) (Lib.hid he)
      rw [← e3, ← e4]; exact this
theorem rDivides_at {A B : Option Addr} {n cp m cq : Nat} {o p r s : Int} {l g : List (Int × Int)} {b : Bool} {e : Int} (w : World) (h : Hid (Sr w A n cp l)) (k : Hid (Sr w B m cq g)) (hf : Hid (dvr ⟨o, p, l⟩ ⟨r, s, g⟩ = (b, e))) :
    Calls Try.prog 42 #[.agg #[.int .i64 o, .int .i64 p, .slice A n cp], .agg #[.int .i64 r, .int .i64 s, .slice B m cq]] w fun x w' => x = .returned (.tuple #[.bool b, .int .i64 e]) ∧ Below w.heap.size w w' := by
  have hf' := hf.out
  rcases hb : (vld ⟨o, p, l⟩ && vld ⟨r, s, g⟩) with _ | _
  · rw [dvr_bad hb] at hf'
    injection hf' with e1 e2
    subst e1 e2
    exact rDivides_bad w h k (Lib.hid hb)
  · obtain ⟨hv, kv⟩ := both hb
    have V := hVc hv
    have V2 := hVc kv
    obtain ⟨⟨z, e'⟩, hp⟩ : ∃ q, prr ⟨o, p, l⟩ ⟨r, s, g⟩ = q := ⟨_, rfl⟩
    unfold dvr at hf'
    rw [if_pos hb, hp] at hf'
    by_cases he : e' = 0
    · subst he
      rw [if_pos rfl] at hf'
      obtain ⟨qa, qb, K, K2, cp, e1, e2, k1, k2, t1, t2⟩ := cp_get V.out V2.out hp
      have := rDivides_ok w h k hv kv (Lib.hid cp) (Lib.hid hp) K K2 e1 e2 k1 k2
      dsimp only at hf' t1 t2
      rw [t2] at hf'
      injection hf' with e3 e4
      rw [e3] at this
      rw [← e4]; exact this
    · rw [if_neg (by exact he)] at hf'
      injection hf' with e3 e4
      have := rDivides_err w h k hv kv (Lib.hid hp) (Lib.hid he)
      rw [← e3, ← e4]; exact this
theorem Common_at {A B : Option Addr} {n cp m cq : Nat} {o p r s : Int} {l g : List (Int × Int)} {z e : Int} (w : World) (h : Hid (Sr w A n cp l)) (k : Hid (Sr w B m cq g)) (hf : Hid (cmn ⟨o, p, l⟩ ⟨r, s, g⟩ = (z, e))) :
    Calls Try.prog 40 #[.agg #[.int .i64 o, .int .i64 p, .slice A n cp], .agg #[.int .i64 r, .int .i64 s, .slice B m cq]] w fun x w' => x = .returned (.tuple #[.int .i64 z, .int .i64 e]) ∧ Below w.heap.size w w' := by
  have hf' := hf.out
  rcases hb : (vld ⟨o, p, l⟩ && vld ⟨r, s, g⟩) with _ | _
  · rw [cmn_bad hb] at hf'
    injection hf' with e1 e2
    subst e1 e2
    exact Common_bad w h k (Lib.hid hb)
  · obtain ⟨hv, kv⟩ := both hb
    have V := hVc hv
    have V2 := hVc kv
    obtain ⟨⟨z', e'⟩, hp⟩ : ∃ q, prr ⟨o, p, l⟩ ⟨r, s, g⟩ = q := ⟨_, rfl⟩
    have he : e' = 0 ∨ e' = 5 ∨ e' = 9 := by
      rcases prr_e V.out V2.out with h | ⟨_, _, h, h2, _⟩
      · rw [hp] at h; injection h with _ h; exact .inr (.inr h)
      · rw [hp] at h; injection h with _ h; omega
    have := Common_any w h k hv kv (Lib.hid hp) he
    unfold cmn at hf'
    rw [if_pos hb, hp] at hf'
    dsimp only at hf'
    rcases he with rfl | rfl | rfl
    all_goals
      simp only [Int.reduceEq, if_true, if_false] at this hf'
      injection hf' with e3 e4
      rw [← e3, ← e4]; exact this
set_option maxRecDepth 20000 in
set_option maxHeartbeats 12800000 in
theorem ConversionPairs_walk (o p : Int) (A : Option Addr) (n cp : Nat) (l : List (Int × Int)) (r s : Int) (B : Option Addr) (m cq : Nat) (g : List (Int × Int)) (w : World) (h : Hid (Sr w A n cp l)) (k : Hid (Sr w B m cq g)) :
    Calls Try.prog 8 #[.agg #[.int .i64 o, .int .i64 p, .slice A n cp], .agg #[.int .i64 r, .int .i64 s, .slice B m cq]] w fun e w' => e = .returned (.bool true) ∧ Below w.heap.size w w' := by
  obtain ⟨W0, hW0⟩ : ∃ W0, (w.alloc (.cells #[.int .i64 o, .int .i64 p, .slice A n cp] 24)).alloc (.cells #[.int .i64 r, .int .i64 s, .slice B m cq] 24) = W0 := ⟨_, rfl⟩
  have F0 : Hid (Fx w W0 w.heap.size o p A n cp l) := Lib.hid (by rw [← hW0]; exact (Fx.new _ _ h.out).alloc _)
  have G0 : Hid (Fx w W0 (w.heap.size + 1) r s B m cq g) := Lib.hid (by rw [← hW0]; exact Fx.new2 _ _ _ k.out)
  have HW0 := Lib.hid hW0
  clear hW0
  obtain ⟨z0, c0, c1, c2⟩ := F0.out.bx
  obtain ⟨y0, d0, d1, d2⟩ := G0.out.bx
  rcases hl : lng n with _ | _
  all_goals replace hl := Lib.hid hl
  · rcases hm : lng m with _ | _
    all_goals replace hm := Lib.hid hm
    · rcases hb : (vld ⟨o, p, l⟩ && vld ⟨r, s, g⟩) with _ | _
      · have HF := Lib.hid (fnr_bad hb)
        have HD := Lib.hid (dvr_bad hb)
        have HC := Lib.hid (cmn_bad hb)
        replace hb := Lib.hid hb
        go_enter Try.func8, Try.ntmps8
        go_wp2_with fail
        rw [HW0.out]
        go_at_call 10
        refine (awake_any _).mono ?_
        rintro e w1 ⟨rfl, b1⟩
        have F1 := Lib.hid (F0.out.step b1)
        have G1 := Lib.hid (G0.out.step b1)
        clear c0 c1 c2 z0 d0 d1 d2 y0
        obtain ⟨z0, c0, c1, c2⟩ := F1.out.bx
        obtain ⟨y0, d0, d1, d2⟩ := G1.out.bx
        go_wp2_with fail
        go_at_call 11
        refine (long_at o p _ hl).mono ?_
        rintro e w2 ⟨rfl, b2⟩
        have F2 := Lib.hid (F1.out.step b2)
        have G2 := Lib.hid (G1.out.step b2)
        clear c0 c1 c2 z0 d0 d1 d2 y0
        obtain ⟨z0, c0, c1, c2⟩ := F2.out.bx
        obtain ⟨y0, d0, d1, d2⟩ := G2.out.bx
        go_wp2_with fail
        go_at_call 11
        refine (long_at r s _ hm).mono ?_
        rintro e w3 ⟨rfl, b3⟩
        have F3 := Lib.hid (F2.out.step b3)
        have G3 := Lib.hid (G2.out.step b3)
        clear c0 c1 c2 z0 d0 d1 d2 y0
        obtain ⟨z0, c0, c1, c2⟩ := F3.out.bx
        obtain ⟨y0, d0, d1, d2⟩ := G3.out.bx
        go_wp2_with fail
        go_at_call 39
        refine (Finer_at _ (Fx.hsr F3) (Fx.hsr G3) HF).mono ?_
        rintro e w4 ⟨rfl, b4⟩
        have F4 := Lib.hid (F3.out.step b4)
        have G4 := Lib.hid (G3.out.step b4)
        clear c0 c1 c2 z0 d0 d1 d2 y0
        obtain ⟨z0, c0, c1, c2⟩ := F4.out.bx
        obtain ⟨y0, d0, d1, d2⟩ := G4.out.bx
        go_wp2_with fail
        go_at_call 38
        refine (Divides_at _ (Fx.hsr F4) (Fx.hsr G4) HD).mono ?_
        rintro e w5 ⟨rfl, b5⟩
        have F5 := Lib.hid (F4.out.step b5)
        have G5 := Lib.hid (G4.out.step b5)
        clear c0 c1 c2 z0 d0 d1 d2 y0
        obtain ⟨z0, c0, c1, c2⟩ := F5.out.bx
        obtain ⟨y0, d0, d1, d2⟩ := G5.out.bx
        go_wp2_with fail
        go_at_call 40
        refine (Common_at _ (Fx.hsr F5) (Fx.hsr G5) HC).mono ?_
        rintro e w6 ⟨rfl, b6⟩
        have F6 := Lib.hid (F5.out.step b6)
        have G6 := Lib.hid (G5.out.step b6)
        clear c0 c1 c2 z0 d0 d1 d2 y0
        obtain ⟨z0, c0, c1, c2⟩ := F6.out.bx
        obtain ⟨y0, d0, d1, d2⟩ := G6.out.bx
        go_wp2_with fail
        go_at_call 41
        refine (rFiner_at _ (Fx.hsr F6) (Fx.hsr G6) HF).mono ?_
        rintro e w7 ⟨rfl, b7⟩
        have F7 := Lib.hid (F6.out.step b7)
        have G7 := Lib.hid (G6.out.step b7)
        clear c0 c1 c2 z0 d0 d1 d2 y0
        obtain ⟨z0, c0, c1, c2⟩ := F7.out.bx
        obtain ⟨y0, d0, d1, d2⟩ := G7.out.bx
        go_wp2_with fail
        go_at_call 42
        refine (rDivides_at _ (Fx.hsr F7) (Fx.hsr G7) HD).mono ?_
        rintro e w8 ⟨rfl, b8⟩
        have F8 := Lib.hid (F7.out.step b8)
        have G8 := Lib.hid (G7.out.step b8)
        clear c0 c1 c2 z0 d0 d1 d2 y0
        obtain ⟨z0, c0, c1, c2⟩ := F8.out.bx
        obtain ⟨y0, d0, d1, d2⟩ := G8.out.bx
        go_wp2_with fail
        go_at_call 26
        refine (lvalid_at _ (Fx.hsr F8) (Fx.hsr G8) hb).mono ?_
        rintro e w9 ⟨rfl, b9⟩
        have F9 := Lib.hid (F8.out.step b9)
        have G9 := Lib.hid (G8.out.step b9)
        clear c0 c1 c2 z0 d0 d1 d2 y0
        obtain ⟨z0, c0, c1, c2⟩ := F9.out.bx
        obtain ⟨y0, d0, d1, d2⟩ := G9.out.bx
        go_wp2_with fail
        go_ret
        exact ⟨rfl, F9.out.bel⟩
      · obtain ⟨hv, kv⟩ := both hb
        have V := hVc hv
        have V2 := hVc kv
        obtain ⟨⟨bf, ef⟩, hf⟩ : ∃ q, fnr ⟨o, p, l⟩ ⟨r, s, g⟩ = q := ⟨_, rfl⟩
        obtain ⟨⟨bd, ed⟩, hd⟩ : ∃ q, dvr ⟨o, p, l⟩ ⟨r, s, g⟩ = q := ⟨_, rfl⟩
        obtain ⟨⟨mc, ec⟩, hc⟩ : ∃ q, cmn ⟨o, p, l⟩ ⟨r, s, g⟩ = q := ⟨_, rfl⟩
        have HF := Lib.hid hf
        have HD := Lib.hid hd
        have HC := Lib.hid hc
        have EF : Hid (ef = (prr ⟨o, p, l⟩ ⟨r, s, g⟩).2) := Lib.hid (by
          unfold fnr at hf; rw [if_pos hb] at hf; split at hf <;> (injection hf with _ e; first | exact e.symm | omega))
        have p1 : 1 ≤ p := V.out.p1
        have p2 : p ≤ 12622780800 := V.out.p2
        have s1 : 1 ≤ s := V2.out.p1
        have s2 : s ≤ 12622780800 := V2.out.p2
        have p0 : p ≠ 0 := by omega
        have p0' : (p == 0) = false := by simp; omega
        have pm : (p == -1) = false := by simp; omega
        have s0 : s ≠ 0 := by omega
        have s0' : (s == 0) = false := by simp; omega
        have sm : (s == -1) = false := by simp; omega
        unfold cmn at hc
        rw [if_pos hb] at hc
        replace hb := Lib.hid hb
        rcases prr_e V.out V2.out with hp | ⟨z, e, hp, he, ra, rb, z1, z2⟩
        · have ee := EF.out
          rw [hp] at hc ee
          rw [if_pos rfl] at hc
          injection hc with c1' c2'
          subst c1' c2'
          dsimp only at ee
          subst ee
          clear hf hd hp
          go_enter Try.func8, Try.ntmps8
          go_wp2_with fail
          rw [HW0.out]
          go_at_call 10
          refine (awake_any _).mono ?_
          rintro e w1 ⟨rfl, b1⟩
          have F1 := Lib.hid (F0.out.step b1)
          have G1 := Lib.hid (G0.out.step b1)
          clear c0 c1 c2 z0 d0 d1 d2 y0
          obtain ⟨z0, c0, c1, c2⟩ := F1.out.bx
          obtain ⟨y0, d0, d1, d2⟩ := G1.out.bx
          go_wp2_with fail
          go_at_call 11
          refine (long_at o p _ hl).mono ?_
          rintro e w2 ⟨rfl, b2⟩
          have F2 := Lib.hid (F1.out.step b2)
          have G2 := Lib.hid (G1.out.step b2)
          clear c0 c1 c2 z0 d0 d1 d2 y0
          obtain ⟨z0, c0, c1, c2⟩ := F2.out.bx
          obtain ⟨y0, d0, d1, d2⟩ := G2.out.bx
          go_wp2_with fail
          go_at_call 11
          refine (long_at r s _ hm).mono ?_
          rintro e w3 ⟨rfl, b3⟩
          have F3 := Lib.hid (F2.out.step b3)
          have G3 := Lib.hid (G2.out.step b3)
          clear c0 c1 c2 z0 d0 d1 d2 y0
          obtain ⟨z0, c0, c1, c2⟩ := F3.out.bx
          obtain ⟨y0, d0, d1, d2⟩ := G3.out.bx
          go_wp2_with fail
          go_at_call 39
          refine (Finer_at _ (Fx.hsr F3) (Fx.hsr G3) HF).mono ?_
          rintro e w4 ⟨rfl, b4⟩
          have F4 := Lib.hid (F3.out.step b4)
          have G4 := Lib.hid (G3.out.step b4)
          clear c0 c1 c2 z0 d0 d1 d2 y0
          obtain ⟨z0, c0, c1, c2⟩ := F4.out.bx
          obtain ⟨y0, d0, d1, d2⟩ := G4.out.bx
          go_wp2_with fail
          go_at_call 38
          refine (Divides_at _ (Fx.hsr F4) (Fx.hsr G4) HD).mono ?_
          rintro e w5 ⟨rfl, b5⟩
          have F5 := Lib.hid (F4.out.step b5)
          have G5 := Lib.hid (G4.out.step b5)
          clear c0 c1 c2 z0 d0 d1 d2 y0
          obtain ⟨z0, c0, c1, c2⟩ := F5.out.bx
          obtain ⟨y0, d0, d1, d2⟩ := G5.out.bx
          go_wp2_with fail
          go_at_call 40
          refine (Common_at _ (Fx.hsr F5) (Fx.hsr G5) HC).mono ?_
          rintro e w6 ⟨rfl, b6⟩
          have F6 := Lib.hid (F5.out.step b6)
          have G6 := Lib.hid (G5.out.step b6)
          clear c0 c1 c2 z0 d0 d1 d2 y0
          obtain ⟨z0, c0, c1, c2⟩ := F6.out.bx
          obtain ⟨y0, d0, d1, d2⟩ := G6.out.bx
          go_wp2_with fail
          go_at_call 41
          refine (rFiner_at _ (Fx.hsr F6) (Fx.hsr G6) HF).mono ?_
          rintro e w7 ⟨rfl, b7⟩
          have F7 := Lib.hid (F6.out.step b7)
          have G7 := Lib.hid (G6.out.step b7)
          clear c0 c1 c2 z0 d0 d1 d2 y0
          obtain ⟨z0, c0, c1, c2⟩ := F7.out.bx
          obtain ⟨y0, d0, d1, d2⟩ := G7.out.bx
          go_wp2_with fail
          go_at_call 42
          refine (rDivides_at _ (Fx.hsr F7) (Fx.hsr G7) HD).mono ?_
          rintro e w8 ⟨rfl, b8⟩
          have F8 := Lib.hid (F7.out.step b8)
          have G8 := Lib.hid (G7.out.step b8)
          clear c0 c1 c2 z0 d0 d1 d2 y0
          obtain ⟨z0, c0, c1, c2⟩ := F8.out.bx
          obtain ⟨y0, d0, d1, d2⟩ := G8.out.bx
          go_wp2_with fail
          go_at_call 26
          refine (lvalid_at _ (Fx.hsr F8) (Fx.hsr G8) hb).mono ?_
          rintro e w9 ⟨rfl, b9⟩
          have F9 := Lib.hid (F8.out.step b9)
          have G9 := Lib.hid (G8.out.step b9)
          clear c0 c1 c2 z0 d0 d1 d2 y0
          obtain ⟨z0, c0, c1, c2⟩ := F9.out.bx
          obtain ⟨y0, d0, d1, d2⟩ := G9.out.bx
          go_wp2_with fail
          go_ret
          exact ⟨rfl, F9.out.bel⟩
        · have ee := EF.out
          rw [hp] at hc ee
          rw [if_neg (by dsimp only; omega)] at hc
          injection hc with c1' c2'
          subst c1' c2'
          dsimp only at ee
          have ef9 : (ef == 9) = false := by simp; omega
          have ra' : z % p = 0 := ra
          have rb' : z % s = 0 := rb
          have tp : z.tmod p = 0 := by rw [Int.tmod_eq_emod_of_nonneg (by omega)]; exact ra
          have ts : z.tmod s = 0 := by rw [Int.tmod_eq_emod_of_nonneg (by omega)]; exact rb
          clear hf hd hp ee he ra rb
          go_enter Try.func8, Try.ntmps8
          go_wp2_with fail
          rw [HW0.out]
          go_at_call 10
          refine (awake_any _).mono ?_
          rintro e w1 ⟨rfl, b1⟩
          have F1 := Lib.hid (F0.out.step b1)
          have G1 := Lib.hid (G0.out.step b1)
          clear c0 c1 c2 z0 d0 d1 d2 y0
          obtain ⟨z0, c0, c1, c2⟩ := F1.out.bx
          obtain ⟨y0, d0, d1, d2⟩ := G1.out.bx
          go_wp2_with fail
          go_at_call 11
          refine (long_at o p _ hl).mono ?_
          rintro e w2 ⟨rfl, b2⟩
          have F2 := Lib.hid (F1.out.step b2)
          have G2 := Lib.hid (G1.out.step b2)
          clear c0 c1 c2 z0 d0 d1 d2 y0
          obtain ⟨z0, c0, c1, c2⟩ := F2.out.bx
          obtain ⟨y0, d0, d1, d2⟩ := G2.out.bx
          go_wp2_with fail
          go_at_call 11
          refine (long_at r s _ hm).mono ?_
          rintro e w3 ⟨rfl, b3⟩
          have F3 := Lib.hid (F2.out.step b3)
          have G3 := Lib.hid (G2.out.step b3)
          clear c0 c1 c2 z0 d0 d1 d2 y0
          obtain ⟨z0, c0, c1, c2⟩ := F3.out.bx
          obtain ⟨y0, d0, d1, d2⟩ := G3.out.bx
          go_wp2_with fail
          go_at_call 39
          refine (Finer_at _ (Fx.hsr F3) (Fx.hsr G3) HF).mono ?_
          rintro e w4 ⟨rfl, b4⟩
          have F4 := Lib.hid (F3.out.step b4)
          have G4 := Lib.hid (G3.out.step b4)
          clear c0 c1 c2 z0 d0 d1 d2 y0
          obtain ⟨z0, c0, c1, c2⟩ := F4.out.bx
          obtain ⟨y0, d0, d1, d2⟩ := G4.out.bx
          go_wp2_with fail
          go_at_call 38
          refine (Divides_at _ (Fx.hsr F4) (Fx.hsr G4) HD).mono ?_
          rintro e w5 ⟨rfl, b5⟩
          have F5 := Lib.hid (F4.out.step b5)
          have G5 := Lib.hid (G4.out.step b5)
          clear c0 c1 c2 z0 d0 d1 d2 y0
          obtain ⟨z0, c0, c1, c2⟩ := F5.out.bx
          obtain ⟨y0, d0, d1, d2⟩ := G5.out.bx
          go_wp2_with fail
          go_at_call 40
          refine (Common_at _ (Fx.hsr F5) (Fx.hsr G5) HC).mono ?_
          rintro e w6 ⟨rfl, b6⟩
          have F6 := Lib.hid (F5.out.step b6)
          have G6 := Lib.hid (G5.out.step b6)
          clear c0 c1 c2 z0 d0 d1 d2 y0
          obtain ⟨z0, c0, c1, c2⟩ := F6.out.bx
          obtain ⟨y0, d0, d1, d2⟩ := G6.out.bx
          go_wp2_with fail
          go_at_call 41
          refine (rFiner_at _ (Fx.hsr F6) (Fx.hsr G6) HF).mono ?_
          rintro e w7 ⟨rfl, b7⟩
          have F7 := Lib.hid (F6.out.step b7)
          have G7 := Lib.hid (G6.out.step b7)
          clear c0 c1 c2 z0 d0 d1 d2 y0
          obtain ⟨z0, c0, c1, c2⟩ := F7.out.bx
          obtain ⟨y0, d0, d1, d2⟩ := G7.out.bx
          go_wp2_with fail
          go_at_call 42
          refine (rDivides_at _ (Fx.hsr F7) (Fx.hsr G7) HD).mono ?_
          rintro e w8 ⟨rfl, b8⟩
          have F8 := Lib.hid (F7.out.step b8)
          have G8 := Lib.hid (G7.out.step b8)
          clear c0 c1 c2 z0 d0 d1 d2 y0
          obtain ⟨z0, c0, c1, c2⟩ := F8.out.bx
          obtain ⟨y0, d0, d1, d2⟩ := G8.out.bx
          go_wp2_with fail
          go_at_call 26
          refine (lvalid_at _ (Fx.hsr F8) (Fx.hsr G8) hb).mono ?_
          rintro e w9 ⟨rfl, b9⟩
          have F9 := Lib.hid (F8.out.step b9)
          have G9 := Lib.hid (G8.out.step b9)
          clear c0 c1 c2 z0 d0 d1 d2 y0
          obtain ⟨z0, c0, c1, c2⟩ := F9.out.bx
          obtain ⟨y0, d0, d1, d2⟩ := G9.out.bx
          go_wp2_with fail
          go_ret
          exact ⟨rfl, F9.out.bel⟩
    · go_enter Try.func8, Try.ntmps8
      go_wp2_with fail
      rw [HW0.out]
      go_at_call 10
      refine (awake_any _).mono ?_
      rintro e w1 ⟨rfl, b1⟩
      have F1 := Lib.hid (F0.out.step b1)
      have G1 := Lib.hid (G0.out.step b1)
      clear c0 c1 c2 z0 d0 d1 d2 y0
      obtain ⟨z0, c0, c1, c2⟩ := F1.out.bx
      obtain ⟨y0, d0, d1, d2⟩ := G1.out.bx
      go_wp2_with fail
      go_at_call 11
      refine (long_at o p _ hl).mono ?_
      rintro e w2 ⟨rfl, b2⟩
      have F2 := Lib.hid (F1.out.step b2)
      have G2 := Lib.hid (G1.out.step b2)
      clear c0 c1 c2 z0 d0 d1 d2 y0
      obtain ⟨z0, c0, c1, c2⟩ := F2.out.bx
      obtain ⟨y0, d0, d1, d2⟩ := G2.out.bx
      go_wp2_with fail
      go_at_call 11
      refine (long_at r s _ hm).mono ?_
      rintro e w3 ⟨rfl, b3⟩
      have F3 := Lib.hid (F2.out.step b3)
      have G3 := Lib.hid (G2.out.step b3)
      clear c0 c1 c2 z0 d0 d1 d2 y0
      obtain ⟨z0, c0, c1, c2⟩ := F3.out.bx
      obtain ⟨y0, d0, d1, d2⟩ := G3.out.bx
      go_wp2_with fail
      go_at_call 10
      refine (awake_any _).mono ?_
      rintro e w4 ⟨rfl, b4⟩
      have F4 := Lib.hid (F3.out.step b4)
      have G4 := Lib.hid (G3.out.step b4)
      clear c0 c1 c2 z0 d0 d1 d2 y0
      obtain ⟨z0, c0, c1, c2⟩ := F4.out.bx
      obtain ⟨y0, d0, d1, d2⟩ := G4.out.bx
      go_wp2_with fail
      go_ret
      exact ⟨rfl, F4.out.bel⟩
  · go_enter Try.func8, Try.ntmps8
    go_wp2_with fail
    rw [HW0.out]
    go_at_call 10
    refine (awake_any _).mono ?_
    rintro e w1 ⟨rfl, b1⟩
    have F1 := Lib.hid (F0.out.step b1)
    have G1 := Lib.hid (G0.out.step b1)
    clear c0 c1 c2 z0 d0 d1 d2 y0
    obtain ⟨z0, c0, c1, c2⟩ := F1.out.bx
    obtain ⟨y0, d0, d1, d2⟩ := G1.out.bx
    go_wp2_with fail
    go_at_call 11
    refine (long_at o p _ hl).mono ?_
    rintro e w2 ⟨rfl, b2⟩
    have F2 := Lib.hid (F1.out.step b2)
    have G2 := Lib.hid (G1.out.step b2)
    clear c0 c1 c2 z0 d0 d1 d2 y0
    obtain ⟨z0, c0, c1, c2⟩ := F2.out.bx
    obtain ⟨y0, d0, d1, d2⟩ := G2.out.bx
    go_wp2_with fail
    go_at_call 10
    refine (awake_any _).mono ?_
    rintro e w3 ⟨rfl, b3⟩
    have F3 := Lib.hid (F2.out.step b3)
    have G3 := Lib.hid (G2.out.step b3)
    clear c0 c1 c2 z0 d0 d1 d2 y0
    obtain ⟨z0, c0, c1, c2⟩ := F3.out.bx
    obtain ⟨y0, d0, d1, d2⟩ := G3.out.bx
    go_wp2_with fail
    go_ret
    exact ⟨rfl, F3.out.bel⟩
end Go.Proofs.Ytainibnjpkbfpaa.Cv
