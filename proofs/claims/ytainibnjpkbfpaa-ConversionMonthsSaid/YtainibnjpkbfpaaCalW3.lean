/- Walks: the least number of spans. -/
import Derived.Test.YtainibnjpkbfpaaCalW2
import Derived.Laws.StructEq
namespace Go.Proofs.Ytainibnjpkbfpaa.Cv
set_option linter.unusedVariables false
set_option linter.unusedSimpArgs false
open Go.RowKit Wl

theorem rep_f1 {p : Int} {l : List (Int × Int)} {m : Nat} (h : l.length % m ≠ 0) : repB p l m = false := by unfold repB; exact decide_eq_false fun k => h k.1
theorem rep_f2 {p : Int} {l : List (Int × Int)} {m : Nat} (h : p % ((l.length / m : Nat) : Int) ≠ 0) : repB p l m = false := by unfold repB; exact decide_eq_false fun k => h k.2.1
theorem rep_f3 {p : Int} {l : List (Int × Int)} {m i : Nat} (hi : i < l.length - m) (h : shiftAt l (p / ((l.length / m : Nat) : Int)) m i = false) : repB p l m = false := by
  unfold repB; exact decide_eq_false fun k => by rw [k.2.2 i hi] at h; cases h
theorem rep_t {p : Int} {l : List (Int × Int)} {m : Nat} (h1 : l.length % m = 0) (h2 : p % ((l.length / m : Nat) : Int) = 0) (h3 : ∀ i, i < l.length - m → shiftAt l (p / ((l.length / m : Nat) : Int)) m i = true) : repB p l m = true := by
  unfold repB; exact decide_eq_true ⟨h1, h2, h3⟩
theorem shift_t {l : List (Int × Int)} {d : Int} {m i : Nat} {x y x' y' : Int} (h : gt l i = (x, y)) (k : gt l (i + m) = (x', y')) (h1 : x' = x + d) (h2 : y' = y + d) : shiftAt l d m i = true := by
  unfold shiftAt; rw [h, k, h1, h2]; simp
theorem shift_f {l : List (Int × Int)} {d : Int} {m i : Nat} {x y x' y' : Int} (h : gt l i = (x, y)) (k : gt l (i + m) = (x', y')) (h1 : ¬ (x' = x + d ∧ y' = y + d)) : shiftAt l d m i = false := by
  unfold shiftAt; rw [h, k]; exact decide_eq_false fun e => h1 (by simpa using e)
theorem nat_tmod (a b : Nat) : (a : Int).tmod (b : Int) = ((a % b : Nat) : Int) := by rw [Int.tmod_eq_emod_of_nonneg (by omega)]; rfl
theorem nat_tdiv (a b : Nat) : (a : Int).tdiv (b : Int) = ((a / b : Nat) : Int) := by rw [Int.tdiv_eq_ediv_of_nonneg (by omega)]; rfl
/-- Spans that are no great numbers. -/
def Bd (l : List (Int × Int)) : Prop := ∀ i, i < l.length → -4398046511104 ≤ (gt l i).1 ∧ (gt l i).1 ≤ 4398046511104 ∧ -4398046511104 ≤ (gt l i).2 ∧ (gt l i).2 ≤ 4398046511104
theorem bd_asc {l : List (Int × Int)} (h : ascB l = true) : Bd l := by
  intro i hi
  unfold ascB at h
  rw [decide_eq_true_iff] at h
  have := h.2 i hi
  unfold okAt svld at this
  rw [Bool.and_eq_true, decide_eq_true_iff] at this
  obtain ⟨⟨h1, h2, h3, h4, _⟩, _⟩ := this
  exact ⟨h1, h2, h3, h4⟩
theorem und_span : Try.prog.underlying 35 = some (.struct (Try.prog.fieldsOf 35)) := by kernel_rfl
theorem held_span : Try.prog.stoodInHeld 35 = false := by kernel_rfl
theorem guard_span : Try.prog.eqGuardType Try.prog.depth 35 = false := by kernel_rfl
theorem run_eqSpan (x y x' y' : Int) (w : World) : (binOp .eql 35 (.agg #[.int .i64 x, .int .i64 y]) (.agg #[.int .i64 x', .int .i64 y'])).run Try.prog w = .ok (.bool (x == x' && y == y')) w := by
  rw [run_eql_struct, run_equalIn_struct w 9999 35 _ _ und_span held_span]
  have hm : (Try.prog.fieldsOf 35).toList.map (fun f => (f.name, f.type, f.offset)) = [("From", 3, 0), ("To", 3, 1)] := by kernel_rfl
  obtain ⟨f0, f1, hf, h0, h1, h2, h3, h4, h5⟩ : ∃ f0 f1, (Try.prog.fieldsOf 35).toList = [f0, f1] ∧ f0.name ≠ "_" ∧ f1.name ≠ "_" ∧ f0.type = 3 ∧ f1.type = 3 ∧ f0.offset = 0 ∧ f1.offset = 1 := by
    match h : (Try.prog.fieldsOf 35).toList, hm with
    | [f0, f1], hm =>
      simp only [List.map_cons, List.map_nil, List.cons.injEq, Prod.mk.injEq, and_true] at hm
      obtain ⟨⟨a1, a2, a3⟩, b1, b2, b3⟩ := hm
      exact ⟨f0, f1, rfl, by rw [a1]; decide, by rw [b1]; decide, a2, b2, a3, b3⟩
    | [], hm => simp at hm
    | [_], hm => simp at hm
    | _ :: _ :: _ :: _, hm => simp at hm
  rw [hf]
  simp only [Op.eqFields, h0, h1, ne_eq, not_false_eq_true, if_true, h2, h3, h4, h5]
  have p0 : ∀ (a b : Int) (w : World), (part 3 #[Value.int .i64 a, .int .i64 b] 0).run Try.prog w = .ok (.int .i64 a) w := fun a b w => by kernel_rfl
  have p1 : ∀ (a b : Int) (w : World), (part 3 #[Value.int .i64 a, .int .i64 b] 1).run Try.prog w = .ok (.int .i64 b) w := fun a b w => by kernel_rfl
  simp only [Sem.run_bind, p0, p1, Result.andThen_ok, run_equalIn_int w 9998 3 .i64 .i64 _ _ Try.underlying3]
  rcases hx : x == x' with _ | _ <;> rcases hy : y == y' with _ | _ <;> simp [p1, run_equalIn_int w 9998 3 .i64 .i64 y y' Try.underlying3, hy]
set_option maxRecDepth 20000 in
set_option maxHeartbeats 3200000 in
theorem least_any {A : Option Addr} {n c : Nat} {l : List (Int × Int)} (p : Int) (w : World) (h : Hid (Sr w A n c l)) (hb : Hid (Bd l)) (hn : n ≤ 5000) (p1 : 1 ≤ p) (p2 : p ≤ 12622780800) :
    Calls Try.prog 76 #[.int .i64 p, .slice A n c] w fun e w' => e = .returned (.int .i64 (lst p l)) ∧ Below w.heap.size w w' := by
  have hnc := h.out.nc
  have hc63 := h.out.c63
  have hl := Lib.hid h.out.len
  have heq := run_eqSpan
  have hgd := guard_span
  go_enter Try.func76, Try.ntmps76
  go_wp2_with fail
  go_loopw [6] (fun i wr => ∃ m : Nat, 1 ≤ m ∧ m ≤ n + 1 ∧ i = .int .i64 m ∧ Below w.heap.size w wr ∧ Hid (∀ k, 1 ≤ k → k < m → k < n → repB p l k = false)) (fun i _ => (n + 1 - intOf i).toNat)
  case atStart => exact ⟨1, by omega, by omega, rfl, Below.refl _ _, Lib.hid fun k h1 h2 => by omega⟩
  case round =>
    obtain ⟨m, hm1, hm, rfl, bw, hpre⟩ := hrel
    have hz := bw.size
    by_cases hlt : m < n
    · have hq := Nat.div_pos (show m ≤ n by omega) (show 0 < m by omega)
      obtain ⟨q, hqq⟩ : ∃ q, n / m = q := ⟨_, rfl⟩
      have hqn : q ≤ n := by rw [← hqq]; exact Nat.div_le_self _ _
      rw [hqq] at hq
      have t1 := nat_tmod n m
      have t2 := nat_tdiv n m
      rw [hqq] at t2
      have HQ : Hid (l.length / m = q) := Lib.hid (by rw [← hl.out]; exact hqq)
      have t3 : p.tmod (q : Int) = p % q := Int.tmod_eq_emod_of_nonneg (by omega)
      have t4 : p.tdiv (q : Int) = p / q := Int.tdiv_eq_ediv_of_nonneg (by omega)
      have hm0 : ((m : Int) == 0) = false := by simp; omega
      have hq0 : ((q : Int) == 0) = false := by simp; omega
      have hmo : ((m : Int) == -1) = false := by simp
      have hqo : ((q : Int) == -1) = false := by simp
      clear hqq
      have skip : repB p l m = false → ∀ k, 1 ≤ k → k < m + 1 → k < n → repB p l k = false := fun hf k k1 k2 k3 => by
        rcases Nat.lt_or_ge k m with h | h
        · exact hpre.out k k1 h k3
        · rw [show k = m by omega]; exact hf
      obtain ⟨r, hr⟩ : ∃ r, n % m = r := ⟨_, rfl⟩
      rw [hr] at t1
      have t1' : (n : Int) % (m : Int) = (r : Int) := by rw [← hr]; rfl
      have t2' : (n : Int) / (m : Int) = (q : Int) := by rw [← Int.tdiv_eq_ediv_of_nonneg (by omega), t2]
      have HR : Hid (l.length % m = r) := Lib.hid (by rw [← hl.out]; exact hr)
      have hm0' : (m : Int) ≠ 0 := by omega
      have hq0' : (q : Int) ≠ 0 := by omega
      clear hr
      by_cases hr0 : r = 0
      · subst hr0
        obtain ⟨v, hv⟩ : ∃ v, p % (q : Int) = v := ⟨_, rfl⟩
        rw [hv] at t3
        have HV := Lib.hid hv
        by_cases hv0 : v = 0
        · subst hv0
          obtain ⟨d, hd⟩ : ∃ d, p / (q : Int) = d := ⟨_, rfl⟩
          rw [hd] at t4
          have hd1 : 0 ≤ d := by rw [← hd]; exact Int.ediv_nonneg (by omega) (by omega)
          have hd2 : d ≤ p := by rw [← hd]; exact Int.ediv_le_self _ (by omega)
          have HD : Hid (p / ((l.length / m : Nat) : Int) = d) := Lib.hid (by rw [HQ.out]; exact hd)
          have RF : Hid (∀ i, i < n - m → shiftAt l d m i = false → repB p l m = false) := Lib.hid fun i hi hs => rep_f3 (i := i) (by have := hl.out; omega) (by rw [HD.out]; exact hs)
          have RT : Hid ((∀ i, i < n - m → shiftAt l d m i = true) → repB p l m = true) := Lib.hid fun hs => rep_t HR.out (by rw [HQ.out]; exact HV.out) (fun i hi => by rw [HD.out]; exact hs i (by have := hl.out; omega))
          have SK := Lib.hid skip
          clear hv hd skip
          go_wp2_with fail
          go_loopw [8, 9] (fun bv iv wr => ∃ (i : Nat) (b : Bool), i ≤ n - m ∧ iv = .int .i64 i ∧ bv = .bool b ∧ Below w.heap.size w wr ∧ Hid (b = true → ∀ k, k < i → shiftAt l d m k = true) ∧ Hid (b = false → ∃ k, k < n - m ∧ shiftAt l d m k = false)) (fun _ i _ => (n - intOf i).toNat)
          case atStart => exact ⟨0, true, by omega, rfl, rfl, bw, Lib.hid fun _ k hk => by omega, Lib.hid (by simp)⟩
          case round =>
            obtain ⟨i, b, hi, rfl, rfl, ibw, it, if_⟩ := hrel
            have hzi := ibw.size
            rcases b with _ | _
            · have hrf : Hid (repB p l m = false) := Lib.hid (by obtain ⟨k, k1, k2⟩ := if_.out (by first | rfl | trivial); exact RF.out k k1 k2)
              have SK2 := Lib.hid (SK.out hrf.out)
              rcases hcmp : decide ((i : Int) + (m : Int) < (n : Int)) with _ | _
              all_goals
                go_wp2_with fail
                go_roundw
                case rel => exact ⟨m + 1, by omega, by omega, by go_num, ibw, SK2⟩
                case measure => simp [intOf]; omega
            · by_cases hil : i < n - m
              · obtain ⟨g, o, rfl, hg, a0, a1⟩ := (h.out.below ibw).at_ (show i < n by omega)
                obtain ⟨_, b0, b1⟩ := (h.out.below ibw).at2 (show i + m < n by omega)
                obtain ⟨x1, x2, x3, x4⟩ := hb.out i (by have := hl.out; omega)
                obtain ⟨y1, y2, y3, y4⟩ := hb.out (i + m) (by have := hl.out; omega)
                obtain ⟨⟨x, y⟩, hxy⟩ : ∃ s, gt l i = s := ⟨_, rfl⟩
                obtain ⟨⟨x', y'⟩, hxy'⟩ : ∃ s, gt l (i + m) = s := ⟨_, rfl⟩
                rw [hxy] at a0 a1 x1 x2 x3 x4
                rw [hxy'] at b0 b1 y1 y2 y3 y4
                dsimp only at x1 x2 x3 x4 y1 y2 y3 y4
                have hil1 : (i : Int) + (m : Int) < (n : Int) := by omega
                have HX := Lib.hid hxy
                have HX' := Lib.hid hxy'
                clear hxy hxy'
                go_wp2_with fail
                have hS := Abv.cells wr
                refine wp_region_abv (by kernel_rfl) (by kernel_rfl) ?_
                repeat (go_big_quiet_step ((fail)))
                refine wpQuiet_nil ?_
                rintro w2 hw2
                clear hS
                go_wp2_with fail
                have hw2' := ibw.trans (hw2.mono hzi)
                by_cases he : x' = x + d ∧ y' = y + d
                · have hbb : (x' == x + d && y' == y + d) = true := by simp [he.1, he.2]
                  have hs := shift_t (d := d) HX.out HX'.out he.1 he.2
                  rw [hbb]
                  exact ⟨⟨i + 1, true, by omega, rfl, rfl, hw2', Lib.hid fun _ k hk => by
                    rcases Nat.lt_or_ge k i with h | h
                    · exact it.out (by first | rfl | trivial) k h
                    · rw [show k = i by omega]; exact hs, Lib.hid (by simp)⟩, by simp [intOf]; omega⟩
                · have hbb : (x' == x + d && y' == y + d) = false := by
                    rcases h : (x' == x + d && y' == y + d) with _ | _
                    · rfl
                    · exfalso; apply he; simpa using h
                  have hs := shift_f (d := d) HX.out HX'.out he
                  rw [hbb]
                  exact ⟨⟨i + 1, false, by omega, rfl, rfl, hw2', Lib.hid (by simp), Lib.hid fun _ => ⟨i, by omega, hs⟩⟩, by simp [intOf]; omega⟩
              · obtain rfl : i = n - m := by omega
                have hrt : Hid (repB p l m = true) := Lib.hid (RT.out (it.out (by first | rfl | trivial)))
                have R : Hid (lst p l = m) := Lib.hid (lst_eq hm1 (by have := hl.out; omega) hrt.out fun k k1 k2 => hpre.out k k1 k2 (by omega))
                have him : ¬ ((n - m : Nat) : Int) + (m : Int) < (n : Int) := by omega
                go_wp2_with fail
                go_ret
                exact ⟨ret_int (by rw [R.out]), ibw⟩
        · have hv0' : (v != 0) = true := by simpa using hv0
          have SK := Lib.hid (skip (rep_f2 (by rw [HQ.out, HV.out]; exact hv0)))
          clear hv skip
          go_wp2_with fail
          go_roundw
          case rel => exact ⟨m + 1, by omega, by omega, by go_num, bw, SK⟩
          case measure => simp [intOf]; omega
      · have hr0' : ((r : Int) != 0) = true := by simp; omega
        have SK := Lib.hid (skip (rep_f1 (by rw [HR.out]; exact hr0)))
        clear skip
        go_wp2_with fail
        go_roundw
        case rel => exact ⟨m + 1, by omega, by omega, by go_num, bw, SK⟩
        case measure => simp [intOf]; omega
    · have R : Hid (lst p l = n) := Lib.hid (by rw [lst_all fun k k1 k2 => hpre.out k k1 (by have := hl.out; omega) (by have := hl.out; omega)]; exact hl.out.symm)
      go_wp2_with fail
      go_ret
      exact ⟨ret_int (by rw [R.out]), bw⟩
set_option maxRecDepth 20000 in
set_option maxHeartbeats 3200000 in
theorem repeats_any {A : Option Addr} {n c : Nat} {l : List (Int × Int)} (p : Int) (m : Nat) (w : World) (h : Hid (Sr w A n c l)) (hb : Hid (Bd l)) (hn : n ≤ 5000) (p1 : 1 ≤ p) (p2 : p ≤ 12622780800) (hm1 : 1 ≤ m) (hlt : m < n) (hd0 : Hid (n % m = 0)) :
    Calls Try.prog 79 #[.int .i64 p, .slice A n c, .int .i64 m] w fun e w' => e = .returned (.bool (repB p l m)) ∧ Below w.heap.size w w' := by
  have hnc := h.out.nc
  have hc63 := h.out.c63
  have hl := Lib.hid h.out.len
  have hq := Nat.div_pos (show m ≤ n by omega) (show 0 < m by omega)
  have hmq : m * (n / m) = n := by have := Nat.div_add_mod n m; rw [hd0.out] at this; omega
  obtain ⟨q, hqq⟩ : ∃ q, n / m = q := ⟨_, rfl⟩
  have hqn : q ≤ n := by rw [← hqq]; exact Nat.div_le_self _ _
  rw [hqq] at hq hmq
  have t2 := nat_tdiv n m
  rw [hqq] at t2
  have hmq' : (m : Int) * (q : Int) = (n : Int) := by rw [← hmq]; push_cast; rfl
  have HQ : Hid (l.length / m = q) := Lib.hid (by rw [← hl.out]; exact hqq)
  have HR : Hid (l.length % m = 0) := Lib.hid (by rw [← hl.out]; exact hd0.out)
  have t3 : p.tmod (q : Int) = p % q := Int.tmod_eq_emod_of_nonneg (by omega)
  have t4 : p.tdiv (q : Int) = p / q := Int.tdiv_eq_ediv_of_nonneg (by omega)
  have hm0 : ((m : Int) == 0) = false := by simp; omega
  have hq0 : ((q : Int) == 0) = false := by simp; omega
  have hmo : ((m : Int) == -1) = false := by simp
  have hqo : ((q : Int) == -1) = false := by simp
  have t2' : (n : Int) / (m : Int) = (q : Int) := by rw [← Int.tdiv_eq_ediv_of_nonneg (by omega), t2]
  have hm0' : (m : Int) ≠ 0 := by omega
  have hq0' : (q : Int) ≠ 0 := by omega
  clear hqq hmq
  obtain ⟨v, hv⟩ : ∃ v, p % (q : Int) = v := ⟨_, rfl⟩
  rw [hv] at t3
  have HV := Lib.hid hv
  by_cases hv0 : v = 0
  · subst hv0
    obtain ⟨d, hd⟩ : ∃ d, p / (q : Int) = d := ⟨_, rfl⟩
    rw [hd] at t4
    have hd1 : 0 ≤ d := by rw [← hd]; exact Int.ediv_nonneg (by omega) (by omega)
    have hd2 : d ≤ p := by rw [← hd]; exact Int.ediv_le_self _ (by omega)
    have HD : Hid (p / ((l.length / m : Nat) : Int) = d) := Lib.hid (by rw [HQ.out]; exact hd)
    have RF : Hid (∀ i, i < n - m → shiftAt l d m i = false → repB p l m = false) := Lib.hid fun i hi hs => rep_f3 (i := i) (by have := hl.out; omega) (by rw [HD.out]; exact hs)
    have RT : Hid ((∀ i, i < n - m → shiftAt l d m i = true) → repB p l m = true) := Lib.hid fun hs => rep_t HR.out (by rw [HQ.out]; exact HV.out) (fun i hi => by rw [HD.out]; exact hs i (by have := hl.out; omega))
    clear hv hd
    go_enter Try.func79, Try.ntmps79
    go_wp2_with fail
    go_loopw [9] (fun iv wr => ∃ (i : Nat), i ≤ n - m ∧ iv = .int .i64 i ∧ Below w.heap.size w wr ∧ Hid (∀ k, k < i → shiftAt l d m k = true)) (fun i _ => (n - intOf i).toNat)
    case atStart => exact ⟨0, by omega, rfl, Below.refl _ _, Lib.hid fun k hk => by omega⟩
    case round =>
      obtain ⟨i, hi, rfl, ibw, it⟩ := hrel
      have hzi := ibw.size
      by_cases hil : i < n - m
      · obtain ⟨g, o, rfl, hg, a0, a1⟩ := (h.out.below ibw).at_ (show i < n by omega)
        obtain ⟨_, b0, b1⟩ := (h.out.below ibw).at2 (show i + m < n by omega)
        obtain ⟨x1, x2, x3, x4⟩ := hb.out i (by have := hl.out; omega)
        obtain ⟨y1, y2, y3, y4⟩ := hb.out (i + m) (by have := hl.out; omega)
        obtain ⟨⟨x, y⟩, hxy⟩ : ∃ s, gt l i = s := ⟨_, rfl⟩
        obtain ⟨⟨x', y'⟩, hxy'⟩ : ∃ s, gt l (i + m) = s := ⟨_, rfl⟩
        rw [hxy] at a0 a1 x1 x2 x3 x4
        rw [hxy'] at b0 b1 y1 y2 y3 y4
        dsimp only at x1 x2 x3 x4 y1 y2 y3 y4
        have hil1 : (i : Int) + (m : Int) < (n : Int) := by omega
        have HX := Lib.hid hxy
        have HX' := Lib.hid hxy'
        clear hxy hxy'
        by_cases he : x' = x + d
        · have he' : (x' != x + d) = false := by simpa using he
          have HE := Lib.hid he
          by_cases hf : y' = y + d
          · have hf' : (y' != y + d) = false := by simpa using hf
            have hs := Lib.hid (shift_t (d := d) HX.out HX'.out he hf)
            clear he hf
            go_wp2_with fail
            have hS := Abv.cells wr
            refine wp_region_abv (by kernel_rfl) (by kernel_rfl) ?_
            repeat (go_big_quiet_step ((fail)))
            refine wpQuiet_nil ?_
            rintro w2 hw2
            clear hS
            go_wp2_with fail
            go_roundw
            case rel => exact ⟨i + 1, by omega, by go_num, ibw.trans (hw2.mono hzi), Lib.hid fun k hk => by
              rcases Nat.lt_or_ge k i with h | h
              · exact it.out k h
              · rw [show k = i by omega]; exact hs.out⟩
            case measure => simp [intOf]; omega
          · have hf' : (y' != y + d) = true := by simpa using hf
            have R := Lib.hid (RF.out i hil (shift_f (d := d) HX.out HX'.out (by omega)))
            clear he hf
            go_wp2_with fail
            have hS := Abv.cells wr
            refine wp_region_abv (by kernel_rfl) (by kernel_rfl) ?_
            repeat (go_big_quiet_step ((fail)))
            refine wpQuiet_nil ?_
            rintro w2 hw2
            clear hS
            go_wp2_with fail
            go_ret
            exact ⟨ret_bool R.out.symm, ibw.trans (hw2.mono hzi)⟩
        · have he' : (x' != x + d) = true := by simpa using he
          have R := Lib.hid (RF.out i hil (shift_f (d := d) HX.out HX'.out (by omega)))
          clear he
          go_wp2_with fail
          have hS := Abv.cells wr
          refine wp_region_abv (by kernel_rfl) (by kernel_rfl) ?_
          repeat (go_big_quiet_step ((fail)))
          refine wpQuiet_nil ?_
          rintro w2 hw2
          clear hS
          go_wp2_with fail
          go_ret
          exact ⟨ret_bool R.out.symm, ibw.trans (hw2.mono hzi)⟩
      · obtain rfl : i = n - m := by omega
        have R : Hid (repB p l m = true) := Lib.hid (RT.out it.out)
        have him : ¬ ((n - m : Nat) : Int) + (m : Int) < (n : Int) := by omega
        go_wp2_with fail
        go_ret
        exact ⟨ret_bool R.out.symm, ibw⟩
  · have hv0' : (v != 0) = true := by simpa using hv0
    have R := Lib.hid (rep_f2 (l := l) (p := p) (m := m) (by rw [HQ.out, HV.out]; exact hv0))
    clear hv
    go_enter Try.func79, Try.ntmps79
    go_wp2_with fail
    go_ret
    exact ⟨ret_bool R.out.symm, Below.refl _ _⟩
theorem rleast_any {A : Option Addr} {n c : Nat} {l : List (Int × Int)} (p : Int) (w : World) (h : Hid (Sr w A n c l)) (hb : Hid (Bd l)) (hn : n ≤ 5000) (p1 : 1 ≤ p) (p2 : p ≤ 12622780800) :
    Calls Try.prog 47 #[.int .i64 p, .slice A n c] w fun e w' => e = .returned (.int .i64 (lst p l)) ∧ Below w.heap.size w w' := by
  have hnc := h.out.nc
  have hc63 := h.out.c63
  have hl := Lib.hid h.out.len
  go_enter Try.func47, Try.ntmps47
  go_wp2_with fail
  go_loopw [5] (fun i wr => ∃ m : Nat, 1 ≤ m ∧ m ≤ n + 1 ∧ i = .int .i64 m ∧ Below w.heap.size w wr ∧ Hid (∀ k, 1 ≤ k → k < m → k < n → repB p l k = false)) (fun i _ => (n + 1 - intOf i).toNat)
  case atStart => exact ⟨1, by omega, by omega, rfl, Below.refl _ _, Lib.hid fun k h1 h2 => by omega⟩
  case round =>
    obtain ⟨m, hm1, hm, rfl, bw, hpre⟩ := hrel
    have hz := bw.size
    by_cases hlt : m < n
    · have t1 := nat_tmod n m
      obtain ⟨r, hr⟩ : ∃ r, n % m = r := ⟨_, rfl⟩
      rw [hr] at t1
      have t1' : (n : Int) % (m : Int) = (r : Int) := by rw [← hr]; rfl
      have HR : Hid (l.length % m = r) := Lib.hid (by rw [← hl.out]; exact hr)
      have HN := Lib.hid hr
      have hm0 : ((m : Int) == 0) = false := by simp; omega
      have hmo : ((m : Int) == -1) = false := by simp
      have hm0' : (m : Int) ≠ 0 := by omega
      have skip : Hid (repB p l m = false → ∀ k, 1 ≤ k → k < m + 1 → k < n → repB p l k = false) := Lib.hid fun hf k k1 k2 k3 => by
        rcases Nat.lt_or_ge k m with h | h
        · exact hpre.out k k1 h k3
        · rw [show k = m by omega]; exact hf
      clear hr
      by_cases hr0 : r = 0
      · subst hr0
        go_wp2_with fail
        go_at_call 79
        refine (repeats_any p m _ (Lib.hid (h.out.below bw)) hb hn p1 p2 hm1 hlt HN).mono ?_
        rintro e w1 ⟨rfl, b1⟩
        rcases hrb : repB p l m with _ | _
        · have SK := Lib.hid (skip.out hrb)
          clear hrb
          go_wp2_with fail
          go_roundw
          case rel => exact ⟨m + 1, by omega, by omega, by go_num, bw.trans (b1.mono hz), SK⟩
          case measure => simp [intOf]; omega
        · have R : Hid (lst p l = m) := Lib.hid (lst_eq hm1 (by have := hl.out; omega) hrb fun k k1 k2 => hpre.out k k1 k2 (by omega))
          clear hrb
          go_wp2_with fail
          go_ret
          exact ⟨ret_int (by rw [R.out]), bw.trans (b1.mono hz)⟩
      · have hr0' : ((r : Int) == 0) = false := by simp; omega
        have SK := Lib.hid (skip.out (rep_f1 (by rw [HR.out]; exact hr0)))
        go_wp2_with fail
        go_roundw
        case rel => exact ⟨m + 1, by omega, by omega, by go_num, bw, SK⟩
        case measure => simp [intOf]; omega
    · have R : Hid (lst p l = n) := Lib.hid (by rw [lst_all fun k k1 k2 => hpre.out k k1 (by have := hl.out; omega) (by have := hl.out; omega)]; exact hl.out.symm)
      go_wp2_with fail
      go_ret
      exact ⟨ret_int (by rw [R.out]), bw⟩
end Go.Proofs.Ytainibnjpkbfpaa.Cv
