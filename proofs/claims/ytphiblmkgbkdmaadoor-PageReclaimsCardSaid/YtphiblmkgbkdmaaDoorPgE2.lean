/- Walks: few, entries. -/
import Derived.Test.YtphiblmkgbkdmaaDoorPgE1
namespace Go.Proofs.YtphiblmkgbkdmaaDoor.Pg
set_option linter.unusedVariables false
set_option linter.unusedSimpArgs false
open Go.RowKit Wl

def OV.val (x : OV) : Value := .agg #[.int .i64 x.kd, .slice x.A x.k.length x.c, .slice x.B x.v.length x.d]
def big (x : OV) : Bool := decide (200 < x.k.length) || decide (200 < x.v.length)
set_option maxRecDepth 20000 in
theorem few1_any (x : OV) (w : World) : Calls Tryd.prog 56 #[x.val] w fun e w' => e = .returned (.bool (big x)) ∧ Below w.heap.size w w' := by
  obtain ⟨kd, A, c, k, B, d, v⟩ := x
  show Calls Tryd.prog 56 #[.agg #[.int .i64 kd, .slice A k.length c, .slice B v.length d]] w fun e w' => e = .returned (.bool (decide (200 < k.length) || decide (200 < v.length))) ∧ Below w.heap.size w w'
  obtain ⟨kn, hkn⟩ : ∃ kn, k.length = kn := ⟨_, rfl⟩
  obtain ⟨vn, hvn⟩ : ∃ vn, v.length = vn := ⟨_, rfl⟩
  rw [hkn, hvn]
  clear hkn hvn
  obtain ⟨p, hp⟩ : ∃ p, w.heap.size = p := ⟨_, rfl⟩
  obtain ⟨W1, hW1⟩ : ∃ W1, w.alloc (.cells #[.int .i64 kd, .slice A kn c, .slice B vn d] 52) = W1 := ⟨_, rfl⟩
  have v1 : Below w.heap.size w W1 := hW1 ▸ bal _ _
  have X : Hid (Bx W1 p [.int .i64 kd, .slice A kn c, .slice B vn d]) := hW1 ▸ Lib.hid (Bx.put _ hp #[.int .i64 kd, .slice A kn c, .slice B vn d] 52)
  have TX : Hid (Ty W1 p 52) := hW1 ▸ hp ▸ Lib.hid (Ty.new _ _ _)
  have HW1 := Lib.hid hW1
  clear hW1
  have z0 := X.out.at_ 0 (by simp)
  have z1 := X.out.at_ 1 (by simp)
  have z2 := X.out.at_ 2 (by simp)
  simp only [List.getElem?_cons_succ, List.getElem?_cons_zero] at z0 z1 z2
  by_cases h1 : 200 < kn
  · have R : Hid ((decide (200 < kn) || decide (200 < vn)) = true) := Lib.hid (by simp [h1])
    have e1 : decide ((kn : Int) > 200) = true := decide_eq_true (by omega)
    go_enter Tryd.func56, Tryd.ntmps56
    go_upto_region 1 with fail
    rw [HW1.out]
    go_wp2_with fail
    go_ret
    exact ⟨by rw [R.out]; first | done | rfl, v1⟩
  · have e1 : decide ((kn : Int) > 200) = false := decide_eq_false (by omega)
    by_cases h2 : 200 < vn
    · have R : Hid ((decide (200 < kn) || decide (200 < vn)) = true) := Lib.hid (by simp [h2])
      have e2 : decide ((vn : Int) > 200) = true := decide_eq_true (by omega)
      go_enter Tryd.func56, Tryd.ntmps56
      go_upto_region 1 with fail
      rw [HW1.out]
      go_wp2_with fail
      go_ret
      exact ⟨by rw [R.out]; first | done | rfl, v1⟩
    · have R : Hid ((decide (200 < kn) || decide (200 < vn)) = false) := Lib.hid (by rw [decide_eq_false h1, decide_eq_false h2]; rfl)
      have e2 : decide ((vn : Int) > 200) = false := decide_eq_false (by omega)
      go_enter Tryd.func56, Tryd.ntmps56
      go_upto_region 1 with fail
      rw [HW1.out]
      go_wp2_with fail
      go_ret
      exact ⟨by rw [R.out]; first | done | rfl, v1⟩
set_option maxRecDepth 20000 in
theorem fewix_any {A : Option Addr} {n c : Nat} {l : List OV} (w : World) (h : Hid (Or w A n c l)) :
    Calls Tryd.prog 78 #[.slice A n c, .func (.func 56) #[] #[]] w (Ix w (l.any big)) := by
  have hnc := h.out.row.nc
  have hc63 := h.out.row.c63
  have NL := Lib.hid h.out.len
  go_enter Tryd.func78, Tryd.ntmps78
  go_wp2_with fail
  go_loopw [8] (fun i wr => ∃ j : Nat, j ≤ n ∧ i = .int .i64 j ∧ Below w.heap.size w wr ∧ Hid ((l.take j).any big = false)) (fun i _ => (n - intOf i).toNat)
  case atStart => exact ⟨0, by omega, rfl, Below.refl _ _, Lib.hid rfl⟩
  case round =>
    obtain ⟨j, hj, rfl, bw, hpre⟩ := hrel
    by_cases hlt : j < n
    · obtain ⟨g, o, x, rfl, hg, hx, c0, c1, c2⟩ := Or.item (h.out.below bw) hlt
      have HX := Lib.hid hx
      have HM := Lib.hid (List.mem_of_getElem? hx)
      have d1 : decide ((j : Int) < (n : Int)) = true := decide_eq_true (by omega)
      clear hx
      go_wp2_with fail
      go_at_call 56
      refine (few1_any x wr).mono ?_
      rintro e w1 ⟨rfl, hb1⟩
      have bw1 : Below w.heap.size w w1 := bel_step bw hb1 (Nat.le_refl _)
      clear hb1
      rcases hs : big x with _ | _
      · have hp2 : Hid ((l.take (j + 1)).any big = false) := Lib.hid (by
          rw [List.take_add_one, List.any_append, hpre.out, HX.out, Bool.false_or]; simpa using hs)
        clear hs
        go_wp2_with fail
        go_roundw
        case rel => exact ⟨j + 1, by omega, by first | trivial | go_num, bw1, hp2⟩
        case measure => simp [intOf]; omega
      · have R : Hid (l.any big = true) := Lib.hid (List.any_eq_true.2 ⟨x, HM.out, hs⟩)
        clear hs
        go_wp2_with fail
        go_ret
        exact Ix.t R.out rfl (by omega) bw1
    · obtain rfl : j = n := by omega
      have R : Hid (l.any big = false) := Lib.hid (by
        have h1 := hpre.out
        rwa [List.take_of_length_le (by have := NL.out; omega)] at h1)
      go_wp2_with fail
      go_ret
      exact Ix.f R.out rfl bw
def fewB (l : List OV) : Bool := decide (l.length ≤ 60) && !(l.any big)
set_option maxRecDepth 20000 in
theorem few_any {A : Option Addr} {n c : Nat} {l : List OV} (w : World) (h : Hid (Or w A n c l)) :
    Calls Tryd.prog 25 #[.slice A n c] w fun e w' => e = .returned (.bool (fewB l)) ∧ Below w.heap.size w w' := by
  have NL := Lib.hid h.out.len
  have CF : Calls Tryd.prog 55 #[.slice A n c, .func (.func 56) #[] #[]] w fun e w' => e = .returned (.bool (l.any big)) ∧ Below w.heap.size w w' := by
    go_enter Tryd.func55, Tryd.ntmps55
    go_wp2_with fail
    go_at_call 78
    refine (fewix_any _ h).mono ?_
    rintro e w1 ⟨i, rfl, i1, i2, hb1⟩
    rcases hs : l.any big with _ | _
    · have hi : i = -1 := i2 hs
      subst hi
      have HS := Lib.hid hs
      clear hs i1 i2
      go_wp2_with fail
      go_ret
      exact ⟨ret_bool HS.out.symm, hb1⟩
    · have hi : 0 ≤ i := i1 hs
      have HS := Lib.hid hs
      clear hs i1 i2
      go_wp2_with fail
      go_ret
      exact ⟨ret_bool HS.out.symm, hb1⟩
  have CF := Lib.hid CF
  by_cases hn : n ≤ 60
  · have e1 : decide ((n : Int) ≤ 60) = true := decide_eq_true (by omega)
    have R : Hid ((!(l.any big)) = fewB l) := Lib.hid (by unfold fewB; rw [← NL.out, decide_eq_true hn]; rfl)
    go_enter Tryd.func25, Tryd.ntmps25
    go_wp2_with fail
    go_at_call 55
    refine CF.out.mono ?_
    rintro e w1 ⟨rfl, b1⟩
    go_wp2_with fail
    go_ret
    exact ⟨ret_bool (by rw [← R.out]; first | done | rfl), b1⟩
  · have e1 : decide ((n : Int) ≤ 60) = false := decide_eq_false (by omega)
    have R : Hid (false = fewB l) := Lib.hid (by unfold fewB; rw [← NL.out, decide_eq_false hn]; rfl)
    go_enter Tryd.func25, Tryd.ntmps25
    go_wp2_with fail
    go_ret
    exact ⟨ret_bool (by rw [← R.out]; first | done | rfl), Below.refl _ _⟩
theorem few_true {l : List OV} (h : fewB l = true) : l.length ≤ 60 ∧ ∀ x ∈ l, x.k.length ≤ 200 ∧ x.v.length ≤ 200 := by
  unfold fewB at h
  rw [Bool.and_eq_true, decide_eq_true_iff, Bool.not_eq_true', List.any_eq_false] at h
  refine ⟨h.1, fun x hx => ?_⟩
  have := h.2 x hx
  unfold big at this
  rw [Bool.or_eq_true, decide_eq_true_iff, decide_eq_true_iff] at this
  omega
set_option maxRecDepth 20000 in
/-- entries: a file has the entries of a list. -/
theorem entries_any {f : FV} {PA FA KA KB A : Option Addr} {n pc m fc an ac bn bc ln lc : Nat} {r0 : Int} {ka kb : List UInt8} {es fs : List It} (hcs : CsOf f PA n pc r0 FA m fc) (w : World) (G : Hid (Gl w)) (HF : Hid (Fl w f)) (ha : Hid (Rd w 1 KA an ac (bv ka))) (hb : Hid (Rd w 1 KB bn bc (bv kb))) (hl : Hid (Lr w A ln lc fs))
    (ok : Hid (∃ ps, Fok f.f ps es)) (h1000 : es.length ≤ 1000) (he : Hid (kvs (rng es ka kb) = kvs fs)) :
    Calls Tryd.prog 39 #[.agg #[.slice PA n pc, .int .i64 r0, .slice FA m fc], .slice KA an ac, .slice KB bn bc, .slice A ln lc] w fun e w' => e = .returned (.bool true) ∧ Below w.heap.size w w' := by
  have bw := Below.refl w.heap.size w
  obtain ⟨p, hp⟩ : ∃ p, w.heap.size = p := ⟨_, rfl⟩
  obtain ⟨W0, hW0⟩ : ∃ W0, w.alloc (.cells #[.slice PA n pc, .int .i64 r0, .slice FA m fc] 30) = W0 := ⟨_, rfl⟩
  have b0 : Below w.heap.size w W0 := hW0 ▸ bal _ _
  have X : Hid (Bx W0 p [.slice PA n pc, .int .i64 r0, .slice FA m fc]) := hW0 ▸ Lib.hid (Bx.put _ hp #[.slice PA n pc, .int .i64 r0, .slice FA m fc] 30)
  have TX : Hid (Ty W0 p 30) := hW0 ▸ hp ▸ Lib.hid (Ty.new _ _ _)
  have HW0 := Lib.hid hW0
  clear hW0
  have ROK : Hid (∀ L er, RngO f.f ka kb L er → er = 0 ∧ kvs L = kvs fs) := Lib.hid fun L er hr => by
    obtain ⟨ps, hf⟩ := ok.out
    cases hr with
    | bad h => exact absurd hf.vld h
    | full s hs h hl =>
      have := (hf.at_ h).1
      rw [this] at hl
      have h3 : (rng es ka kb).length ≤ es.length := List.length_filter_le _ _
      omega
    | ok s hs h hl =>
      have := (hf.at_ h).1
      rw [this]
      exact ⟨rfl, he.out⟩
  obtain ⟨M, hM, hkM⟩ := hl.out.ex
  have HM := Lib.hid hM
  have HKM := Lib.hid hkM
  clear hM hkM
  replace bw := bw.trans (b0.mono bw.size)
  replace G := Lib.hid (G.out.nx b0)
  replace HF := Lib.hid (HF.out.nx b0)
  replace ha := Lib.hid (ha.out.nx b0)
  replace hb := Lib.hid (hb.out.nx b0)
  replace HM := Lib.hid (HM.out.nx b0)
  have z0 := X.out.at_ 0 (by simp)
  have z1 := X.out.at_ 1 (by simp)
  have z2 := X.out.at_ 2 (by simp)
  simp only [List.getElem?_cons_succ, List.getElem?_cons_zero] at z0 z1 z2
  go_enter Tryd.func39, Tryd.ntmps39
  go_upto_region 1 with fail
  rw [HW0.out]
  go_wp2_with fail
  go_at_call 21
  refine (Range_cs hcs _ G HF ha hb).mono ?_
  rintro e w1 ⟨rs, er, L, B, k, c, hr, hkv, rfl, HE, b1⟩
  obtain ⟨rfl, h2⟩ := ROK.out _ _ hr
  have EQ : Hid (L.map EV.kv = M.map EV.kv) := Lib.hid (by rw [hkv, h2, HKM.out])
  clear hr hkv h2 z0 z1 z2
  replace bw := bw.trans (b1.mono bw.size)
  replace HM := Lib.hid (HM.out.nx b1)
  go_wp2_with fail
  go_at_call 62
  refine (eqf_entries w1 HE HM EQ).mono ?_
  rintro e w2 ⟨rfl, b2⟩
  go_wp2_with fail
  go_ret
  exact ⟨rfl, bw.trans (b2.mono bw.size)⟩
end Go.Proofs.YtphiblmkgbkdmaaDoor.Pg
