/- Walks: slices.ContainsFunc over changes; small. -/
import Derived.Test.YtpmkohnljngbhaaDoorSrW4
namespace Go.Proofs.YtpmkohnljngbhaaDoor.Sr
set_option linter.unusedVariables false
set_option linter.unusedSimpArgs false
set_option maxRecDepth 1000000
open Go.RowKit Wl Pg

def CV.bad (x : CV) : Bool := !(x.ch.ok)
theorem CV.ok_eq (x : CV) : okN x.k.length x.v.length x.del = x.ch.ok := rfl
theorem vw_any_ix (p : CV → Bool) {A : Option Addr} {n c : Nat} {l : List CV} (w : World) (h : Hid (Cr w A n c l))
    (hf : Hid (∀ U, Below w.heap.size w U → ∀ x ∈ l, Calls Tryd.prog 61 #[x.val] U fun e w' => e = .returned (.bool (p x)) ∧ Below U.heap.size U w')) :
    Calls Tryd.prog 52 #[.slice A n c, .func (.func 61) #[] #[]] w (Ix w (l.any p)) := by
  have hnc := h.out.row.nc
  have hc63 := h.out.row.c63
  have NL := Lib.hid h.out.len
  go_enter Tryd.func52, Tryd.ntmps52
  go_wp2_with fail
  go_loopw [8] (fun i wr => ∃ j : Nat, j ≤ n ∧ i = .int .i64 j ∧ Below w.heap.size w wr ∧ Hid ((l.take j).any p = false)) (fun i _ => (n - intOf i).toNat)
  case atStart => exact ⟨0, by omega, rfl, Below.refl _ _, Lib.hid rfl⟩
  case round =>
    obtain ⟨j, hj, rfl, bw, hpre⟩ := hrel
    by_cases hlt : j < n
    · obtain ⟨g, o, x, rfl, hg, hx, c0, c1, c2⟩ := Cr.item (h.out.nx bw) hlt
      have HX := Lib.hid hx
      have HM := Lib.hid (List.mem_of_getElem? hx)
      have d1 : decide ((j : Int) < (n : Int)) = true := decide_eq_true (by omega)
      have CF := Lib.hid (hf.out _ bw x HM.out)
      clear hx
      go_wp2_with fail
      go_at_call 61
      refine CF.out.mono ?_
      rintro e w1 ⟨rfl, hb1⟩
      have bw1 : Below w.heap.size w w1 := bel_step bw hb1 (Nat.le_refl _)
      clear hb1
      rcases hs : p x with _ | _
      · have hp2 : Hid ((l.take (j + 1)).any p = false) := Lib.hid (by
          rw [List.take_add_one, List.any_append, hpre.out, HX.out, Bool.false_or]; simpa using hs)
        clear hs
        go_wp2_with fail
        go_roundw
        case rel => exact ⟨j + 1, by omega, by first | trivial | go_num, bw1, hp2⟩
        case measure => simp [intOf]; omega
      · have R : Hid (l.any p = true) := Lib.hid (List.any_eq_true.2 ⟨x, HM.out, hs⟩)
        clear hs
        go_wp2_with fail
        go_ret
        exact Ix.t R.out rfl (by omega) bw1
    · obtain rfl : j = n := by omega
      have R : Hid (l.any p = false) := Lib.hid (by
        have h1 := hpre.out
        rwa [List.take_of_length_le (by have := NL.out; omega)] at h1)
      go_wp2_with fail
      go_ret
      exact Ix.f R.out rfl bw
theorem vw_any (p : CV → Bool) {A : Option Addr} {n c : Nat} {l : List CV} (w : World) (h : Hid (Cr w A n c l))
    (hf : Hid (∀ U, Below w.heap.size w U → ∀ x ∈ l, Calls Tryd.prog 61 #[x.val] U fun e w' => e = .returned (.bool (p x)) ∧ Below U.heap.size U w')) :
    Calls Tryd.prog 32 #[.slice A n c, .func (.func 61) #[] #[]] w fun e w' => e = .returned (.bool (l.any p)) ∧ Below w.heap.size w w' := by
  go_enter Tryd.func32, Tryd.ntmps32
  go_wp2_with fail
  go_at_call 52
  refine (vw_any_ix p _ h hf).mono ?_
  rintro e w1 ⟨i, rfl, i1, i2, hb1⟩
  rcases hs : l.any p with _ | _
  · have hi : i = -1 := i2 hs
    subst hi
    have HS := Lib.hid hs
    clear hs i1 i2
    go_wp2_with fail
    go_ret
    exact ⟨ret_bool (by rw [HS.out]), hb1⟩
  · have hi : 0 ≤ i := i1 hs
    have HS := Lib.hid hs
    clear hs i1 i2
    go_wp2_with fail
    go_ret
    exact ⟨ret_bool (by rw [HS.out]), hb1⟩
theorem sm_any_ix (p : CV → Bool) {A : Option Addr} {n c : Nat} {l : List CV} (w : World) (h : Hid (Cr w A n c l))
    (hf : Hid (∀ U, Below w.heap.size w U → ∀ x ∈ l, Calls Tryd.prog 33 #[x.val] U fun e w' => e = .returned (.bool (p x)) ∧ Below U.heap.size U w')) :
    Calls Tryd.prog 52 #[.slice A n c, .func (.func 33) #[] #[]] w (Ix w (l.any p)) := by
  have hnc := h.out.row.nc
  have hc63 := h.out.row.c63
  have NL := Lib.hid h.out.len
  go_enter Tryd.func52, Tryd.ntmps52
  go_wp2_with fail
  go_loopw [8] (fun i wr => ∃ j : Nat, j ≤ n ∧ i = .int .i64 j ∧ Below w.heap.size w wr ∧ Hid ((l.take j).any p = false)) (fun i _ => (n - intOf i).toNat)
  case atStart => exact ⟨0, by omega, rfl, Below.refl _ _, Lib.hid rfl⟩
  case round =>
    obtain ⟨j, hj, rfl, bw, hpre⟩ := hrel
    by_cases hlt : j < n
    · obtain ⟨g, o, x, rfl, hg, hx, c0, c1, c2⟩ := Cr.item (h.out.nx bw) hlt
      have HX := Lib.hid hx
      have HM := Lib.hid (List.mem_of_getElem? hx)
      have d1 : decide ((j : Int) < (n : Int)) = true := decide_eq_true (by omega)
      have CF := Lib.hid (hf.out _ bw x HM.out)
      clear hx
      go_wp2_with fail
      go_at_call 33
      refine CF.out.mono ?_
      rintro e w1 ⟨rfl, hb1⟩
      have bw1 : Below w.heap.size w w1 := bel_step bw hb1 (Nat.le_refl _)
      clear hb1
      rcases hs : p x with _ | _
      · have hp2 : Hid ((l.take (j + 1)).any p = false) := Lib.hid (by
          rw [List.take_add_one, List.any_append, hpre.out, HX.out, Bool.false_or]; simpa using hs)
        clear hs
        go_wp2_with fail
        go_roundw
        case rel => exact ⟨j + 1, by omega, by first | trivial | go_num, bw1, hp2⟩
        case measure => simp [intOf]; omega
      · have R : Hid (l.any p = true) := Lib.hid (List.any_eq_true.2 ⟨x, HM.out, hs⟩)
        clear hs
        go_wp2_with fail
        go_ret
        exact Ix.t R.out rfl (by omega) bw1
    · obtain rfl : j = n := by omega
      have R : Hid (l.any p = false) := Lib.hid (by
        have h1 := hpre.out
        rwa [List.take_of_length_le (by have := NL.out; omega)] at h1)
      go_wp2_with fail
      go_ret
      exact Ix.f R.out rfl bw
theorem sm_any (p : CV → Bool) {A : Option Addr} {n c : Nat} {l : List CV} (w : World) (h : Hid (Cr w A n c l))
    (hf : Hid (∀ U, Below w.heap.size w U → ∀ x ∈ l, Calls Tryd.prog 33 #[x.val] U fun e w' => e = .returned (.bool (p x)) ∧ Below U.heap.size U w')) :
    Calls Tryd.prog 32 #[.slice A n c, .func (.func 33) #[] #[]] w fun e w' => e = .returned (.bool (l.any p)) ∧ Below w.heap.size w w' := by
  go_enter Tryd.func32, Tryd.ntmps32
  go_wp2_with fail
  go_at_call 52
  refine (sm_any_ix p _ h hf).mono ?_
  rintro e w1 ⟨i, rfl, i1, i2, hb1⟩
  rcases hs : l.any p with _ | _
  · have hi : i = -1 := i2 hs
    subst hi
    have HS := Lib.hid hs
    clear hs i1 i2
    go_wp2_with fail
    go_ret
    exact ⟨ret_bool (by rw [HS.out]), hb1⟩
  · have hi : 0 ≤ i := i1 hs
    have HS := Lib.hid hs
    clear hs i1 i2
    go_wp2_with fail
    go_ret
    exact ⟨ret_bool (by rw [HS.out]), hb1⟩
theorem vw1_any (x : CV) (w : World) : Calls Tryd.prog 61 #[x.val] w fun e w' => e = .returned (.bool x.bad) ∧ Below w.heap.size w w' := by
  obtain ⟨A, c, k, B, d, v, del⟩ := x
  show Calls Tryd.prog 61 #[.agg #[.slice A k.length c, .slice B v.length d, .bool del]] w fun e w' => e = .returned (.bool (!(okN k.length v.length del))) ∧ Below w.heap.size w w'
  obtain ⟨kn, hkn⟩ : ∃ kn, k.length = kn := ⟨_, rfl⟩
  obtain ⟨vn, hvn⟩ : ∃ vn, v.length = vn := ⟨_, rfl⟩
  rw [hkn, hvn]
  clear hkn hvn
  obtain ⟨p, hp⟩ : ∃ p, w.heap.size = p := ⟨_, rfl⟩
  obtain ⟨W1, hW1⟩ : ∃ W1, w.alloc (.cells #[.slice A kn c, .slice B vn d, .bool del] 45) = W1 := ⟨_, rfl⟩
  have v1 : Below w.heap.size w W1 := hW1 ▸ bal _ _
  have X : Hid (Bx W1 p [.slice A kn c, .slice B vn d, .bool del]) := hW1 ▸ Lib.hid (Bx.put _ hp #[.slice A kn c, .slice B vn d, .bool del] 45)
  have TX : Hid (Ty W1 p 45) := hW1 ▸ hp ▸ Lib.hid (Ty.new _ _ _)
  have HW1 := Lib.hid hW1
  clear hW1
  have z0 := X.out.at_ 0 (by simp)
  have z1 := X.out.at_ 1 (by simp)
  have z2 := X.out.at_ 2 (by simp)
  simp only [List.getElem?_cons_succ, List.getElem?_cons_zero] at z0 z1 z2
  go_enter Tryd.func61, Tryd.ntmps61
  go_upto_region 1 with fail
  rw [HW1.out]
  go_wp2_with fail
  go_at_call 62
  refine (valid_any W1).mono ?_
  rintro e w2 ⟨rfl, b2⟩
  have bw := v1.trans (b2.mono v1.size)
  go_wp2_with fail
  go_ret
  exact ⟨by first | rfl | trivial, bw⟩
theorem sm1_any (x : CV) (w : World) : Calls Tryd.prog 33 #[x.val] w fun e w' => e = .returned (.bool x.bad) ∧ Below w.heap.size w w' := by
  obtain ⟨A, c, k, B, d, v, del⟩ := x
  show Calls Tryd.prog 33 #[.agg #[.slice A k.length c, .slice B v.length d, .bool del]] w fun e w' => e = .returned (.bool (!(okN k.length v.length del))) ∧ Below w.heap.size w w'
  obtain ⟨kn, hkn⟩ : ∃ kn, k.length = kn := ⟨_, rfl⟩
  obtain ⟨vn, hvn⟩ : ∃ vn, v.length = vn := ⟨_, rfl⟩
  rw [hkn, hvn]
  clear hkn hvn
  obtain ⟨p, hp⟩ : ∃ p, w.heap.size = p := ⟨_, rfl⟩
  obtain ⟨W1, hW1⟩ : ∃ W1, w.alloc (.cells #[.slice A kn c, .slice B vn d, .bool del] 45) = W1 := ⟨_, rfl⟩
  have v1 : Below w.heap.size w W1 := hW1 ▸ bal _ _
  have X : Hid (Bx W1 p [.slice A kn c, .slice B vn d, .bool del]) := hW1 ▸ Lib.hid (Bx.put _ hp #[.slice A kn c, .slice B vn d, .bool del] 45)
  have TX : Hid (Ty W1 p 45) := hW1 ▸ hp ▸ Lib.hid (Ty.new _ _ _)
  have HW1 := Lib.hid hW1
  clear hW1
  have z0 := X.out.at_ 0 (by simp)
  have z1 := X.out.at_ 1 (by simp)
  have z2 := X.out.at_ 2 (by simp)
  simp only [List.getElem?_cons_succ, List.getElem?_cons_zero] at z0 z1 z2
  go_enter Tryd.func33, Tryd.ntmps33
  go_upto_region 1 with fail
  rw [HW1.out]
  go_wp2_with fail
  go_at_call 34
  refine (rValC_any W1).mono ?_
  rintro e w2 ⟨rfl, b2⟩
  have bw := v1.trans (b2.mono v1.size)
  go_wp2_with fail
  go_ret
  exact ⟨by first | rfl | trivial, bw⟩
def smT (l : List CV) : Bool := decide (12 < l.length) || l.any CV.bad
theorem smT_any {A : Option Addr} {n c : Nat} {l : List CV} (w : World) (h : Hid (Cr w A n c l)) : Calls Tryd.prog 31 #[.slice A n c] w fun e w' => e = .returned (.bool (smT l)) ∧ Below w.heap.size w w' := by
  have NL := Lib.hid h.out.len
  have C : Hid (Calls Tryd.prog 32 #[.slice A n c, .func (.func 33) #[] #[]] w fun e w' => e = .returned (.bool (l.any CV.bad)) ∧ Below w.heap.size w w') := Lib.hid (sm_any CV.bad w h (Lib.hid fun U _ x _ => sm1_any x U))
  by_cases h1 : 12 < n
  · have e1 : decide ((n : Int) > 12) = true := decide_eq_true (by omega)
    have R : Hid (smT l = true) := Lib.hid (by unfold smT; rw [← NL.out, decide_eq_true h1]; rfl)
    go_enter Tryd.func31, Tryd.ntmps31
    go_wp2_with fail
    go_ret
    exact ⟨ret_bool R.out.symm, Below.refl _ _⟩
  · have e1 : decide ((n : Int) > 12) = false := decide_eq_false (by omega)
    have R : Hid (smT l = l.any CV.bad) := Lib.hid (by unfold smT; rw [← NL.out, decide_eq_false h1]; rfl)
    go_enter Tryd.func31, Tryd.ntmps31
    go_wp2_with fail
    go_at_call 32
    refine C.out.mono ?_
    rintro e w1 ⟨rfl, b1⟩
    go_wp2_with fail
    go_ret
    exact ⟨ret_bool R.out.symm, b1⟩
theorem smX_ix {A : Option Addr} {n c : Nat} {L : List XV} (w : World) (h : Hid (Xr w A n c L)) :
    Calls Tryd.prog 51 #[.slice A n c, .func (.func 31) #[] #[]] w (Ix w (L.any fun x => smT x.l)) := by
  have hnc := h.out.row.nc
  have hc63 := h.out.row.c63
  have NL := Lib.hid h.out.len
  go_enter Tryd.func51, Tryd.ntmps51
  go_wp2_with fail
  go_loopw [8] (fun i wr => ∃ j : Nat, j ≤ n ∧ i = .int .i64 j ∧ Below w.heap.size w wr ∧ Hid ((L.take j).any (fun x => smT x.l) = false)) (fun i _ => (n - intOf i).toNat)
  case atStart => exact ⟨0, by omega, rfl, Below.refl _ _, Lib.hid rfl⟩
  case round =>
    obtain ⟨j, hj, rfl, bw, hpre⟩ := hrel
    by_cases hlt : j < n
    · obtain ⟨g, o, x, rfl, hg, hx, c0⟩ := Xr.item (h.out.nx bw) hlt
      have HX := Lib.hid hx
      have HM := Lib.hid (List.mem_of_getElem? hx)
      have d1 : decide ((j : Int) < (n : Int)) = true := decide_eq_true (by omega)
      obtain ⟨xn, hxn⟩ : ∃ xn, x.l.length = xn := ⟨_, rfl⟩
      have XD := h.out.dat x HM.out
      rw [hxn] at c0 XD
      have CF := Lib.hid (smT_any wr (Lib.hid (XD.nx bw)))
      clear hx hxn XD
      go_wp2_with fail
      go_at_call 31
      refine CF.out.mono ?_
      rintro e w1 ⟨rfl, hb1⟩
      have bw1 : Below w.heap.size w w1 := bel_step bw hb1 (Nat.le_refl _)
      clear hb1
      rcases hs : smT x.l with _ | _
      · have hp2 : Hid ((L.take (j + 1)).any (fun x => smT x.l) = false) := Lib.hid (by
          rw [List.take_add_one, List.any_append, hpre.out, HX.out, Bool.false_or]; simpa using hs)
        clear hs
        go_wp2_with fail
        go_roundw
        case rel => exact ⟨j + 1, by omega, by first | trivial | go_num, bw1, hp2⟩
        case measure => simp [intOf]; omega
      · have R : Hid (L.any (fun x => smT x.l) = true) := Lib.hid (List.any_eq_true.2 ⟨x, HM.out, hs⟩)
        clear hs
        go_wp2_with fail
        go_ret
        exact Ix.t R.out rfl (by omega) bw1
    · obtain rfl : j = n := by omega
      have R : Hid (L.any (fun x => smT x.l) = false) := Lib.hid (by
        have h1 := hpre.out
        rwa [List.take_of_length_le (by have := NL.out; omega)] at h1)
      go_wp2_with fail
      go_ret
      exact Ix.f R.out rfl bw
theorem smX_any {A : Option Addr} {n c : Nat} {L : List XV} (w : World) (h : Hid (Xr w A n c L)) :
    Calls Tryd.prog 30 #[.slice A n c, .func (.func 31) #[] #[]] w fun e w' => e = .returned (.bool (L.any fun x => smT x.l)) ∧ Below w.heap.size w w' := by
  go_enter Tryd.func30, Tryd.ntmps30
  go_wp2_with fail
  go_at_call 51
  refine (smX_ix _ h).mono ?_
  rintro e w1 ⟨i, rfl, i1, i2, hb1⟩
  rcases hs : L.any fun x => smT x.l with _ | _
  · have hi : i = -1 := i2 hs
    subst hi
    have HS := Lib.hid hs
    clear hs i1 i2
    go_wp2_with fail
    go_ret
    exact ⟨ret_bool (by rw [HS.out]), hb1⟩
  · have hi : 0 ≤ i := i1 hs
    have HS := Lib.hid hs
    clear hs i1 i2
    go_wp2_with fail
    go_ret
    exact ⟨ret_bool (by rw [HS.out]), hb1⟩
/-- At most 6 transactions of at most 12 changes, all valid. -/
def smL (L : List XV) : Bool := decide (L.length ≤ 6) && !(L.any fun x => smT x.l)
theorem smL_true {L : List XV} (h : smL L = true) : L.length ≤ 6 ∧ ∀ x ∈ L, x.l.length ≤ 12 ∧ ∀ y ∈ x.l, y.ch.ok = true := by
  unfold smL at h
  simp only [Bool.and_eq_true, decide_eq_true_eq, Bool.not_eq_true', List.any_eq_false] at h
  refine ⟨h.1, fun x hx => ?_⟩
  have := h.2 x hx
  unfold smT at this
  simp only [Bool.or_eq_true, decide_eq_true_eq, not_or, List.any_eq_true, not_exists, not_and] at this
  refine ⟨by omega, fun y hy => ?_⟩
  have h2 := this.2 y hy
  unfold CV.bad at h2
  simpa using h2
theorem small_any {A : Option Addr} {n c : Nat} {L : List XV} (w : World) (h : Hid (Xr w A n c L)) : Calls Tryd.prog 8 #[.slice A n c] w fun e w' => e = .returned (.bool (smL L)) ∧ Below w.heap.size w w' := by
  have NL := Lib.hid h.out.len
  have C := Lib.hid (smX_any w h)
  by_cases h1 : n ≤ 6
  · have e1 : decide ((n : Int) ≤ 6) = true := decide_eq_true (by omega)
    have R : Hid (smL L = !(L.any fun x => smT x.l)) := Lib.hid (by unfold smL; rw [← NL.out, decide_eq_true h1]; rfl)
    go_enter Tryd.func8, Tryd.ntmps8
    go_wp2_with fail
    go_at_call 30
    refine C.out.mono ?_
    rintro e w1 ⟨rfl, b1⟩
    go_wp2_with fail
    go_ret
    exact ⟨ret_bool R.out.symm, b1⟩
  · have e1 : decide ((n : Int) ≤ 6) = false := decide_eq_false (by omega)
    have R : Hid (smL L = false) := Lib.hid (by unfold smL; rw [← NL.out, decide_eq_false h1]; rfl)
    go_enter Tryd.func8, Tryd.ntmps8
    go_wp2_with fail
    go_ret
    exact ⟨ret_bool R.out.symm, Below.refl _ _⟩
end Go.Proofs.YtpmkohnljngbhaaDoor.Sr
