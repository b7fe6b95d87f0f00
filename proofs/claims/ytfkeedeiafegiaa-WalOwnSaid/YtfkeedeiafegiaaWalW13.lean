/- Walk: the log of records. -/
import Derived.Test.YtfkeedeiafegiaaWalW12
import Derived.Test.YtfkeedeiafegiaaWalO
namespace Go.Proofs.Ytfkeedeiafegiaa.Wl
set_option linter.unusedVariables false
set_option linter.unusedSimpArgs false
open Go.RowKit

def okR (r : Rec) : Bool := okV r.k r.t r.d.length
/-- The valid ones of some records. -/
def vals (l : List RV) : List Rec := (l.map RV.r).filter okR
theorem vals_snoc (l : List RV) (x : RV) : vals (l ++ [x]) = if okR x.r = true then vals l ++ [x.r] else vals l := by
  unfold vals
  rw [List.map_append, List.filter_append]
  by_cases h : okR x.r = true
  · rw [if_pos h]; simp [h]
  · rw [if_neg h]; simp [h]
set_option maxRecDepth 20000 in
theorem vals_len {l : List RV} (h : ∀ x ∈ l, x.d.length ≤ 5000) : (encs (vals l)).length ≤ l.length * 4117 := by
  induction l with
  | nil => simp [vals, encs]
  | cons x l ih =>
    have := ih fun y hy => h y (by simp [hy])
    have hx := h x (by simp)
    unfold vals at this ⊢
    simp only [List.map_cons, List.filter_cons, List.length_cons]
    split
    · rename_i ho
      rw [encs_cons, List.length_append, enc_len]
      have := (okV_p (k := x.k) (t := x.t) (n := x.d.length) ho).2.2.2.1
      have e : x.r.d.length = x.d.length := rfl
      rw [e, Nat.add_mul]
      omega
    · omega
theorem vals_ok {l : List RV} (h : Fit l) : ∀ r ∈ vals l, ok r := by
  intro r hr
  unfold vals at hr
  rw [List.mem_filter, List.mem_map] at hr
  obtain ⟨⟨x, hx, rfl⟩, ho⟩ := hr
  rw [ok_iff]
  exact ⟨by have := h x hx; show x.t < _; omega, ho⟩
theorem take_rv {l : List RV} {k : Nat} {x : RV} (h : l[k]? = some x) : l.take (k + 1) = l.take k ++ [x] := by rw [List.take_add_one, h]; rfl
set_option maxRecDepth 20000 in
set_option maxHeartbeats 800000 in
theorem log_any {A : Option Addr} {n c : Nat} {l : List RV} (w : World) (h : Hid (Rr w A n c l)) (hf : Hid (Fit l)) (h40 : n ≤ 40) (h5 : Hid (∀ x ∈ l, x.d.length ≤ 5000)) :
    Calls Try.prog 18 #[.slice A n c] w (Mk w (encs (vals l)).length (encs (vals l))) := by
  have hnc := h.out.row.nc
  have hc63 := h.out.row.c63
  obtain ⟨i0, hi, hz0, hz1, hz2⟩ := info_parts info_u8
  go_enter Try.func18, Try.ntmps18
  go_wp2_with fail
  go_loopw [3, 10] (fun v i wr => ∃ (j : Nat) (A1 : Option Addr) (m c1 : Nat), j ≤ n ∧ i = .int .i64 j ∧ v = .slice A1 m c1 ∧ m ≤ j * 4117 ∧ Hid (wr.ownsRow w.heap.size 5 1 (.slice A1 m c1) m (bv (encs (vals (l.take j))))) ∧ Below w.heap.size w wr) (fun _ i _ => (n - intOf i).toNat)
  case atStart => exact ⟨0, none, 0, 0, by omega, rfl, rfl, by omega, Lib.hid (World.ownsRow_nil _ _ _ _), Below.refl _ _⟩
  case round =>
    obtain ⟨j, A1, m, c1, hj, rfl, rfl, hm, own, bw⟩ := hrel
    have hz := bw.size
    by_cases hlt : j < n
    · obtain ⟨g, o, x, rfl, hg, hx, hxm, a0, a1, a2⟩ := (h.out.below bw).rec_ hlt
      have hxd := Lib.hid (((h.out.dat x hxm).below bw).alloc (.cells #[.int .i64 x.k, .int .i64 x.t, .slice x.A x.d.length x.c] 24))
      have hxt := hf.out x hxm
      have hx5 := h5.out x hxm
      obtain ⟨nx, hnx⟩ : ∃ nx, x.d.length = nx := ⟨_, rfl⟩
      rw [hnx] at a2 hxd hx5
      have HX := Lib.hid (take_rv hx)
      have HN := Lib.hid hnx
      clear hnx hx
      rcases hv : okV x.k x.t nx with _ | _
      · have R : Hid (vals (l.take (j + 1)) = vals (l.take j)) := Lib.hid (by
          have ho : ¬ okR x.r = true := by show ¬ okV x.k x.t x.d.length = true; rw [HN.out, hv]; simp
          rw [HX.out, vals_snoc, if_neg ho])
        have HV := Lib.hid hv
        clear hv
        go_wp2_with fail
        go_at_call 15
        refine (rEncode_bad x.k x.t _ HV.out).mono ?_
        rintro e w1 ⟨rfl, hb1⟩
        have own1 := own_below (own_alloc own.out (.cells #[.int .i64 x.k, .int .i64 x.t, .slice x.A nx x.c] 24)) hb1
        have bw1 : Below w.heap.size w w1 := bel_step (bel_alloc bw (Nat.le_refl _) _) hb1 (Nat.le_refl _)
        have OW := Lib.hid own1
        clear own1 hb1
        go_wp2_with fail
        go_roundw
        case rel => exact ⟨j + 1, A1, m, c1, by omega, by go_num, rfl, by omega, by rw [R.out]; exact OW, bw1⟩
        case measure => simp [intOf]; omega
      · have R : Hid (encs (vals (l.take (j + 1))) = encs (vals (l.take j)) ++ enc ⟨x.k, x.t, x.d⟩) := Lib.hid (by
          have ho : okR x.r = true := by show okV x.k x.t x.d.length = true; rw [HN.out, hv]
          rw [HX.out, vals_snoc, if_pos ho, encs_snoc, RV.r])
        have h4 := (okV_p hv).2.2.2.1
        have HV := Lib.hid hv
        clear hv
        go_wp2_with fail
        go_at_call 15
        refine (rEncode_ok x.k x.t _ hxd HV.out hxt).mono ?_
        rintro e w1 ⟨A2, c2, rfl, own2, hb1⟩
        have own1 := own_below (own_alloc own.out (.cells #[.int .i64 x.k, .int .i64 x.t, .slice x.A nx x.c] 24)) hb1
        have bw1 : Below w.heap.size w w1 := bel_step (bel_alloc bw (Nat.le_refl _) _) hb1 (Nat.le_refl _)
        have z1 := bw1.size
        have OW := Lib.hid own1
        have O2 := Lib.hid (Rd.of_own own2)
        clear own1 hb1 own2
        go_wp2_with (at_builtin; refine wpList_app _ rfl (.tmp 21) (.tmp 22) 22 rfl w.heap.size 5 i0 (.int .u8 0) 1 1 Try.underlying22 hi hz0 hz1 hz2 rfl (by omega) (by rfl) OW.out (by rfl) O2.out (bv_one _) (by omega) (by omega) z1 ?_; intro A3 c3 w3 own3 g3)
        go_roundw
        case rel => exact ⟨j + 1, A3, m + (21 + nx), c3, by omega, by go_num, rfl, by omega, Lib.hid (by rw [R.out, bv_app]; exact own3), g3.low bw1 z1 (fun g e => (own_blk_le OW.out e).1)⟩
        case measure => simp [intOf]; omega
    · obtain rfl : j = n := by omega
      have hlen : Hid (l.take j = l) := Lib.hid (List.take_of_length_le (by rw [← h.out.len]; omega))
      have hml : Hid (m = (encs (vals l)).length) := Lib.hid (by have := own.out.1; rw [hlen.out, bv_len] at this; omega)
      go_wp2_with fail
      go_ret
      exact ⟨A1, c1, by rw [← hml.out]; rfl, by rw [← hml.out, ← hlen.out, hlen.out]; have := own.out; rwa [hlen.out] at this, bw⟩
end Go.Proofs.Ytfkeedeiafegiaa.Wl
