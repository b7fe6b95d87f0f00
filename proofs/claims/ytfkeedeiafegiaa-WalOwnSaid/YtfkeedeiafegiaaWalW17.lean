/- Walks: build, and the examples of the chapter. -/
import Derived.Test.YtfkeedeiafegiaaWalW16
import Derived.Deep.RegionWith
namespace Go.Proofs.Ytfkeedeiafegiaa.Wl
set_option linter.unusedVariables false
set_option linter.unusedSimpArgs false
open Go.RowKit

theorem ok_okR {r : Rec} (h : ok r) : okR r = true := ((ok_iff r).1 h).2
theorem ok_t {r : Rec} (h : ok r) : r.t ≤ 9223372036854775807 := by have := ((ok_iff r).1 h).1; omega
theorem encs_take_le (l : List Rec) (j : Nat) : (encs (l.take j)).length ≤ (encs l).length := by
  have := congrArg List.length (congrArg encs (List.take_append_drop j l))
  rw [encs_app, List.length_append] at this
  omega
set_option maxHeartbeats 1600000 in
theorem build_any {A : Option Addr} {n c : Nat} {l : List RV} (w : World) (h : Hid (Rr w A n c l)) (hok : Hid (∀ x ∈ l, ok x.r)) (hsz : Hid ((encs (l.map RV.r)).length ≤ 1048576)) :
    Calls Try.prog 40 #[.slice A n c] w fun e w' => ∃ A1 m c1, e = .returned (.tuple #[.slice A1 m c1, .bool true]) ∧ m = (encs (l.map RV.r)).length ∧ w'.ownsRow w.heap.size 5 1 (.slice A1 m c1) m (bv (encs (l.map RV.r))) ∧ Below w.heap.size w w' := by
  have hnc := h.out.row.nc
  have hc63 := h.out.row.c63
  go_enter Try.func40, Try.ntmps40
  go_wp2_with fail
  go_loopw [4, 10] (fun v i wr => ∃ (j : Nat) (A1 : Option Addr) (m c1 : Nat), j ≤ n ∧ i = .int .i64 j ∧ v = .slice A1 m c1 ∧ Hid (m = (encs ((l.map RV.r).take j)).length) ∧ Hid (wr.ownsRow w.heap.size 5 1 (.slice A1 m c1) m (bv (encs ((l.map RV.r).take j)))) ∧ Below w.heap.size w wr) (fun _ i _ => (n - intOf i).toNat)
  case atStart => exact ⟨0, none, 0, 0, by omega, rfl, rfl, Lib.hid rfl, Lib.hid (World.ownsRow_nil _ _ _ _), Below.refl _ _⟩
  case round =>
    obtain ⟨j, A1, m, c1, hj, rfl, rfl, hm, own, bw⟩ := hrel
    have hz := bw.size
    by_cases hlt : j < n
    · obtain ⟨g, o, x, rfl, hg, hx, hxm, a0, a1, a2⟩ := (h.out.below bw).rec_ hlt
      have hxd := Lib.hid (((h.out.dat x hxm).below bw).alloc (.cells #[.int .i64 x.k, .int .i64 x.t, .slice x.A x.d.length x.c] 24))
      have own' := Lib.hid (Rd.of_own (own_alloc own.out (.cells #[.int .i64 x.k, .int .i64 x.t, .slice x.A x.d.length x.c] 24)))
      have hxo := Lib.hid (hok.out x hxm)
      have hxt : x.t ≤ 9223372036854775807 := ok_t hxo.out
      have HT : Hid ((l.map RV.r).take (j + 1) = (l.map RV.r).take j ++ [x.r]) := Lib.hid (by rw [List.take_add_one, map_at hx]; rfl)
      have hoks : ∀ r ∈ (l.map RV.r).take j, ok r := fun r hr => by
        have := List.mem_of_mem_take hr
        obtain ⟨y, hy, rfl⟩ := List.mem_map.1 this
        exact hok.out y hy
      have hgl := glen_encs hoks
      have hnext : (encs ((l.map RV.r).take (j + 1))).length = m + (21 + x.d.length) := by
        rw [HT.out, encs_snoc, List.length_append, enc_len, ← hm.out]; rfl
      have hle := encs_take_le (l.map RV.r) (j + 1)
      have hm20 : m + (21 + x.d.length) ≤ 1048576 := by have := hsz.out; omega
      have R0 : Hid (aerr (encs ((l.map RV.r).take j)) ⟨x.k, x.t, x.d⟩ = 0) := Lib.hid (aerr_0 (ok_okR hxo.out) (by rw [hgl, ← hm.out]; omega) (by rw [← hm.out]; show ¬ 1048576 < m + (21 + x.d.length); omega))
      have R1 : Hid (aout (encs ((l.map RV.r).take j)) ⟨x.k, x.t, x.d⟩ = encs ((l.map RV.r).take (j + 1))) := Lib.hid (by rw [aout_yes R0.out, HT.out, encs_snoc]; rfl)
      have HNX := Lib.hid hnext
      obtain ⟨nx, hnx⟩ : ∃ nx, x.d.length = nx := ⟨_, rfl⟩
      rw [hnx] at a2 hxd own' hm20
      have HN := Lib.hid hnx.symm
      clear hnx hx hoks hgl hnext hle
      go_wp2_with fail
      go_at_call 22
      refine (Append_any (b := encs ((l.map RV.r).take j)) x.k x.t _ hm own' (by omega) HN hxd hxt).mono ?_
      rintro e w1 ⟨A2, n2, c2, rfl, own2, b1⟩
      rw [R0.out]
      rw [R1.out] at own2
      have hn2 := Lib.hid (show n2 = (encs ((l.map RV.r).take (j + 1))).length by have := own2.1; rw [bv_len] at this; omega)
      have OW := Lib.hid (own_base (base' := w.heap.size) own2 (by simp; omega))
      have bw1 := bel_step (bel_alloc bw (Nat.le_refl _) (.cells #[.int .i64 x.k, .int .i64 x.t, .slice x.A nx x.c] 24)) b1 (Nat.le_refl _)
      clear own2 b1
      go_wp2_with fail
      go_roundw
      case rel => exact ⟨j + 1, A2, n2, c2, by omega, by go_num, rfl, hn2, OW, bw1⟩
      case measure => simp [intOf]; omega
    · obtain rfl : j = n := by omega
      have hlj : Hid ((l.map RV.r).take j = l.map RV.r) := Lib.hid (List.take_of_length_le (by rw [List.length_map, ← h.out.len]; omega))
      go_wp2_with fail
      go_ret2
      exact ⟨A1, m, c1, rfl, by rw [← hlj.out, hlj.out]; have := hm.out; rwa [hlj.out] at this, by have := own.out; rwa [hlj.out] at this, bw⟩
end Go.Proofs.Ytfkeedeiafegiaa.Wl
