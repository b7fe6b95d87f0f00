/- Laws about stores behind a checkpoint: parts of lists in memory, what a crash keeps. -/
import Derived.Test.YtpmkohnljngbhaaGreatDoorSrZa
import Derived.Test.YtpmkohnljngbhaaGreatDoorSrL2
import Derived.Test.YtpmkohnljngbhaaGreatDoorSrM4
import Derived.Deep.RegionHeldLaw
namespace Go.Proofs.YtpmkohnljngbhaaGreatDoor.Sr
set_option linter.unusedVariables false
set_option linter.unusedSimpArgs false
set_option maxRecDepth 1000000
open Go.RowKit Wl Pg
theorem Xr.upto {w : World} {A : Option Addr} {n c : Nat} {X : List XV} (h : Xr w A n c X) {q : Nat} (hq : q ≤ n) : Xr w A q c (X.take q) := by
  refine ⟨⟨by rw [xvs_len, List.length_take]; have := h.len; omega, Nat.le_trans hq h.row.nc, h.row.nil, h.row.c63, fun h0 => ?_⟩, fun x hx => h.dat x (List.mem_of_mem_take hx)⟩
  obtain ⟨g, o, e, hg, hc⟩ := h.row.at_ (by omega)
  refine ⟨g, o, e, hg, fun j hj => ?_⟩
  rw [hc j (by omega)]
  unfold xvs
  rw [List.map_take, List.getElem?_take_of_lt (by omega)]
theorem Xr.part {w : World} {g o n c : Nat} {X : List XV} (h : Xr w (some ⟨g, o, none⟩) n c X) {lo k : Nat} (hk : lo + k ≤ n) : Xr w (some ⟨g, o + lo, none⟩) k (c - lo) ((X.drop lo).take k) := by
  have hl := h.len
  have hnc := h.row.nc
  have h63 := h.row.c63
  refine ⟨⟨by rw [xvs_len, List.length_take, List.length_drop]; omega, by omega, (fun e => by cases e), by omega, fun h0 => ?_⟩, fun x hx => h.dat x (List.mem_of_mem_drop (List.mem_of_mem_take hx))⟩
  obtain ⟨g', o', e, hg, hc⟩ := h.row.at_ (by omega)
  injection e with e
  injection e with e1 e2
  subst e1 e2
  refine ⟨g, o + lo, rfl, hg, fun j hj => ?_⟩
  rw [Nat.add_assoc, hc (lo + j) (by omega)]
  unfold xvs
  rw [List.map_take, List.map_drop, List.getElem?_take_of_lt (by omega), List.getElem?_drop]
theorem maps_ent {M : List Ch} {L : List (List Ch)} (h : M = mdl L.flatten) (key : List UInt8) : mfd M key = app (fun _ => none) (effs (fun _ => none) L).flatten key := by
  rw [h, mfd_mdl, app_effs]
theorem sl_to (A : Option Addr) (n c k : Nat) (hk : k ≤ c) (w : World) : (Instr.sliceAt 22 (.slice A n c) none (some (.int .i64 (k : Int))) none).run Tryz.prog w = .ok (.slice A k c) w := by
  have h1 := run_sliceAt_slice (P := Tryz.prog) w 22 (.slice A n c) none (some (.int .i64 (k : Int))) none Tryz.underlying22
  have h2 := run_slice_h (P := Tryz.prog) w 22 A n c Tryz.underlying22 .i64 (k : Int) (by omega) (by omega)
  rw [h1, h2]
  rcases A with _ | ⟨g, o, p⟩ <;> simp [go_sem, sliced]
theorem sl_mid (g o n c lo hi : Nat) (h1 : lo < hi) (h2 : hi ≤ c) (w : World) : (Instr.sliceAt 22 (.slice (some ⟨g, o, none⟩) n c) (some (.int .i64 (lo : Int))) (some (.int .i64 (hi : Int))) none).run Tryz.prog w = .ok (.slice (some ⟨g, o + lo, none⟩) (hi - lo) (c - lo)) w := by
  have e1 := run_sliceAt_slice (P := Tryz.prog) w 22 (.slice (some ⟨g, o, none⟩) n c) (some (.int .i64 (lo : Int))) (some (.int .i64 (hi : Int))) none Tryz.underlying22
  have e2 := run_slice_lh (P := Tryz.prog) w 22 (some ⟨g, o, none⟩) n c Tryz.underlying22 .i64 .i64 (lo : Int) (hi : Int) (by omega) (by omega) (by omega)
  rw [e1, e2]
  have : ¬ c = lo := by omega
  simp [go_sem, sliced, this]
/-- The lengths of a log behind its transactions. -/
def endsL (t : Int) (Us : List (List Ch)) (d : Nat) : List Int := (List.range (d + 1)).map fun j => ((logL t (Us.take j)).length : Int)
theorem endsL_get {t : Int} {Us : List (List Ch)} {d j : Nat} (h : j ≤ d) : (endsL t Us d)[j]? = some ((logL t (Us.take j)).length : Int) := by
  unfold endsL; rw [List.getElem?_map, List.getElem?_range (by omega)]; rfl
theorem endsL_succ (t : Int) (Us : List (List Ch)) (d : Nat) : endsL t Us (d + 1) = endsL t Us d ++ [((logL t (Us.take (d + 1))).length : Int)] := by
  unfold endsL; rw [List.range_succ, List.map_append]; rfl
theorem endsL_len (t : Int) (Us : List (List Ch)) (d : Nat) : (endsL t Us d).length = d + 1 := by simp [endsL]
theorem endsL_take {t : Int} {Us Vs : List (List Ch)} {d : Nat} (h : Us.take d = Vs.take d) : endsL t Us d = endsL t Vs d := by
  unfold endsL
  refine List.map_congr_left fun j hj => ?_
  have hj : j ≤ d := by have := List.mem_range.1 hj; omega
  have e : ∀ L : List (List Ch), L.take j = (L.take d).take j := fun L => by rw [List.take_take]; congr 1; omega
  rw [e Us, e Vs, h]
/-- What the law's loop keeps, up to a place. -/
structure Kept (t : Int) (Us : List (List Ch)) (cut : Int) (j kp : Nat) : Prop where
  lt : kp = 0 ∨ (kp < j ∧ ((logL t (Us.take kp)).length : Int) ≤ cut)
  up : ∀ i, i < j → ((logL t (Us.take i)).length : Int) ≤ cut → i ≤ kp
theorem Kept.start (t : Int) (Us : List (List Ch)) (cut : Int) : Kept t Us cut 0 0 := ⟨.inl rfl, fun i hi => by omega⟩
theorem Kept.yes {t : Int} {Us : List (List Ch)} {cut : Int} {j kp : Nat} (h : Kept t Us cut j kp) (hc : ((logL t (Us.take j)).length : Int) ≤ cut) : Kept t Us cut (j + 1) j :=
  ⟨.inr ⟨by omega, hc⟩, fun i hi _ => by omega⟩
theorem Kept.no {t : Int} {Us : List (List Ch)} {cut : Int} {j kp : Nat} (h : Kept t Us cut j kp) (hc : ¬ ((logL t (Us.take j)).length : Int) ≤ cut) : Kept t Us cut (j + 1) kp :=
  ⟨h.lt.imp id fun h => ⟨by omega, h.2⟩, fun i hi hl => by
    rcases Nat.lt_or_ge i j with h1 | h1
    · exact h.up i h1 hl
    · obtain rfl : i = j := by omega
      exact absurd hl hc⟩
theorem Kept.crash {t : Int} {Us : List (List Ch)} {cut : Int} {kp k : Nat} (h : Kept t Us cut (Us.length + 1) kp) (h1 : k ≤ Us.length) (h2 : (logL t (Us.take k)).length ≤ Wl.cutN cut (logL t Us).length)
    (h3 : k < Us.length → Wl.cutN cut (logL t Us).length < (logL t (Us.take (k + 1))).length) : kp = k := by
  have hle : (logL t (Us.take k)).length ≤ (logL t Us).length := by
    have := logL_mono (t := t) (Ts := Us) h1; rwa [List.take_length] at this
  rcases Int.lt_or_le cut 0 with hc | hc
  · have c0 : Wl.cutN cut (logL t Us).length = 0 := by unfold Wl.cutN; rw [if_pos (by omega)]
    rw [c0] at h2 h3
    have k0 : k = 0 := by
      rcases Nat.eq_zero_or_pos k with h0 | h0
      · exact h0
      · have := logL_take_lt (t := t) (Ts := Us) (i := k - 1) (by omega)
        rw [show k - 1 + 1 = k by omega] at this; omega
    rcases h.lt with h4 | ⟨_, h4⟩
    · omega
    · omega
  · have hk : ((logL t (Us.take k)).length : Int) ≤ cut := by
      unfold Wl.cutN at h2
      split at h2
      · omega
      · split at h2 <;> omega
    have h5 := h.up k (by omega) hk
    rcases Nat.lt_or_ge k kp with h6 | h6
    · exfalso
      rcases h.lt with h4 | ⟨h4, h7⟩
      · omega
      · have h8 := h3 (by omega)
        have h9 := logL_mono (t := t) (Ts := Us) (show k + 1 ≤ kp by omega)
        have h10 : (logL t (Us.take kp)).length ≤ (logL t Us).length := by
          have := logL_mono (t := t) (Ts := Us) (show kp ≤ Us.length by omega); rwa [List.take_length] at this
        unfold Wl.cutN at h8
        split at h8
        · have := logL_take_lt (t := t) (Ts := Us) (i := kp - 1) (by omega)
          rw [show kp - 1 + 1 = kp by omega] at this; omega
        · split at h8 <;> omega
    · omega
end Go.Proofs.YtpmkohnljngbhaaGreatDoor.Sr
