/- Walks: Get, Old. -/
import Derived.Test.YtpmkohnljngbhaaDoorPgW8
namespace Go.Proofs.YtpmkohnljngbhaaDoor.Pg
set_option linter.unusedVariables false
set_option linter.unusedSimpArgs false
set_option maxRecDepth 1000000
open Go.RowKit Wl

theorem lenB_key {key : List UInt8} {kn : Nat} (h : kn = key.length) : lenB kn 0 = true ↔ lenK key := by
  unfold lenB lenK; rw [decide_eq_true_iff, h]; omega
section
variable {f : FV} {PA FA : Option Addr} {n pc m fc : Nat} {r0 : Int}
set_option maxHeartbeats 1600000 in
theorem Get_cs (hcs : CsOf f PA n pc r0 FA m fc) {K : Option Addr} {kn kc : Nat} {key : List UInt8} (w : World) (G : Hid (Gl w)) (HF : Hid (Fl w f)) (hk : Hid (Rd w 1 K kn kc (bv key))) :
    Calls Tryd.prog 58 #[.agg #[.slice PA n pc, .int .i64 r0, .slice FA m fc], .slice K kn kc] w (DatPost w (GetO f.f key)) := by
  have hb0 : Below w.heap.size w (w.alloc (.cells #[.slice PA n pc, .int .i64 r0, .slice FA m fc] 29)) := bal _ _
  have HF0 := Lib.hid (HF.out.below hb0)
  have G0 := Lib.hid (G.out.below hb0)
  have K0 := Lib.hid (Rd.below hk.out hb0)
  have hr0 := Lib.hid (cs_root hcs).1
  have LK : Hid (lenB kn 0 = true ↔ lenK key) := Lib.hid (lenB_key (by have := hk.out.len; rw [bv_len] at this; omega))
  go_enter Tryd.func58, Tryd.ntmps58
  go_wp2_with fail
  go_at_call 75
  refine (lengths_any _).mono ?_
  rintro e w' ⟨rfl, rfl⟩
  by_cases q1 : lenB kn 0 = true
  · have HK := Lib.hid (LK.out.1 q1)
    rw [q1]
    clear q1
    go_wp2_with fail
    go_at_call 54
    refine (shaped_cs hcs _ HF0).mono ?_
    rintro e w1 ⟨b, rfl, hb, b1⟩
    have bw1 := hb0.trans (b1.mono hb0.size)
    by_cases hbt : b = true
    · subst hbt
      have SH := Lib.hid (hb.1 rfl)
      have HF1 := Lib.hid (HF0.out.below b1)
      have G1 := Lib.hid (G0.out.below b1)
      have K1 := Lib.hid (Rd.below K0.out b1)
      have RY := Lib.hid (shp_rdy SH.out)
      have hr : r0 ≤ 100000 := by rw [hr0.out]; exact shp_root SH.out
      have Bx0 := Lib.hid ((Bx.new w #[.slice PA n pc, .int .i64 r0, .slice FA m fc] 29).step b1)
      have z0 := Bx0.out.at_ 0 (by simp)
      have z1 := Bx0.out.at_ 1 (by simp)
      have z2 := Bx0.out.at_ 2 (by simp)
      simp only [List.getElem?_cons_succ, List.getElem?_cons_zero] at z0 z1 z2
      clear hb
      go_wp2_with fail
      go_at_call 76
      refine (find_cs hcs r0 _ G1 HF1 RY hr K1).mono ?_
      rintro e w2 ⟨d, er, A, c, O, rfl, rd, b2⟩
      have R : Hid (GetO f.f key d er) := Lib.hid (.get HK.out SH.out d er (by rw [hr0.out] at O; exact O))
      clear O
      go_wp2_with fail
      go_ret2
      exact ⟨d, er, A, c, R.out, rfl, Lib.hid ⟨rd.out.1, fun g e => Nat.le_trans bw1.size (rd.out.2 g e)⟩, bw1.trans (b2.mono bw1.size)⟩
    · obtain rfl : b = false := by simpa using hbt
      have R : Hid (GetO f.f key [] 16) := Lib.hid (.log HK.out fun h => by have := hb.2 h; cases this)
      clear hb hbt
      go_wp2_with fail
      go_ret2
      exact DatPost.nil_ R.out bw1
  · have R : Hid (GetO f.f key [] 1) := Lib.hid (.arg fun h => q1 (LK.out.2 h))
    have q1 : lenB kn 0 = false := by simpa using q1
    rw [q1]
    clear q1
    go_wp2_with fail
    go_ret2
    exact DatPost.nil_ R.out hb0
end
end Go.Proofs.YtpmkohnljngbhaaDoor.Pg
