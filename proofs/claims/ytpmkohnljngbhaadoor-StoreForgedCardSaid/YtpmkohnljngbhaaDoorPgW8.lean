/- Walks: Valid, Check, find, Get, Old. -/
import Derived.Test.YtpmkohnljngbhaaDoorPgW7
import Derived.Test.YtpmkohnljngbhaaDoorPgT2
namespace Go.Proofs.YtpmkohnljngbhaaDoor.Pg
set_option linter.unusedVariables false
set_option linter.unusedSimpArgs false
set_option maxRecDepth 1000000
open Go.RowKit Wl

theorem shp_rdy {f : FV} (h : Shp f.f) : Rdy f := by
  have h4 := h.n4
  have hf := h.fr
  simp only [FV.f, List.length_map] at h4 hf
  exact ⟨h4, fun x hx => h.p256 x.d (List.mem_map.2 ⟨x, hx, rfl⟩), frok_srt hf, by have := frok_len hf; omega⟩
theorem shp_root {f : FV} (h : Shp f.f) : f.root ≤ 100000 := by
  have h1 := h.r2
  have h2 := h.n4
  simp only [FV.f, List.length_map] at h1 h2
  omega
/-- The cells of a file, its numbers as letters. -/
abbrev CsOf (f : FV) (PA : Option Addr) (n pc : Nat) (r0 : Int) (FA : Option Addr) (m fc : Nat) : Prop := Hid (#[.slice PA n pc, .int .i64 r0, .slice FA m fc] = f.cs.toArray)
theorem cs_of (f : FV) : CsOf f f.PA f.ps.length f.pc f.root f.FA f.free.length f.fc := Lib.hid rfl
section
variable {f : FV} {PA FA : Option Addr} {n pc m fc : Nat} {r0 : Int}
theorem cs_val (h : CsOf f PA n pc r0 FA m fc) : f.val = .agg #[.slice PA n pc, .int .i64 r0, .slice FA m fc] := by
  rw [h.out]; rfl
theorem cs_root (h : CsOf f PA n pc r0 FA m fc) : r0 = f.root ∧ n = f.ps.length ∧ m = f.free.length ∧ PA = f.PA ∧ pc = f.pc ∧ FA = f.FA ∧ fc = f.fc := by
  have h1 : [Value.slice PA n pc, .int .i64 r0, .slice FA m fc] = [.slice f.PA f.ps.length f.pc, .int .i64 f.root, .slice f.FA f.free.length f.fc] := congrArg Array.toList h.out
  simp only [List.cons.injEq, Value.slice.injEq, Value.int.injEq] at h1
  obtain ⟨⟨a, b, c⟩, ⟨_, d⟩, ⟨e, g, i⟩, _⟩ := h1
  exact ⟨d, b, g, a, c, e, i⟩
theorem shaped_cs (hcs : CsOf f PA n pc r0 FA m fc) (w : World) (HF : Hid (Fl w f)) : Calls Tryd.prog 54 #[.agg #[.slice PA n pc, .int .i64 r0, .slice FA m fc]] w (ShPost w f.f) := by
  have := shaped_any f w HF; rwa [cs_val hcs] at this
def VaPost (w : World) (f : FV) (e : Ending) (w' : World) : Prop := ∃ b, e = .returned (.bool b) ∧ (b = true ↔ Vld f.f) ∧ Below w.heap.size w w'
set_option maxHeartbeats 1600000 in
theorem Valid_cs (hcs : CsOf f PA n pc r0 FA m fc) (w : World) (G : Hid (Gl w)) (HF : Hid (Fl w f)) : Calls Tryd.prog 37 #[.agg #[.slice PA n pc, .int .i64 r0, .slice FA m fc]] w (VaPost w f) := by
  have hb0 : Below w.heap.size w (w.alloc (.cells #[.slice PA n pc, .int .i64 r0, .slice FA m fc] 29)) := bal _ _
  have HF0 := Lib.hid (HF.out.below hb0)
  have G0 := Lib.hid (G.out.below hb0)
  have hr0 := Lib.hid (cs_root hcs).1
  go_enter Tryd.func37, Tryd.ntmps37
  go_wp2_with fail
  go_at_call 54
  refine (shaped_cs hcs _ HF0).mono ?_
  rintro e w1 ⟨b, rfl, hb, b1⟩
  have bw1 := hb0.trans (b1.mono hb0.size)
  by_cases hbt : b = true
  · subst hbt
    have SH := Lib.hid (hb.1 rfl)
    have HF1 := Lib.hid (HF0.out.below b1)
    have G1 := Lib.hid (G0.out.below b1)
    have RY := Lib.hid (shp_rdy SH.out)
    have hr : r0 ≤ 100000 := by rw [hr0.out]; exact shp_root SH.out
    have Bx0 := Lib.hid ((Bx.new w #[.slice PA n pc, .int .i64 r0, .slice FA m fc] 29).step b1)
    have z0 := Bx0.out.at_ 0 (by simp)
    have z1 := Bx0.out.at_ 1 (by simp)
    have z2 := Bx0.out.at_ 2 (by simp)
    simp only [List.getElem?_cons_succ, List.getElem?_cons_zero] at z0 z1 z2
    clear hb
    go_wp2_with fail
    go_at_call 55
    refine (read_in r0 r0 _ hcs G1 HF1 RY hr).mono ?_
    rintro e w2 ⟨⟨S, M, A, n7, c7, L, rok, rfl, _, _, _⟩ | ⟨rok, rfl⟩, b2⟩
    · have R : Hid (Vld f.f) := Lib.hid ⟨SH.out, _, by rw [hr0.out] at rok; exact rok⟩
      clear rok
      go_wp2_with fail
      go_ret
      exact ⟨true, rfl, ⟨fun _ => R.out, fun _ => rfl⟩, bw1.trans (b2.mono bw1.size)⟩
    · have R : Hid ((false : Bool) = true ↔ Vld f.f) := Lib.hid ⟨fun e => (by cases e), fun h => by obtain ⟨s, hs⟩ := h.2; exact absurd hs (by have := rok s; rwa [hr0.out] at this)⟩
      clear rok
      go_wp2_with fail
      go_ret
      exact ⟨false, rfl, R.out, bw1.trans (b2.mono bw1.size)⟩
  · obtain rfl : b = false := by simpa using hbt
    have R : Hid ((false : Bool) = true ↔ Vld f.f) := Lib.hid ⟨fun e => (by cases e), fun h => by have := hb.2 h.1; cases this⟩
    clear hb hbt
    go_wp2_with fail
    go_ret
    exact ⟨false, rfl, R.out, bw1⟩
def ChPost (w : World) (f : FV) (e : Ending) (w' : World) : Prop := ∃ (k : Nat) (er : Int), ChkO f.f k er ∧ e = .returned (.tuple #[.int .i64 (k : Int), .int .i64 er]) ∧ Below w.heap.size w w'
/-- A value, and an error. -/
def DatPost (w : World) (O : List UInt8 → Int → Prop) (e : Ending) (w' : World) : Prop := ∃ (d : List UInt8) (er : Int) (A : Option Addr) (c : Nat), O d er ∧ e = .returned (.tuple #[.slice A d.length c, .int .i64 er]) ∧ Hid (Rd w' 1 A d.length c (bv d) ∧ ∀ g, blk A = some g → w.heap.size ≤ g) ∧ Below w.heap.size w w'
theorem DatPost.nil_ {w w' : World} {O : List UInt8 → Int → Prop} {er : Int} (h : O [] er) (hb : Below w.heap.size w w') : DatPost w O (.returned (.tuple #[.slice none 0 0, .int .i64 er])) w' := ⟨[], er, none, 0, h, rfl, Lib.hid ⟨Rd.nil_ _ _, fun g e => by simp [blk] at e⟩, hb⟩
set_option maxHeartbeats 1600000 in
theorem find_cs (hcs : CsOf f PA n pc r0 FA m fc) {K : Option Addr} {kn kc : Nat} {key : List UInt8} (root : Int) (w : World) (G : Hid (Gl w)) (HF : Hid (Fl w f)) (RY : Hid (Rdy f)) (hr : root ≤ 100000) (hk : Hid (Rd w 1 K kn kc (bv key))) :
    Calls Tryd.prog 76 #[.agg #[.slice PA n pc, .int .i64 r0, .slice FA m fc], .int .i64 root, .slice K kn kc] w (DatPost w (FndO f.f root key)) := by
  have hb0 : Below w.heap.size w (w.alloc (.cells #[.slice PA n pc, .int .i64 r0, .slice FA m fc] 29)) := bal _ _
  have HF0 := Lib.hid (HF.out.below hb0)
  have G0 := Lib.hid (G.out.below hb0)
  have K0 := Lib.hid (Rd.below hk.out hb0)
  go_enter Tryd.func76, Tryd.ntmps76
  go_wp2_with fail
  go_at_call 55
  refine (read_in r0 root _ hcs G0 HF0 RY hr).mono ?_
  rintro e w1 ⟨⟨S, M, A, n7, c7, L, rok, rfl, mb, iw, _⟩ | ⟨rok, rfl⟩, b1⟩
  · have bw1 := hb0.trans (b1.mono hb0.size)
    have K1 := Lib.hid (Rd.below K0.out b1)
    have ROK := Lib.hid rok
    have SR := Lib.hid rok.srt
    clear rok
    have hL := Lib.hid (len3 iw.out.row)
    have hn7 : n7 ≤ 1000000 := by
      have h1 := ROK.out.items (fun p hp => by obtain ⟨x, hx, rfl⟩ := List.mem_map.1 hp; exact RY.out.p256 x hx)
      have h3 := hL.out
      have h4 := h1.lim
      have h5 := h1.sz
      have h6 := RY.out.n4
      simp only [List.length_map] at h5
      simp only [its_len] at h4
      omega
    go_wp2_with fail
    go_at_call 88
    refine (search_any _ iw K1 SR hn7).mono ?_
    rintro e w2 ⟨i, b, rfl, hp, b2⟩
    have bw2 := bw1.trans (b2.mono bw1.size)
    rcases b with _ | _
    · have R : Hid (FndO f.f root key [] 7) := Lib.hid (.none _ ROK.out (lkp_none (hp.no SR.out)))
      clear hp
      go_wp2_with fail
      go_ret2
      exact DatPost.nil_ R.out bw2
    · obtain ⟨xi, hxi, hxk⟩ := hp.fd.1 rfl
      have hi7 : i < n7 := by
        have := (List.getElem?_eq_some_iff.1 hxi).1
        rw [its_len] at this; have := hL.out; omega
      have I2 := Lib.hid (iw.out.below b2)
      obtain ⟨g, o, x, rfl, hg, hx, _, a1, _⟩ := Rd.item I2.out.row hi7
      obtain rfl : xi = x.it := by
        unfold its at hxi; rw [List.getElem?_map, hx] at hxi; injection hxi with hxi; exact hxi.symm
      have R : Hid (FndO f.f root key x.v 0) := Lib.hid (.some _ _ ROK.out (lkp_some SR.out hxi hxk))
      have hv := Lib.hid (I2.out.dat x (List.mem_of_getElem? hx)).2
      have hvl : x.v.length ≤ 1073741824 := by
        have h1 := (ROK.out.items (fun p hp => by obtain ⟨x, hx, rfl⟩ := List.mem_map.1 hp; exact RY.out.p256 x hx)).ok x.it (List.mem_of_getElem? hxi)
        have := h1.v2
        have e : x.it.v = x.v := rfl
        rw [e] at this; omega
      clear hp hxi hxk hx
      simp only [IV.vv] at a1
      have hc7 := I2.out.row.nc
      have hc63 := I2.out.row.c63
      obtain ⟨vn, hvn⟩ : ∃ vn, x.v.length = vn := ⟨_, rfl⟩
      rw [hvn] at a1 hv hvl
      go_wp2_with fail
      go_at_call 44
      refine (bclone_any _ hv (bv_one _) hvl).mono ?_
      rintro e w3 ⟨A3, c3, rfl, own3, b3⟩
      have HVN := Lib.hid hvn
      clear hvn
      go_wp2_with fail
      go_ret2
      refine ⟨x.v, 0, A3, c3, R.out, ?_, ?_, bw2.trans (b3.mono bw2.size)⟩
      · rw [HVN.out]; rfl
      · rw [HVN.out]; exact Lib.hid ⟨Rd.of_own own3.out, fun g e => Nat.le_trans bw2.size (own_blk_le own3.out e).1⟩
  · have bw1 := hb0.trans (b1.mono hb0.size)
    have R : Hid (FndO f.f root key [] 16) := Lib.hid (.bad rok)
    clear rok
    go_wp2_with fail
    go_ret2
    exact DatPost.nil_ R.out bw1
end
end Go.Proofs.YtpmkohnljngbhaaDoor.Pg
