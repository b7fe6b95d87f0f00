/- The state of a script in memory. -/
import Derived.Test.YtphiblmkgbkdmaaDoorPgN1
import Derived.Test.YtphiblmkgbkdmaaDoorPgE2
namespace Go.Proofs.YtphiblmkgbkdmaaDoor.Pg
set_option linter.unusedVariables false
set_option linter.unusedSimpArgs false
open Go.RowKit Wl

structure Sm (w wr : World) (p : Nat) (f : FV) (PA FA : Option Addr) (n pc m fc : Nat) (r : Int) (g q ln lc : Nat) (es : List It) (j : Nat) : Prop where
  bw : Below w.heap.size w wr
  fv : Fv f PA n pc r FA m fc
  bx : Bx wr p [.slice PA n pc, .int .i64 r, .slice FA m fc]
  ty : Ty wr p 30
  fl : FlT wr f
  ls : Ls wr w.heap.size (some ⟨g, q, none⟩) ln lc es
  ok : Sok f.f es j
  lp : w.heap.size ≤ p
theorem Sm.nx {w wr w' : World} {p : Nat} {f : FV} {PA FA : Option Addr} {n pc m fc : Nat} {r : Int} {g q ln lc : Nat} {es : List It} {j : Nat} (S : Sm w wr p f PA FA n pc m fc r g q ln lc es j) (b : Below wr.heap.size wr w') : Sm w w' p f PA FA n pc m fc r g q ln lc es j :=
  ⟨S.bw.trans (b.mono S.bw.size), S.fv, S.bx.nx b, S.ty.nx b, S.fl.nx b, S.ls.nx b, S.ok, S.lp⟩
theorem newV_fv : Fv newV none 0 0 (-1) none 0 0 := ⟨rfl, Lib.hid rfl, rfl, rfl, rfl⟩
/-- The beginning. -/
theorem st_new {w w3 : World} (b : Below w.heap.size w w3) :
    Sm w ((w3.alloc (.cells #[] 73)).alloc (.cells #[.slice none 0 0, .int .i64 (-1), .slice none 0 0] 30)) (w3.heap.size + 1) newV none none 0 0 0 0 (-1) w3.heap.size 0 0 0 [] 0 := by
  have e : (w3.alloc (.cells #[] 73)).heap.size = w3.heap.size + 1 := by simp
  have b1 : Below w3.heap.size w3 (w3.alloc (.cells #[] 73)) := bal _ _
  have b2 := bal (w3.alloc (.cells #[] 73)) (.cells #[.slice none 0 0, .int .i64 (-1), .slice none 0 0] 30)
  refine ⟨(b.trans (b1.mono b.size)).trans (b2.mono (Nat.le_trans b.size b1.size)), newV_fv, Bx.put _ e _ _, e ▸ Ty.new _ _ _, ⟨new_fl _, fun g e => by simp [newV, blk] at e, by simp [newV], fun g h0 _ => by simp [newV] at h0⟩,
    ⟨⟨[], ⟨⟨rfl, by omega, fun e => (by cases e), by omega, fun h => by omega⟩, by simp⟩, rfl, by simp⟩, fun g e => ?_⟩, sok_new, by have := b.size; omega⟩
  simp [blk] at e
  subst e
  exact (Ty.new w3 #[] _).step b2
/-- A step. -/
theorem st_put {w wr w2 : World} {p : Nat} {f f' : FV} {PA FA : Option Addr} {n pc m fc : Nat} {r : Int} {g q ln lc : Nat} {es : List It} {j : Nat} {PA' FA' : Option Addr} {n' pc' m' fc' g' q' ln' lc' : Nat} {r' : Int} {o : Op}
    (S : Sm w wr p f PA FA n pc m fc r g q ln lc es j) (v : Below wr.heap.size wr w2) (NX : Nx f.f f'.f es o j) (F2 : FlT w2 f') (L2 : Ls w2 w.heap.size (some ⟨g', q', none⟩) ln' lc' (nxt es o)) (V : Fv f' PA' n' pc' r' FA' m' fc') :
    Sm w (((w2.setCell ⟨p, 0, none⟩ (.slice PA' n' pc')).setCell ⟨p, 1, none⟩ (.int .i64 r')).setCell ⟨p, 2, none⟩ (.slice FA' m' fc')) p f' PA' FA' n' pc' m' fc' r' g' q' ln' lc' (nxt es o) (j + 1) := by
  have T2 := S.ty.nx v
  have k := kp_res (a := .slice PA' n' pc') (b := .int .i64 r') (c := .slice FA' m' fc') (Kp.refl w2 (· = p))
  have B := (((S.bx.nx v).set (j := 0) (by simp) (.slice PA' n' pc')).set (j := 1) (by simp) (.int .i64 r')).set (j := 2) (by simp) (.slice FA' m' fc')
  exact ⟨res_below (S.bw.trans (v.mono S.bw.size)) S.lp, V, B, ((T2.set p 0 _).set p 1 _).set p 2 _, F2.kp k T2, L2.kp S.lp k T2, NX.sok, S.lp⟩
/-- Sizes. -/
theorem chk_sok {F : Fi} {es : List It} {j k : Nat} {e : Int} (h : Sok F es j) (c : ChkO F k e) : e = 0 ∧ k ≤ 2 * es.length ∧ (k = 0 ↔ F.root = -1) := by
  obtain ⟨ps, hf⟩ := h.ok
  cases c with
  | bad h => exact absurd hf.vld h
  | ok s hs h =>
    have hp := (hf.at_ h).2.length_eq
    rw [hp]
    refine ⟨rfl, ?_⟩
    have r1 := hf.shp.r1
    cases hf.tr with
    | no h0 => exact ⟨by simp, by simp; omega⟩
    | yes _ _ h0 ht =>
      have h1 := ht.cnt
      have h2 := ht.ps_pos
      refine ⟨by omega, ⟨fun e => ?_, fun e => by omega⟩⟩
      rw [List.eq_nil_of_length_eq_zero e] at h2
      simp at h2
theorem few_at {l : List OV} (h : fewB l = true) {x : OV} (hx : x ∈ l) : x.k.length ≤ 200 ∧ x.v.length ≤ 200 := (few_true h).2 x hx
end Go.Proofs.YtphiblmkgbkdmaaDoor.Pg
