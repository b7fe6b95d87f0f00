/- What a change keeps, plainly and in memory. -/
import Derived.Test.YtphiblmkgbkdmaaDoorPgS1
namespace Go.Proofs.YtphiblmkgbkdmaaDoor.Pg
set_option linter.unusedVariables false
set_option linter.unusedSimpArgs false
open Go.RowKit Wl

theorem keep_old {F G : Fi} {es : List It} {j : Nat} {key d d' : List UInt8} {e e' : Int} (h : Sok F es j) (s : Stp F G) (a : GetO F key d e) (b : OldO G F.root key d' e') : e = e' ∧ d = d' := by
  obtain ⟨ps, hf⟩ := h.ok
  by_cases hk : lenK key
  · rcases old_law hf s.le s.pg s.shp hk b with ⟨b1, b2, b3⟩ | ⟨b1, b2⟩
    · rcases get_law hf a with ⟨a1, _⟩ | ⟨_, a1, a2, a3⟩ | ⟨_, a1, _⟩
      · exact absurd hk a1
      · exact ⟨by rw [a3, b3], by rw [a2, b2]⟩
      · rw [b1] at a1; cases a1
    · rcases get_law hf a with ⟨a1, _⟩ | ⟨_, a1, _⟩ | ⟨_, a1, a2⟩
      · exact absurd hk a1
      · rw [b1] at a1; cases a1
      · rw [b1] at a1
        injection a1 with a1
        exact ⟨by rw [a2, b2], a1.symm⟩
  · rcases get_law hf a with ⟨_, a2, a3⟩ | ⟨a1, _⟩ | ⟨a1, _⟩
    · cases b with
      | arg _ => exact ⟨a3, a2⟩
      | get h _ _ _ => exact absurd h.1 hk
    · exact absurd a1 hk
    · exact absurd a1 hk
/-- A box of an operation is written. -/
theorem FlT.kpO {w w' : World} {p : Nat} {f : FV} (h : FlT w f) (k : Kp w w' (· = p)) (hp : Ty w p 52) : FlT w' f := by
  have a1 : ∀ g, blk f.PA = some g → g ≠ p := fun g e => ty_ne (h.pa g e) hp (by decide)
  have a2 : ∀ x ∈ f.ps, ∀ g, blk x.A = some g → g ≠ p := fun x hx g e => ty_ne (h.da x hx g e) hp (by decide)
  have a3 : ∀ g, 0 < f.free.length → blk f.FA = some g → g ≠ p := fun g h0 e => ty_ne (h.fa g h0 e) hp (by decide)
  exact ⟨⟨⟨Rd.kp h.fl.pg.row k fun g _ e => a1 g e, fun x hx => Rd.kp (h.fl.pg.dat x hx) k fun g _ e => a2 x hx g e⟩, Rd.kp h.fl.fr k fun g h0 e => a3 g h0 e⟩,
    fun g e => (h.pa g e).kp k (a1 g e), fun x hx g e => (h.da x hx g e).kp k (a2 x hx g e), fun g h0 e => (h.fa g h0 e).kp k (a3 g h0 e)⟩
theorem Ls.kpO {w w' : World} {p base n c : Nat} {A : Option Addr} {es : List It} (h : Ls w base A n c es) (hb : base ≤ p) (k : Kp w w' (· = p)) (hp : Ty w p 52) : Ls w' base A n c es := by
  obtain ⟨L, h1, h2, h3⟩ := h.ex
  have a1 : ∀ g, blk A = some g → g ≠ p := fun g e => ty_ne (h.ty g e) hp (by decide)
  have sf : ∀ g, Sf w base g → g ≠ p ∧ Sf w' base g := fun g h => by
    rcases h with h | ⟨cs, h⟩
    · exact ⟨by omega, .inl h⟩
    · have hne : g ≠ p := ty_ne ⟨cs, h⟩ hp (by decide)
      exact ⟨hne, .inr (Ty.kp (show Ty w g 5 from ⟨cs, h⟩) k hne)⟩
  exact ⟨⟨L, ⟨Rd.kp h1.row k fun g _ e => a1 g e, fun x hx => ⟨Rd.kp (h1.dat x hx).1 k fun g h0 e => (sf g ((h3 x hx).1 g h0 e)).1, Rd.kp (h1.dat x hx).2 k fun g h0 e => (sf g ((h3 x hx).2 g h0 e)).1⟩⟩, h2,
    fun x hx => ⟨fun g h0 e => (sf g ((h3 x hx).1 g h0 e)).2, fun g h0 e => (sf g ((h3 x hx).2 g h0 e)).2⟩⟩, fun g e => (h.ty g e).kp k (a1 g e)⟩
theorem Sm.kpO {w wr w' : World} {p p4 : Nat} {f : FV} {PA FA : Option Addr} {n pc m fc : Nat} {r : Int} {g q ln lc : Nat} {es : List It} {j : Nat} (S : Sm w wr p f PA FA n pc m fc r g q ln lc es j) (h4 : w.heap.size ≤ p4) (k : Kp wr w' (· = p4)) (hp : Ty wr p4 52) : Sm w w' p f PA FA n pc m fc r g q ln lc es j :=
  have hne : p ≠ p4 := ty_ne S.ty hp (by decide)
  ⟨S.bw.trans (k.low S.bw.size fun i e => by omega), S.fv, S.bx.kp k hne, S.ty.kp k hne, S.fl.kpO k hp, S.ls.kpO h4 k hp, S.ok, S.lp⟩
/-- One operation, laid as a list. -/
theorem or_one {w : World} {kd : Int} {KA VA : Option Addr} {kn kc vn vc : Nat} {k v : List UInt8} (hk : Rd w 1 KA kn kc (bv k)) (hv : Rd w 1 VA vn vc (bv v)) :
    Or (w.alloc (.cells #[.int .i64 kd, .slice KA kn kc, .slice VA vn vc] 52)) (some ⟨w.heap.size, 0, none⟩) 1 1 [⟨kd, KA, kc, k, VA, vc, v⟩] := by
  have h1 : kn = k.length := by have := hk.len; rw [bv_len] at this; omega
  have h2 : vn = v.length := by have := hv.len; rw [bv_len] at this; omega
  subst h1 h2
  refine ⟨Rd.lit w _ 3 #[.int .i64 kd, .slice KA k.length kc, .slice VA v.length vc] 1 (by omega) rfl, fun x hx => ?_⟩
  obtain rfl : x = _ := by simpa using hx
  exact ⟨hk.alloc _, hv.alloc _⟩
theorem keeps_any_ix {α : Type} (val : α → Value) (p : α → Bool) {A : Option Addr} {n c : Nat} {l : List α} {P : Addr} (w : World) (h : Hid (Rd w 1 A n c (l.map val)))
    (hf : Hid (∀ U, Below w.heap.size w U → ∀ x ∈ l, Calls Tryd.prog 31 #[val x, .pointer (some P)] U fun e w' => e = .returned (.bool (p x)) ∧ Below U.heap.size U w')) :
    Calls Tryd.prog 59 #[.slice A n c, .func (.func 31) #[] #[.pointer (some P)]] w (Ix w (l.any p)) := by
  have hnc := h.out.nc
  have hc63 := h.out.c63
  go_enter Tryd.func59, Tryd.ntmps59
  go_wp2_with fail
  go_loopw [8] (fun i wr => ∃ j : Nat, j ≤ n ∧ i = .int .i64 j ∧ Below w.heap.size w wr ∧ Hid ((l.take j).any p = false)) (fun i _ => (n - intOf i).toNat)
  case atStart => exact ⟨0, by omega, rfl, Below.refl _ _, Lib.hid rfl⟩
  case round =>
    obtain ⟨j, hj, rfl, bw, hpre⟩ := hrel
    by_cases hlt : j < n
    · obtain ⟨g, o, x, rfl, hg, hx, hc⟩ := Rd.at1 (Rd.below h.out bw) hlt
      have HX := Lib.hid hx
      have HM := Lib.hid (List.mem_of_getElem? hx)
      clear hx
      go_wp2_with fail
      go_at_call 31
      refine (hf.out _ bw x HM.out).mono ?_
      rintro e w1 ⟨rfl, hb1⟩
      have bw1 : Below w.heap.size w w1 := bel_step bw hb1 (Nat.le_refl _)
      clear hb1
      rcases hs : p x with _ | _
      · have hp2 : Hid ((l.take (j + 1)).any p = false) := Lib.hid (by
          rw [List.take_add_one, List.any_append, hpre.out, HX.out, Bool.false_or]; simpa using hs)
        clear hs
        go_wp2_with fail
        go_roundw
        case rel => exact ⟨j + 1, by omega, by go_num, bw1, hp2⟩
        case measure => simp [intOf]; omega
      · have R : Hid (l.any p = true) := Lib.hid (List.any_eq_true.2 ⟨x, HM.out, hs⟩)
        clear hs
        go_wp2_with fail
        go_ret
        exact Ix.t R.out rfl (by omega) bw1
    · obtain rfl : j = n := by omega
      have R : Hid (l.any p = false) := Lib.hid (by
        have h1 := hpre.out
        rwa [List.take_of_length_le (by have := h.out.len; rw [List.length_map] at this; omega)] at h1)
      go_wp2_with fail
      go_ret
      exact Ix.f R.out rfl bw
theorem keeps_any {α : Type} (val : α → Value) (p : α → Bool) {A : Option Addr} {n c : Nat} {l : List α} {P : Addr} (w : World) (h : Hid (Rd w 1 A n c (l.map val)))
    (hf : Hid (∀ U, Below w.heap.size w U → ∀ x ∈ l, Calls Tryd.prog 31 #[val x, .pointer (some P)] U fun e w' => e = .returned (.bool (p x)) ∧ Below U.heap.size U w')) :
    Calls Tryd.prog 30 #[.slice A n c, .func (.func 31) #[] #[.pointer (some P)]] w fun e w' => e = .returned (.bool (l.any p)) ∧ Below w.heap.size w w' := by
  go_enter Tryd.func30, Tryd.ntmps30
  go_wp2_with fail
  go_at_call 59
  refine (keeps_any_ix val p _ h hf).mono ?_
  rintro e w1 ⟨i, rfl, i1, i2, hb1⟩
  rcases hs : l.any p with _ | _
  · have hi : i = -1 := i2 hs
    subst hi
    have HS := Lib.hid hs
    clear hs i1 i2
    go_wp2_with fail
    go_ret
    exact ⟨ret_bool (by rw [HS.out]), hb1⟩
  · have hi : 0 ≤ i := i1 hs
    have HS := Lib.hid hs
    clear hs i1 i2
    go_wp2_with fail
    go_ret
    exact ⟨ret_bool (by rw [HS.out]), hb1⟩
theorem keeps1_any {f : FV} {PA FA : Option Addr} {n pc m fc p : Nat} {r : Int} (hcs : CsOf f PA n pc r FA m fc) (x : Int) (U : World) (HF : Hid (Fl U f)) (X : Hid (Bx U p [.slice PA n pc, .int .i64 r, .slice FA m fc])) :
    Calls Tryd.prog 31 #[.int .i64 x, .pointer (some ⟨p, 0, none⟩)] U fun e w' => e = .returned (.bool (!decide (x ∈ f.f.free))) ∧ Below U.heap.size U w' := by
  have z0 := X.out.at_ 0 (by simp)
  have z1 := X.out.at_ 1 (by simp)
  have z2 := X.out.at_ 2 (by simp)
  simp only [List.getElem?_cons_succ, List.getElem?_cons_zero] at z0 z1 z2
  go_enter Tryd.func31, Tryd.ntmps31
  go_wp2_with fail
  go_at_call 28
  refine (rFree_any hcs x U HF).mono ?_
  rintro e w1 ⟨rfl, b1⟩
  go_wp2_with fail
  go_ret
  exact ⟨by first | done | rfl, b1⟩
end Go.Proofs.YtphiblmkgbkdmaaDoor.Pg
