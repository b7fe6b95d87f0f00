/- A file stays where but a box of a store has turned. -/
import Derived.Test.YtpmkohnljngbhaaGreatDoorSrCp
namespace Go.Proofs.YtpmkohnljngbhaaGreatDoor.Sr
set_option linter.unusedVariables false
set_option linter.unusedSimpArgs false
set_option maxRecDepth 1000000
open Go.RowKit Wl Pg
/-- A file stays where but a box of a store has turned. -/
theorem flk {W W' : World} {f : FV} {q : Nat} (h : FlT W f) (hq : Ty W q 32) (k : Kp W W' (· = q)) : Fl W' f :=
  ⟨⟨Rd.kp h.fl.pg.row k fun g _ e => ty_ne (h.pa g e) hq (by decide), fun x hx => Rd.kp (h.fl.pg.dat x hx) k fun g h0 e => ty_ne (h.da x hx g e) hq (by decide)⟩, Rd.kp h.fl.fr k fun g h0 e => ty_ne (h.fa g h0 e) hq (by decide)⟩
theorem kp_set5 (W : World) (q : Nat) (a b c d e : Value) : Kp W (((((W.setCell ⟨q, 0, none⟩ a).setCell ⟨q, 1, none⟩ b).setCell ⟨q, 2, none⟩ c).setCell ⟨q, 3, none⟩ d).setCell ⟨q, 4, none⟩ e) (· = q) := by
  have k1 : Kp W (W.setCell ⟨q, 0, none⟩ a) (· = q) := Kp.of_set W ⟨q, 0, none⟩ _ rfl
  have k2 := k1.trans (Kp.of_set (X := (· = q)) (W.setCell ⟨q, 0, none⟩ a) ⟨q, 1, none⟩ b rfl) fun _ _ e => e
  have k3 := k2.trans (Kp.of_set (X := (· = q)) _ ⟨q, 2, none⟩ c rfl) fun _ _ e => e
  have k4 := k3.trans (Kp.of_set (X := (· = q)) _ ⟨q, 3, none⟩ d rfl) fun _ _ e => e
  exact k4.trans (Kp.of_set (X := (· = q)) _ ⟨q, 4, none⟩ e rfl) fun _ _ e => e
end Go.Proofs.YtpmkohnljngbhaaGreatDoor.Sr
