/- Facts carried over a step that makes memory. -/
import Derived.Test.YtphiblmkgbkdmaaDoorPgA1
import Derived.Test.YtphiblmkgbkdmaaDoorPgX8
import Derived.Test.YtphiblmkgbkdmaaDoorPgX9
import Derived.Test.YtphiblmkgbkdmaaDoorPgO
import Derived.Test.YtphiblmkgbkdmaaDoorPgR1
namespace Go.Proofs.YtphiblmkgbkdmaaDoor.Pg
set_option linter.unusedVariables false
set_option linter.unusedSimpArgs false
open Go.RowKit Wl

theorem Gl.nx {w w' : World} (h : Gl w) (b : Below w.heap.size w w') : Gl w' := h.below b
theorem Fl.nx {w w' : World} {f : FV} (h : Fl w f) (b : Below w.heap.size w w') : Fl w' f := h.below b
theorem Pr.nx {w w' : World} {A : Option Addr} {n c : Nat} {l : List PV} (h : Pr w A n c l) (b : Below w.heap.size w w') : Pr w' A n c l := h.below b
end Go.Proofs.YtphiblmkgbkdmaaDoor.Pg
namespace Go.Proofs.YtphiblmkgbkdmaaDoor.Wl
open Go.RowKit
theorem Rd.nx {w w' : World} {A : Option Addr} {size n c : Nat} {l : List Value} (h : Rd w size A n c l) (b : Below w.heap.size w w') : Rd w' size A n c l := Rd.below h b
end Go.Proofs.YtphiblmkgbkdmaaDoor.Wl
namespace Go.Proofs.YtphiblmkgbkdmaaDoor.Pg
open Go.RowKit Wl
theorem Er.nx {w w' : World} {A : Option Addr} {n c : Nat} {l : List EV} (h : Er w A n c l) (b : Below w.heap.size w w') : Er w' A n c l := ⟨Rd.below h.row b, fun x hx => ⟨Rd.below (h.dat x hx).1 b, Rd.below (h.dat x hx).2 b⟩⟩
theorem Or.nx {w w' : World} {A : Option Addr} {n c : Nat} {l : List OV} (h : Or w A n c l) (b : Below w.heap.size w w') : Or w' A n c l := h.below b
theorem Bx.nx {w w' : World} {p : Nat} {l : List Value} (h : Bx w p l) (b : Below w.heap.size w w') : Bx w' p l := h.step b
theorem Ty.nx {w w' : World} {p : Nat} {T : TypeId} (h : Ty w p T) (b : Below w.heap.size w w') : Ty w' p T := h.step b
end Go.Proofs.YtphiblmkgbkdmaaDoor.Pg
