/- Plain: a log in which one byte was changed. -/
import Derived.Test.YtpmkohnljngbhaaGreatDoorSrC2
namespace Go.Proofs.YtpmkohnljngbhaaGreatDoor.Sr
set_option linter.unusedVariables false
set_option linter.unusedSimpArgs false
set_option maxRecDepth 1000000
open Go.RowKit Wl

theorem effs_takeN : ∀ (L : List (List Ch)) (b : Ent) (q : Nat), (effs b L).take q = effs b (L.take q)
  | [], b, q => by simp [effs]
  | t :: L, b, 0 => rfl
  | t :: L, b, q + 1 => by
    show (eff b t :: effs (app b t) L).take (q + 1) = eff b t :: effs (app b t) (L.take q)
    rw [List.take_succ_cons, effs_takeN L]
end Go.Proofs.YtpmkohnljngbhaaGreatDoor.Sr
