/- Any file at all, plainly. -/
import Derived.Test.YtphiblmkgbkdmaaDoorPgLa
namespace Go.Proofs.YtphiblmkgbkdmaaDoor.Pg
set_option linter.unusedVariables false
set_option linter.unusedSimpArgs false

theorem raw_get {F : Fi} {key d : List UInt8} {g : Int} (p : GetO F key d g) : (¬ lenK key → g = 1) ∧ (lenK key → ¬ Vld F → g = 16) := by
  cases p with
  | arg h => exact ⟨fun _ => rfl, fun h' => absurd h' h⟩
  | log h hs => exact ⟨fun h' => absurd h h', fun _ _ => rfl⟩
  | get h hs _ _ hf =>
    refine ⟨fun h' => absurd h h', fun _ hv => ?_⟩
    cases hf with
    | bad h => rfl
    | none s h2 _ => exact absurd ⟨hs, s, h2⟩ hv
    | some s d h2 _ => exact absurd ⟨hs, s, h2⟩ hv
theorem lenKV_nil {key : List UInt8} : lenKV key [] ↔ lenK key := by
  unfold lenKV lenK; simp
theorem raw_put {F G : Fi} {key : List UInt8} {h : Int} (p : PutO F key [] G h) : (¬ lenK key → h = 1) ∧ (lenK key → ¬ Vld F → h = 16) := by
  cases p with
  | arg h => exact ⟨fun _ => rfl, fun h' => absurd (lenKV_nil.2 h') h⟩
  | log h hv => exact ⟨fun h' => absurd (lenKV_nil.1 h) h', fun _ _ => rfl⟩
  | full fr hfr h hv hf => exact ⟨fun h' => absurd (lenKV_nil.1 h) h', fun _ h' => absurd hv h'⟩
  | ok fr hfr h hv hf => exact ⟨fun h' => absurd (lenKV_nil.1 h) h', fun _ h' => absurd hv h'⟩
theorem raw_del {F G : Fi} {key : List UInt8} {h : Int} (p : DelO F key G h) : (¬ lenK key → h = 1) ∧ (lenK key → ¬ Vld F → h = 16) := by
  cases p with
  | err d er h he => exact raw_get h
  | full fr hfr d h hf => exact ⟨fun h' => absurd ((raw_get h).1 h') (by decide), fun h1 h2 => absurd ((raw_get h).2 h1 h2) (by decide)⟩
  | ok fr hfr d h hf => exact ⟨fun h' => absurd ((raw_get h).1 h') (by decide), fun h1 h2 => absurd ((raw_get h).2 h1 h2) (by decide)⟩
theorem raw_chk {F : Fi} {k : Nat} {e : Int} (p : ChkO F k e) : (Vld F → e = 0) ∧ (¬ Vld F → k = 0 ∧ e = 16) := by
  cases p with
  | bad h => exact ⟨fun h' => absurd h' h, fun _ => ⟨rfl, rfl⟩⟩
  | ok s hs h => exact ⟨fun _ => rfl, fun h' => absurd ⟨hs, s, h⟩ h'⟩
theorem raw_rng {F : Fi} {a b : List UInt8} {es : List It} {j : Int} (p : RngO F a b es j) : ¬ Vld F → j = 16 := by
  intro hv
  cases p with
  | bad h => rfl
  | full s hs h _ => exact absurd ⟨hs, s, h⟩ hv
  | ok s hs h _ => exact absurd ⟨hs, s, h⟩ hv
end Go.Proofs.YtphiblmkgbkdmaaDoor.Pg
