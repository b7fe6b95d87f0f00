/- Older roots; the chapter's examples. -/
import Derived.Test.YtphiblmkgbkdmaaDoorPgL4
namespace Go.Proofs.YtphiblmkgbkdmaaDoor.Pg
set_option linter.unusedVariables false
set_option linter.unusedSimpArgs false

theorem Fok.lt {F : Fi} {ps : List Nat} {es : List It} (h : Fok F ps es) : ∀ m ∈ ps, m < F.pg.length := by
  intro m hm
  cases h.tr with
  | no => simp at hm
  | yes _ _ _ ht => exact ht.lt m hm
/-- An older root is read as it was. -/
theorem old_trt {F : Fi} {pg' : List (List UInt8)} {ps : List Nat} {es : List It} (h : Fok F ps es) (hl : F.pg.length ≤ pg'.length) (hp : ∀ m, m < F.pg.length → (m : Int) ∉ F.free → pg'.getD m [] = F.pg.getD m []) : Trt pg' F.root ps es := by
  cases h.tr with
  | no hn => exact .no hn
  | yes _ _ h0 ht => exact .yes _ _ h0 (ht.mono fun m hm => ⟨by have := h.lt m hm; omega, hp m (h.lt m hm) (h.dj m hm)⟩)
theorem old_fok {F G : Fi} {ps : List Nat} {es : List It} (h : Fok F ps es) (hl : F.pg.length ≤ G.pg.length) (hp : ∀ m, m < F.pg.length → (m : Int) ∉ F.free → G.pg.getD m [] = F.pg.getD m []) (hs : Shp G) : Fok ⟨G.pg, F.root, []⟩ ps es :=
  ⟨⟨hs.n4, h.shp.r1, by have := h.shp.r2; show F.root < (G.pg.length : Int); omega, hs.p256, frok_nil _ _⟩, old_trt (F := F) h hl hp, h.nd, by simp, h.srt⟩
theorem old_law {F G : Fi} {ps : List Nat} {es : List It} {key d : List UInt8} {er : Int} (h : Fok F ps es) (hl : F.pg.length ≤ G.pg.length) (hp : ∀ m, m < F.pg.length → (m : Int) ∉ F.free → G.pg.getD m [] = F.pg.getD m []) (hs : Shp G) (hk : lenK key) (ho : OldO G F.root key d er) :
    (lkp es key = none ∧ d = [] ∧ er = 7) ∨ (lkp es key = some d ∧ er = 0) := by
  cases ho with
  | arg hn => exact absurd ⟨hk, h.shp.r1, by have := h.shp.r2; omega⟩ hn
  | get _ _ _ hg =>
    rcases get_law (old_fok h hl hp hs) hg with ⟨h1, _⟩ | ⟨_, h1, h2, h3⟩ | ⟨_, h1, h2⟩
    · exact absurd hk h1
    · exact .inl ⟨h1, h2, h3⟩
    · exact .inr ⟨h1, h2⟩
theorem awk_es1 : upd [] [97] [⟨[97], [120], 0⟩] = [⟨[97], [120], 0⟩] := rfl
theorem awk_es2 : upd [⟨[97], [120], 0⟩] [98] [⟨[98], [], 0⟩] = [⟨[97], [120], 0⟩, ⟨[98], [], 0⟩] := by
  have : cmpB [97] [98] = -1 := by decide
  unfold upd
  simp [this]
theorem awk_sum : crc [49, 50, 51, 52, 53, 54, 55, 56, 57] = 3421780262 := by decide +kernel
theorem awk_plain {F1 F2 : Fi} {e1 e2 e3 e4 : Int} {d3 d4 : List UInt8} (p1 : PutO ⟨[], -1, []⟩ [97] [120] F1 e1) (p2 : PutO F1 [98] [] F2 e2) (p3 : OldO F2 F1.root [97] d3 e3) (p4 : OldO F2 F1.root [98] d4 e4) :
    e1 = 0 ∧ e2 = 0 ∧ d3 = [120] ∧ e3 = 0 ∧ e4 = 7 := by
  obtain ⟨h1, ⟨qs, f1⟩, c1⟩ := put_law fok_new ⟨by decide, by decide, by decide⟩ (by rw [awk_es1]; simp) p1
  rw [awk_es1] at f1 c1
  have l1 := c1.up
  simp only [List.length_nil, List.length_cons] at l1
  obtain ⟨h2, ⟨qs2, f2⟩, c2⟩ := put_law f1 ⟨by decide, by decide, by decide⟩ (by rw [awk_es2]; simp; omega) p2
  rcases old_law f1 c2.le c2.pg f2.shp ⟨by decide, by decide⟩ p3 with ⟨a, _⟩ | ⟨a, b⟩
  · cases a
  · have a : some [120] = some d3 := a
    injection a with a
    rcases old_law f1 c2.le c2.pg f2.shp ⟨by decide, by decide⟩ p4 with ⟨_, _, c⟩ | ⟨c, _⟩
    · exact ⟨h1, h2, a.symm, b, c⟩
    · cases c
end Go.Proofs.YtphiblmkgbkdmaaDoor.Pg
