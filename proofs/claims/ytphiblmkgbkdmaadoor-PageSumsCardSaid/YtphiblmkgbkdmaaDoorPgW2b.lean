/- take, with what it leaves. -/
import Derived.Test.YtphiblmkgbkdmaaDoorPgW2
import Derived.Test.YtphiblmkgbkdmaaDoorPgBox
namespace Go.Proofs.YtphiblmkgbkdmaaDoor.Pg
set_option linter.unusedVariables false
set_option linter.unusedSimpArgs false
open Go.RowKit Wl

theorem take_nil {g o m d b k : Nat} {kI : Int} (w : World) (hkI : kI = (k : Int)) (H : Hid (Bx w b [.slice (some ⟨g, o, none⟩) m d])) (hk : m < k) (h2 : k ≤ 256) :
    Calls Tryd.prog 81 #[.int .i64 kI, .pointer (some ⟨b, 0, none⟩)] w fun e w' => e = .returned (.slice none 0 0) ∧ Hid (Kp w w' (· = b)) ∧ w'.heap.size = w.heap.size ∧ Hid (Bx w' b [.slice (some ⟨g, o, none⟩) m d]) := by
  subst hkI
  refine (take_no w (Lib.hid (H.out.at_ 0 (by simp))) hk h2).mono ?_
  rintro e w' ⟨rfl, rfl⟩
  exact ⟨rfl, Lib.hid (Kp.refl _ _), rfl, H⟩
theorem take_got {g o m d b k : Nat} {kI : Int} {r : List UInt8} (w : World) (hkI : kI = (k : Int)) (H : Hid (Bx w b [.slice (some ⟨g, o, none⟩) m d])) (hr : Hid (Rd w 1 (some ⟨g, o, none⟩) m d (bv r))) (hk : k ≤ m) (h2 : m ≤ 256) (hbg : b ≠ g) :
    Calls Tryd.prog 81 #[.int .i64 kI, .pointer (some ⟨b, 0, none⟩)] w fun e w' => ∃ o', e = .returned (.slice (some ⟨g, o, none⟩) k d) ∧ Hid (Kp w w' (· = b)) ∧ w'.heap.size = w.heap.size ∧
      Hid (Bx w' b [.slice (some ⟨g, o', none⟩) (m - k) (d - k)]) ∧ Hid (Rd w' 1 (some ⟨g, o', none⟩) (m - k) (d - k) (bv (r.drop k))) ∧ Hid (Rd w' 1 (some ⟨g, o, none⟩) k d (bv (r.take k))) := by
  subst hkI
  refine (take_yes w (Lib.hid (H.out.at_ 0 (by simp))) (Lib.hid (H.out.fz 0 (by simp))) hr hk h2 hbg).mono ?_
  rintro e w' ⟨o', rfl, rfl, hR⟩

  have hp : ∀ {n : Nat}, 0 < n → blk (some ⟨g, o, none⟩) ≠ some (⟨b, 0, none⟩ : Addr).block := fun _ e => by simp [blk] at e; exact hbg e.symm
  exact ⟨o', rfl, Lib.hid (Kp.of_set w ⟨b, 0, none⟩ _ rfl), by simp, Lib.hid (H.out.set (j := 0) (by simp) _), Lib.hid (hR.out.set ⟨b, 0, none⟩ _ fun _ e => by simp [blk] at e; exact hbg e.symm),
    Lib.hid ((Rd.pre hr.out hk).set ⟨b, 0, none⟩ _ hp)⟩
end Go.Proofs.YtphiblmkgbkdmaaDoor.Pg
