/- Plain facts about the transactions of a log; the entries of the empty file. -/
import Derived.Test.YtpmkohnljngbhaaDoorSrW6
import Derived.Test.YtpmkohnljngbhaaDoorSrF2
namespace Go.Proofs.YtpmkohnljngbhaaDoor.Sr
set_option linter.unusedVariables false
set_option linter.unusedSimpArgs false
set_option maxRecDepth 1000000
open Go.RowKit Wl Pg

theorem tfold_okT {tx : Int} (l : List Rec) : ∀ {L : List (List Ch)} {op : List Ch} {t : Int}, tfold tx l = some (L, op, t) → (∀ cs ∈ L, okT cs) ∧ okT op := by
  refine snoc_ind (P := fun l => ∀ {L : List (List Ch)} {op : List Ch} {t : Int}, tfold tx l = some (L, op, t) → (∀ cs ∈ L, okT cs) ∧ okT op) ?_ ?_ l
  · intro L op t h
    simp only [tfold, List.foldl_nil, Option.some.injEq, Prod.mk.injEq] at h
    obtain ⟨rfl, rfl, _⟩ := h
    exact ⟨by simp, fun c hc => by cases hc⟩
  · intro l r ih L op t h
    rw [tfold_snoc] at h
    rcases hf : tfold tx l with _ | ⟨L0, o0, t0⟩
    · rw [hf] at h; cases h
    · have := ih hf
      rw [hf] at h
      unfold tstp at h
      simp only [Option.bind_some] at h
      split at h
      · cases h
      · split at h
        · simp only [Option.some.injEq, Prod.mk.injEq] at h
          obtain ⟨rfl, rfl, _⟩ := h
          refine ⟨fun cs hcs => ?_, fun c hc => by cases hc⟩
          rcases List.mem_append.1 hcs with h | h
          · exact this.1 cs h
          · obtain rfl : cs = o0 := by simpa using h
            exact this.2
        · rcases hc : chR r with _ | c
          · rw [hc] at h; cases h
          · rw [hc] at h
            simp only [Option.map_some, Option.some.injEq, Prod.mk.injEq] at h
            obtain ⟨rfl, rfl, _⟩ := h
            refine ⟨this.1, fun x hx => ?_⟩
            rcases List.mem_append.1 hx with h | h
            · exact this.2 x h
            · obtain rfl : x = c := by simpa using h
              exact chR_ok hc
theorem trx_okT {log : List UInt8} {last : Int} {L : List (List Ch)} (h : trx log last = some L) : ∀ cs ∈ L, okT cs := by
  obtain ⟨_, _, _, op, tx, hf⟩ := trx_ok h
  exact (tfold_okT _ hf).1
theorem flat_ok {log : List UInt8} {last : Int} {L : List (List Ch)} {l : List CV} (h : trx log last = some L) (hl : l.map CV.ch = L.flatten) : ∀ x ∈ l, x.ch.ok = true := by
  intro x hx
  have : x.ch ∈ L.flatten := by rw [← hl]; exact List.mem_map_of_mem hx
  obtain ⟨cs, hcs, hx⟩ := List.mem_flatten.1 this
  exact trx_okT h cs hcs _ hx
theorem lenK_keyN {key : List UInt8} {kn : Nat} (h : kn = key.length) : lenK key ↔ keyN kn = true := by
  unfold lenK keyN; rw [decide_eq_true_iff, h]
theorem rd_bytes {w : World} {A : Option Addr} {n c : Nat} {l : List UInt8} (h : Rd w 1 A n c (bv l)) : n = l.length := by have := h.len; rw [bv_len] at this; omega
/-- The empty file. -/
def nil0 : FV := ⟨none, 0, [], -1, none, 0, []⟩
theorem fent0 : Fent nil0.f (fun _ => none) := by
  refine ⟨⟨by simp [nil0, FV.f], by simp [nil0, FV.f], by simp [nil0, FV.f], by simp [nil0, FV.f], ?_⟩, ([], []), .no (by simp [nil0, FV.f]), ?_⟩
  · intro i x h; simp [nil0, FV.f] at h
  · funext key; rfl
theorem fl0 (w : World) : Fl w nil0 := ⟨⟨Rd.nil_ _ _, by simp [nil0]⟩, Rd.nil_ _ _⟩
end Go.Proofs.YtpmkohnljngbhaaDoor.Sr
