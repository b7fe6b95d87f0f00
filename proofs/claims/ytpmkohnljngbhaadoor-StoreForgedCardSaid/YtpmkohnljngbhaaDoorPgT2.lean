/- What the functions that read a file answer. -/
import Derived.Test.YtpmkohnljngbhaaDoorPgT
import Derived.Test.YtpmkohnljngbhaaDoorPgB1
namespace Go.Proofs.YtpmkohnljngbhaaDoor.Pg
set_option linter.unusedVariables false
set_option linter.unusedSimpArgs false
set_option maxRecDepth 1000000

def lkp (l : List It) (key : List UInt8) : Option (List UInt8) := (l.find? fun x => decide (x.k = key)).map It.v
def Vld (F : Fi) : Prop := Shp F ∧ ∃ s, Rok F.pg F.free F.root s
def lenK (key : List UInt8) : Prop := 1 ≤ key.length ∧ key.length ≤ 40
/-- What find answers: the value, and the error. -/
inductive FndO (F : Fi) (root : Int) (key : List UInt8) : List UInt8 → Int → Prop
  | bad (h : ∀ s, ¬ Rok F.pg F.free root s) : FndO F root key [] 16
  | none (s : St) (h : Rok F.pg F.free root s) (hn : lkp s.2 key = Option.none) : FndO F root key [] 7
  | some (s : St) (d : List UInt8) (h : Rok F.pg F.free root s) (hn : lkp s.2 key = Option.some d) : FndO F root key d 0
inductive GetO (F : Fi) (key : List UInt8) : List UInt8 → Int → Prop
  | arg (h : ¬ lenK key) : GetO F key [] 1
  | log (h : lenK key) (hs : ¬ Shp F) : GetO F key [] 16
  | get (h : lenK key) (hs : Shp F) (d : List UInt8) (er : Int) (hf : FndO F F.root key d er) : GetO F key d er
inductive OldO (F : Fi) (root : Int) (key : List UInt8) : List UInt8 → Int → Prop
  | arg (h : ¬ (lenK key ∧ -1 ≤ root ∧ root < F.pg.length)) : OldO F root key [] 1
  | get (h : lenK key ∧ -1 ≤ root ∧ root < F.pg.length) (d : List UInt8) (er : Int) (hf : GetO ⟨F.pg, root, []⟩ key d er) : OldO F root key d er
inductive ChkO (F : Fi) : Nat → Int → Prop
  | bad (h : ¬ Vld F) : ChkO F 0 16
  | ok (s : St) (hs : Shp F) (h : Rok F.pg F.free F.root s) : ChkO F s.1.length 0
def inR (a b : List UInt8) (x : It) : Bool := decide (0 ≤ cmpB x.k a) && (decide (b.length = 0) || decide (cmpB x.k b < 0))
def rng (l : List It) (a b : List UInt8) : List It := l.filter (inR a b)
inductive RngO (F : Fi) (a b : List UInt8) : List It → Int → Prop
  | bad (h : ¬ Vld F) : RngO F a b [] 16
  | full (s : St) (hs : Shp F) (h : Rok F.pg F.free F.root s) (hl : 1000 < (rng s.2 a b).length) : RngO F a b [] 5
  | ok (s : St) (hs : Shp F) (h : Rok F.pg F.free F.root s) (hl : (rng s.2 a b).length ≤ 1000) : RngO F a b (rng s.2 a b) 0
theorem Rok.uniq {pg : List (List UInt8)} {fr : List Int} {root : Int} {s t : St} (h : Rok pg fr root s) (k : Rok pg fr root t) : s = t := by
  cases h with
  | no h => cases k with
    | no _ => rfl
    | yes _ h2 => omega
  | yes _ h hv hs => cases k with
    | no h2 => omega
    | yes _ h2 hv2 hs2 => rw [hv] at hv2; injection hv2
theorem Rok.srt {pg : List (List UInt8)} {fr : List Int} {root : Int} {s : St} (h : Rok pg fr root s) : Srt s.2 := by
  cases h with
  | no h => exact List.Pairwise.nil
  | yes _ h hv hs => exact hs
theorem lkp_some {l : List It} (hs : Srt l) {i : Nat} {x : It} {key : List UInt8} (hx : l[i]? = some x) (hk : x.k = key) : lkp l key = some x.v := by
  unfold lkp
  have hm := List.mem_of_getElem? hx
  rcases hf : l.find? (fun x => decide (x.k = key)) with _ | y
  · exact absurd hk (by have := List.find?_eq_none.1 hf x hm; simpa using this)
  · have hy : y.k = key := by have := List.find?_some hf; simpa using this
    obtain ⟨j, hj⟩ := List.mem_iff_getElem?.1 (List.mem_of_find?_eq_some hf)
    have e : i = j := by
      rcases Nat.lt_trichotomy i j with h | h | h
      · have := hs.at_ hx hj h; rw [hk, hy, cmpB_self] at this; omega
      · exact h
      · have := hs.at_ hj hx h; rw [hk, hy, cmpB_self] at this; omega
    subst e
    rw [hx] at hj; injection hj with hj; subst hj
    rw [hf]; rfl
theorem lkp_none {l : List It} {key : List UInt8} (h : ∀ x ∈ l, x.k ≠ key) : lkp l key = none := by
  unfold lkp
  rw [List.find?_eq_none.2 fun x hx => by simpa using h x hx]
  rfl
theorem Plc.no {l : List It} {key : List UInt8} {i : Nat} (h : Plc l key i false) (hs : Srt l) : ∀ x ∈ l, x.k ≠ key := by
  intro x hx e
  obtain ⟨j, hj⟩ := List.mem_iff_getElem?.1 hx
  rcases Nat.lt_trichotomy j i with h1 | h1 | h1
  · have := h.lo j x h1 hj; rw [e, cmpB_self] at this; omega
  · subst h1
    have := h.fd.2 ⟨x, hj, e⟩; cases this
  · have hlt := (List.getElem?_eq_some_iff.1 hj).1
    have hy : l[i]? = some (l[i]'(by omega)) := List.getElem?_eq_getElem _
    have h2 := h.hi i _ (Nat.le_refl _) hy
    have h3 := hs.at_ hy hj h1
    rw [e] at h3
    omega
/-- A file that is shaped may be read. -/
theorem frok_at {n : Nat} {root : Int} {l : List Int} (h : FrOk n root l) : ∀ (i : Nat) (x : Int), l[i]? = some x → (i : Int) ≤ x := by
  intro i
  induction i with
  | zero => intro x hx; exact (h 0 x hx).1
  | succ i ih =>
    intro x hx
    have hlt := (List.getElem?_eq_some_iff.1 hx).1
    have hy : l[i]? = some (l[i]'(by omega)) := List.getElem?_eq_getElem _
    have := (h (i + 1) x hx).2.2.1 _ (by omega) (show l[i + 1 - 1]? = _ by rw [Nat.add_sub_cancel]; exact hy)
    have := ih _ hy
    omega
theorem frok_len {n : Nat} {root : Int} {l : List Int} (h : FrOk n root l) : l.length ≤ n := by
  rcases Nat.eq_zero_or_pos l.length with h0 | h0
  · omega
  · have hy : l[l.length - 1]? = some (l[l.length - 1]'(by omega)) := List.getElem?_eq_getElem _
    have := frok_at h _ _ hy
    have := (h _ _ hy).2.1
    omega
theorem frok_srt {n : Nat} {root : Int} {l : List Int} (h : FrOk n root l) : l.Pairwise (· < ·) := by
  refine List.pairwise_iff_getElem.2 fun i j hi hj hij => ?_
  obtain ⟨d, rfl⟩ : ∃ d, j = i + 1 + d := ⟨j - i - 1, by omega⟩
  induction d with
  | zero => exact (h (i + 1) _ (List.getElem?_eq_getElem hj)).2.2.1 _ (by omega) (show l[i + 1 + 0 - 1]? = _ by rw [Nat.add_zero, Nat.add_sub_cancel]; exact List.getElem?_eq_getElem hi)
  | succ d ih =>
    have h1 := ih (by omega) (by omega)
    have h2 := (h (i + 1 + d + 1) _ (List.getElem?_eq_getElem hj)).2.2.1 _ (by omega) (show l[i + 1 + d + 1 - 1]? = _ by rw [Nat.add_sub_cancel]; exact List.getElem?_eq_getElem (show i + 1 + d < l.length by omega))
    exact Int.lt_trans h1 h2
theorem frok_nil (n : Nat) (root : Int) : FrOk n root [] := fun i x h => by simp at h
end Go.Proofs.YtpmkohnljngbhaaDoor.Pg
