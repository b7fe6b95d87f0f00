/- The tree as the program reads it. -/
import Derived.Test.YtpmkohnljngbhaaDoorPgB1
set_option linter.all false
namespace Go.Proofs.YtpmkohnljngbhaaDoor.Pg
set_option linter.unusedVariables false
set_option linter.unusedSimpArgs false
set_option maxRecDepth 1000000

/-- The pages seen, and the entries. -/
abbrev St := List Nat × List It
def visL (v : Nat → St → Option St) : List It → St → Option St
  | [], s => some s
  | x :: l, s => match v x.ch s with
    | none => none
    | some s' => if (s'.2[s.2.length]?).map It.k = some x.k then visL v l s' else none
def vis (pg : List (List UInt8)) (fr : List Int) : Nat → Nat → St → Option St
  | 0, _, _ => none
  | k + 1, n, s => if n < pg.length ∧ n ∉ s.1 ∧ (n : Int) ∉ fr then
      match dec (pg.getD n []) with
      | none => none
      | some (kd, l) => if kd = 1 then some (n :: s.1, s.2 ++ l) else visL (vis pg fr k) l (n :: s.1, s.2)
    else none
/-- What is read at a root. -/
inductive Rok (pg : List (List UInt8)) (fr : List Int) (root : Int) : St → Prop
  | no (h : root < 0) : Rok pg fr root ([], [])
  | yes (s : St) (h : 0 ≤ root) (hv : vis pg fr (pg.length + 1) root.toNat ([], []) = some s) (hs : Srt s.2) : Rok pg fr root s

theorem visL_snoc {v : Nat → St → Option St} {l : List It} {x : It} {s s' s2 : St} (h : visL v l s = some s') (hv : v x.ch s' = some s2) (hk : (s2.2[s'.2.length]?).map It.k = some x.k) : visL v (l ++ [x]) s = some s2 := by
  induction l generalizing s with
  | nil =>
    have : s = s' := by simpa [visL] using h
    subst this
    simp [visL, hv, hk]
  | cons y l ih =>
    simp only [visL, List.cons_append] at h ⊢
    rcases hy : v y.ch s with _ | t
    · rw [hy] at h; cases h
    · rw [hy] at h
      dsimp only at h ⊢
      split at h
      · rename_i hk'; rw [if_pos hk']; exact ih h
      · cases h
theorem visL_none {v : Nat → St → Option St} {l m : List It} {x : It} {s s' : St} (h : visL v l s = some s') (hv : ∀ s2, v x.ch s' = some s2 → (s2.2[s'.2.length]?).map It.k ≠ some x.k) : visL v (l ++ x :: m) s = none := by
  induction l generalizing s with
  | nil =>
    have : s = s' := by simpa [visL] using h
    subst this
    simp only [visL, List.nil_append]
    rcases hy : v x.ch s with _ | t
    · rfl
    · dsimp only; rw [if_neg (hv t hy)]
  | cons y l ih =>
    simp only [visL, List.cons_append] at h ⊢
    rcases hy : v y.ch s with _ | t
    · rfl
    · rw [hy] at h
      dsimp only at h ⊢
      split at h
      · rename_i hk'; rw [if_pos hk']; exact ih h
      · cases h
/-- What a visit adds. -/
structure Grw (s s' : St) (N : Nat) : Prop where
  nd : s'.1.Nodup
  lt : ∀ m ∈ s'.1, m < N
  sz : s.1.length ≤ s'.1.length
  lim : s'.2.length + 84 * s.1.length ≤ s.2.length + 84 * s'.1.length
  pre : s.2 <+: s'.2
  ok : ∀ x ∈ s'.2, x ∈ s.2 ∨ ItOk 1 x
theorem visL_grw {v : Nat → St → Option St} {N : Nat} (hv : ∀ n s s', s.1.Nodup → (∀ m ∈ s.1, m < N) → v n s = some s' → Grw s s' N) {l : List It} : ∀ {s s' : St}, s.1.Nodup → (∀ m ∈ s.1, m < N) → visL v l s = some s' → Grw s s' N := by
  induction l with
  | nil =>
    intro s s' h1 h2 h
    have : s = s' := by simpa [visL] using h
    subst this
    exact ⟨h1, h2, Nat.le_refl _, by omega, List.prefix_refl _, fun x hx => .inl hx⟩
  | cons x l ih =>
    intro s s' h1 h2 h
    simp only [visL] at h
    rcases hy : v x.ch s with _ | t
    · rw [hy] at h; cases h
    · rw [hy] at h
      dsimp only at h
      split at h
      · have g := hv _ _ _ h1 h2 hy
        have g2 := ih g.nd g.lt h
        exact ⟨g2.nd, g2.lt, by have := g.sz; have := g2.sz; omega, by have := g.lim; have := g2.lim; omega, g.pre.trans g2.pre, fun x hx => (g2.ok x hx).elim (fun h => g.ok x h) .inr⟩
      · cases h
theorem vis_grw {pg : List (List UInt8)} {fr : List Int} (hp : ∀ p ∈ pg, p.length = 256) : ∀ {k n : Nat} {s s' : St}, s.1.Nodup → (∀ m ∈ s.1, m < pg.length) → vis pg fr k n s = some s' → Grw s s' pg.length ∧ s.1.length < s'.1.length
  | 0, n, s, s', _, _, h => by cases h
  | k + 1, n, s, s', h1, h2, h => by
    unfold vis at h
    split at h
    · rename_i hc
      have hg : pg.getD n [] = pg[n]'hc.1 := by rw [List.getD_eq_getElem?_getD, List.getElem?_eq_getElem hc.1]; rfl
      rcases hd : dec (pg.getD n []) with _ | ⟨kd, l⟩
      · rw [hd] at h; cases h
      · rw [hd] at h
        dsimp only at h
        have ok := dec_ok (hp _ (hg ▸ List.getElem_mem hc.1)) hd
        have hlen := tot_ge ok.it
        have htt := ok.tt
        have n1 : (n :: s.1).Nodup := List.nodup_cons.2 ⟨hc.2.1, h1⟩
        have n2 : ∀ m ∈ n :: s.1, m < pg.length := by
          intro m hm
          rcases List.mem_cons.1 hm with rfl | hm
          · exact hc.1
          · exact h2 m hm
        split at h
        · rename_i hk1
          injection h with h; subst h
          subst hk1
          exact ⟨⟨n1, n2, by simp, by simp; omega, List.prefix_append _ _, fun x hx => (List.mem_append.1 hx).imp id (ok.it x)⟩, by simp⟩
        · have g := visL_grw (N := pg.length) (fun n s s' a b c => (vis_grw hp a b c).1) (s := (n :: s.1, s.2)) n1 n2 h
          have q1 := g.sz
          have q2 := g.lim
          simp only [List.length_cons] at q1 q2
          exact ⟨⟨g.nd, g.lt, by omega, by omega, g.pre, g.ok⟩, by omega⟩
    · cases h
theorem visL_more {v : Nat → St → Option St} (hv : ∀ n s s', v n s = some s' → s.2.length < s'.2.length) {l : List It} : ∀ {s s' : St}, visL v l s = some s' → s.2.length + l.length ≤ s'.2.length := by
  induction l with
  | nil =>
    intro s s' h
    have : s = s' := by simpa [visL] using h
    subst this
    simp
  | cons x l ih =>
    intro s s' h
    simp only [visL] at h
    rcases hy : v x.ch s with _ | t
    · rw [hy] at h; cases h
    · rw [hy] at h
      dsimp only at h
      split at h
      · have := hv _ _ _ hy
        have := ih h
        simp; omega
      · cases h
theorem dec_pos {p : List UInt8} {kd : Nat} {l : List It} (h : dec p = some (kd, l)) : 1 ≤ kd ∧ kd ≤ l.length := by
  unfold dec at h
  split at h
  · rename_i hc
    rcases hd : dn (p.getD 4 0).toNat (p.getD 5 0).toNat (p.drop 6) with _ | ⟨m, r⟩
    · rw [hd] at h; cases h
    · rw [hd] at h
      dsimp only at h
      split at h
      · injection h with h; injection h with h1 h2
        subst h1 h2
        have := (dn_ok hd).2.2
        omega
      · cases h
  · cases h
theorem vis_more {pg : List (List UInt8)} {fr : List Int} : ∀ {k n : Nat} {s s' : St}, vis pg fr k n s = some s' → s.2.length < s'.2.length
  | 0, n, s, s', h => by cases h
  | k + 1, n, s, s', h => by
    unfold vis at h
    split at h
    · rcases hd : dec (pg.getD n []) with _ | ⟨kd, l⟩
      · rw [hd] at h; cases h
      · rw [hd] at h
        dsimp only at h
        have := dec_pos hd
        split at h
        · injection h with h; subst h
          simp; omega
        · have := visL_more (fun n s s' h => vis_more h) h
          simp only at this
          omega
    · cases h
/-- So many different numbers below N are at most N. -/
theorem nodup_le {S : List Nat} {N : Nat} (h : S.Nodup) (hl : ∀ m ∈ S, m < N) : S.length ≤ N := by
  induction N generalizing S with
  | zero =>
    cases S with
    | nil => simp
    | cons m S => have := hl m (by simp); omega
  | succ N ih =>
    have h1 := ih (S := S.erase N) (h.erase _) fun m hm => by
      obtain ⟨h2, h3⟩ := (List.Nodup.mem_erase_iff h).1 hm
      have := hl m h3; omega
    have h2 := List.length_erase (a := N) (l := S)
    split at h2 <;> omega
structure RokI (N : Nat) (s : St) : Prop where
  ok : ∀ x ∈ s.2, ItOk 1 x
  lim : s.2.length ≤ 84 * s.1.length
  nd : s.1.Nodup
  lt : ∀ m ∈ s.1, m < N
  sz : s.1.length ≤ N
theorem Rok.items {pg : List (List UInt8)} {fr : List Int} {root : Int} {s : St} (h : Rok pg fr root s) (hp : ∀ p ∈ pg, p.length = 256) : RokI pg.length s := by
  cases h with
  | no h => exact ⟨by simp, by simp, List.nodup_nil, by simp, by simp⟩
  | yes _ h hv hs =>
    have g := (vis_grw hp (s := ([], [])) List.nodup_nil (by simp) hv).1
    exact ⟨fun x hx => (g.ok x hx).elim (fun h => by simp at h) id, by have := g.lim; simpa using this, g.nd, g.lt, nodup_le g.nd g.lt⟩
end Go.Proofs.YtpmkohnljngbhaaDoor.Pg
/- What the functions that read a file answer. -/
namespace Go.Proofs.YtpmkohnljngbhaaDoor.Pg
set_option maxRecDepth 1000000

def lkp (l : List It) (key : List UInt8) : Option (List UInt8) := (l.find? fun x => decide (x.k = key)).map It.v
def Vld (F : Fi) : Prop := Shp F ∧ ∃ s, Rok F.pg F.free F.root s
def lenK (key : List UInt8) : Prop := 1 ≤ key.length ∧ key.length ≤ 40
/-- What find answers: the value, and the error. -/
inductive FndO (F : Fi) (root : Int) (key : List UInt8) : List UInt8 → Int → Prop
  | bad (h : ∀ s, ¬ Rok F.pg F.free root s) : FndO F root key [] 16
  | none (s : St) (h : Rok F.pg F.free root s) (hn : lkp s.2 key = Option.none) : FndO F root key [] 7
  | some (s : St) (d : List UInt8) (h : Rok F.pg F.free root s) (hn : lkp s.2 key = Option.some d) : FndO F root key d 0
inductive GetO (F : Fi) (key : List UInt8) : List UInt8 → Int → Prop
  | arg (h : ¬ lenK key) : GetO F key [] 1
  | log (h : lenK key) (hs : ¬ Shp F) : GetO F key [] 16
  | get (h : lenK key) (hs : Shp F) (d : List UInt8) (er : Int) (hf : FndO F F.root key d er) : GetO F key d er
inductive OldO (F : Fi) (root : Int) (key : List UInt8) : List UInt8 → Int → Prop
  | arg (h : ¬ (lenK key ∧ -1 ≤ root ∧ root < F.pg.length)) : OldO F root key [] 1
  | get (h : lenK key ∧ -1 ≤ root ∧ root < F.pg.length) (d : List UInt8) (er : Int) (hf : GetO ⟨F.pg, root, []⟩ key d er) : OldO F root key d er
inductive ChkO (F : Fi) : Nat → Int → Prop
  | bad (h : ¬ Vld F) : ChkO F 0 16
  | ok (s : St) (hs : Shp F) (h : Rok F.pg F.free F.root s) : ChkO F s.1.length 0
def inR (a b : List UInt8) (x : It) : Bool := decide (0 ≤ cmpB x.k a) && (decide (b.length = 0) || decide (cmpB x.k b < 0))
def rng (l : List It) (a b : List UInt8) : List It := l.filter (inR a b)
inductive RngO (F : Fi) (a b : List UInt8) : List It → Int → Prop
  | bad (h : ¬ Vld F) : RngO F a b [] 16
  | full (s : St) (hs : Shp F) (h : Rok F.pg F.free F.root s) (hl : 1000 < (rng s.2 a b).length) : RngO F a b [] 5
  | ok (s : St) (hs : Shp F) (h : Rok F.pg F.free F.root s) (hl : (rng s.2 a b).length ≤ 1000) : RngO F a b (rng s.2 a b) 0
theorem Rok.uniq {pg : List (List UInt8)} {fr : List Int} {root : Int} {s t : St} (h : Rok pg fr root s) (k : Rok pg fr root t) : s = t := by
  cases h with
  | no h => cases k with
    | no _ => rfl
    | yes _ h2 => omega
  | yes _ h hv hs => cases k with
    | no h2 => omega
    | yes _ h2 hv2 hs2 => rw [hv] at hv2; injection hv2
theorem Rok.srt {pg : List (List UInt8)} {fr : List Int} {root : Int} {s : St} (h : Rok pg fr root s) : Srt s.2 := by
  cases h with
  | no h => exact List.Pairwise.nil
  | yes _ h hv hs => exact hs
theorem lkp_some {l : List It} (hs : Srt l) {i : Nat} {x : It} {key : List UInt8} (hx : l[i]? = some x) (hk : x.k = key) : lkp l key = some x.v := by
  unfold lkp
  have hm := List.mem_of_getElem? hx
  rcases hf : l.find? (fun x => decide (x.k = key)) with _ | y
  · exact absurd hk (by have := List.find?_eq_none.1 hf x hm; simpa using this)
  · have hy : y.k = key := by have := List.find?_some hf; simpa using this
    obtain ⟨j, hj⟩ := List.mem_iff_getElem?.1 (List.mem_of_find?_eq_some hf)
    have e : i = j := by
      rcases Nat.lt_trichotomy i j with h | h | h
      · have := hs.at_ hx hj h; rw [hk, hy, cmpB_self] at this; omega
      · exact h
      · have := hs.at_ hj hx h; rw [hk, hy, cmpB_self] at this; omega
    subst e
    rw [hx] at hj; injection hj with hj; subst hj
    rw [hf]; rfl
theorem lkp_none {l : List It} {key : List UInt8} (h : ∀ x ∈ l, x.k ≠ key) : lkp l key = none := by
  unfold lkp
  rw [List.find?_eq_none.2 fun x hx => by simpa using h x hx]
  rfl
theorem Plc.no {l : List It} {key : List UInt8} {i : Nat} (h : Plc l key i false) (hs : Srt l) : ∀ x ∈ l, x.k ≠ key := by
  intro x hx e
  obtain ⟨j, hj⟩ := List.mem_iff_getElem?.1 hx
  rcases Nat.lt_trichotomy j i with h1 | h1 | h1
  · have := h.lo j x h1 hj; rw [e, cmpB_self] at this; omega
  · subst h1
    have := h.fd.2 ⟨x, hj, e⟩; cases this
  · have hlt := (List.getElem?_eq_some_iff.1 hj).1
    have hy : l[i]? = some (l[i]'(by omega)) := List.getElem?_eq_getElem _
    have h2 := h.hi i _ (Nat.le_refl _) hy
    have h3 := hs.at_ hy hj h1
    rw [e] at h3
    omega
/-- A file that is shaped may be read. -/
theorem frok_at {n : Nat} {root : Int} {l : List Int} (h : FrOk n root l) : ∀ (i : Nat) (x : Int), l[i]? = some x → (i : Int) ≤ x := by
  intro i
  induction i with
  | zero => intro x hx; exact (h 0 x hx).1
  | succ i ih =>
    intro x hx
    have hlt := (List.getElem?_eq_some_iff.1 hx).1
    have hy : l[i]? = some (l[i]'(by omega)) := List.getElem?_eq_getElem _
    have := (h (i + 1) x hx).2.2.1 _ (by omega) (show l[i + 1 - 1]? = _ by rw [Nat.add_sub_cancel]; exact hy)
    have := ih _ hy
    omega
theorem frok_len {n : Nat} {root : Int} {l : List Int} (h : FrOk n root l) : l.length ≤ n := by
  rcases Nat.eq_zero_or_pos l.length with h0 | h0
  · omega
  · have hy : l[l.length - 1]? = some (l[l.length - 1]'(by omega)) := List.getElem?_eq_getElem _
    have := frok_at h _ _ hy
    have := (h _ _ hy).2.1
    omega
theorem frok_srt {n : Nat} {root : Int} {l : List Int} (h : FrOk n root l) : l.Pairwise (· < ·) := by
  refine List.pairwise_iff_getElem.2 fun i j hi hj hij => ?_
  obtain ⟨d, rfl⟩ : ∃ d, j = i + 1 + d := ⟨j - i - 1, by omega⟩
  induction d with
  | zero => exact (h (i + 1) _ (List.getElem?_eq_getElem hj)).2.2.1 _ (by omega) (show l[i + 1 + 0 - 1]? = _ by rw [Nat.add_zero, Nat.add_sub_cancel]; exact List.getElem?_eq_getElem hi)
  | succ d ih =>
    have h1 := ih (by omega) (by omega)
    have h2 := (h (i + 1 + d + 1) _ (List.getElem?_eq_getElem hj)).2.2.1 _ (by omega) (show l[i + 1 + d + 1 - 1]? = _ by rw [Nat.add_sub_cancel]; exact List.getElem?_eq_getElem (show i + 1 + d < l.length by omega))
    exact Int.lt_trans h1 h2
theorem frok_nil (n : Nat) (root : Int) : FrOk n root [] := fun i x h => by simp at h
end Go.Proofs.YtpmkohnljngbhaaDoor.Pg
/- Blocks of cells of a type. -/
namespace Go.Proofs.YtpmkohnljngbhaaDoor.Pg
set_option maxRecDepth 1000000
open Go.RowKit Wl

/-- A block of cells of a type. -/
def Ty (W : World) (p T : Nat) : Prop := ∃ cs, W.heap[p]? = some (.cells cs T (0, 0))
section
variable {W W' : World} {p T : Nat} {X : Nat → Prop}
theorem Ty.lt (h : Ty W p T) : p < W.heap.size := by obtain ⟨cs, e⟩ := h; exact (Array.getElem?_eq_some_iff.1 e).1
theorem Ty.kp (h : Ty W p T) (k : Kp W W' X) (hX : ¬ X p) : Ty W' p T := by obtain ⟨cs, e⟩ := h; exact ⟨cs, (k.block p (Array.getElem?_eq_some_iff.1 e).1 hX).trans e⟩
theorem Ty.step (h : Ty W p T) (k : Below W.heap.size W W') : Ty W' p T := h.kp (Kp.of_below k fun _ => False) fun e => e
theorem Ty.set (h : Ty W p T) (b o : Nat) (v : Value) : Ty (W.setCell ⟨b, o, none⟩ v) p T := by
  obtain ⟨cs, e⟩ := h
  by_cases hp : b = p
  · subst hp
    refine ⟨cs.setIfInBounds o v, ?_⟩
    unfold World.setCell
    rw [Array.getElem?_modify]
    simp only [if_pos, e, Option.map_some, Option.isSome_none, Bool.false_eq_true, if_false]
  · exact ⟨cs, (Below.heap_setCell W ⟨b, o, none⟩ v p fun e => hp e.symm).trans e⟩
theorem Ty.new (w : World) (cs : Array Value) (T : TypeId) : Ty (w.alloc (.cells cs T)) w.heap.size T := ⟨cs, by rw [heap_alloc_new]⟩
end
end Go.Proofs.YtpmkohnljngbhaaDoor.Pg
/- Writing pages, plainly. -/
namespace Go.Proofs.YtpmkohnljngbhaaDoor.Pg
set_option maxRecDepth 1000000

/-- What a writer holds. -/
structure Ws where
  pg : List (List UInt8)
  fr : List Nat
  full : Bool
def hkey : List It → List UInt8
  | [] => []
  | x :: _ => x.k
def putP (kind : Nat) (l : List It) (s : Ws) : It × Ws :=
  match s.fr with
  | x :: fr => (⟨hkey l, [], x⟩, ⟨s.pg.set x (enc kind l), fr, s.full⟩)
  | [] => if s.pg.length = 4096 then (⟨hkey l, [], 0⟩, ⟨s.pg, [], true⟩) else (⟨hkey l, [], s.pg.length⟩, ⟨s.pg ++ [enc kind l], [], s.full⟩)
def cutN (kind half : Nat) : List It → Nat → Nat → Nat
  | [], k, _ => k
  | [_], k, _ => k
  | x :: y :: l, k, n => if k = 0 ∨ n + isz kind x ≤ half then cutN kind half (y :: l) (k + 1) (n + isz kind x) else k
def cut (kind : Nat) (l : List It) : Nat := cutN kind (tot kind l / 2) l 0 0
def sto (kind : Nat) : Nat → List It → Ws → List It × Ws
  | 0, _, s => ([], s)
  | f + 1, l, s =>
    if l = [] then ([], s)
    else if tot kind l ≤ 250 then
      if kind = 2 ∧ l.length = 1 then (l, s) else ([(putP kind l s).1], (putP kind l s).2)
    else ((sto kind f (l.take (cut kind l)) s).1 ++ (sto kind f (l.drop (cut kind l)) (sto kind f (l.take (cut kind l)) s).2).1, (sto kind f (l.drop (cut kind l)) (sto kind f (l.take (cut kind l)) s).2).2)
/-- The loop of cut, from item k on. -/
theorem cutN_ge (kind half : Nat) : ∀ (l : List It) (k n : Nat), k ≤ cutN kind half l k n
  | [], k, n => Nat.le_refl _
  | [_], k, n => Nat.le_refl _
  | x :: y :: l, k, n => by
    unfold cutN
    split
    · have := cutN_ge kind half (y :: l) (k + 1) (n + isz kind x); omega
    · exact Nat.le_refl _
theorem cutN_le (kind half : Nat) : ∀ (l : List It) (k n : Nat), cutN kind half l k n ≤ k + (l.length - 1)
  | [], k, n => by simp [cutN]
  | [_], k, n => by simp [cutN]
  | x :: y :: l, k, n => by
    unfold cutN
    split
    · have := cutN_le kind half (y :: l) (k + 1) (n + isz kind x); simp only [List.length_cons] at this ⊢; omega
    · omega
theorem cut_pos {kind : Nat} {l : List It} (h : 2 ≤ l.length) : 1 ≤ cut kind l := by
  match l, h with
  | x :: y :: l, _ =>
    unfold cut cutN
    rw [if_pos (.inl rfl)]
    exact cutN_ge _ _ _ _ _
theorem cut_lt {kind : Nat} {l : List It} (h : 2 ≤ l.length) : cut kind l < l.length := by
  have := cutN_le kind (tot kind l / 2) l 0 0
  unfold cut; omega
/-- The sizes ahead of the cut: at most the half, or one item. -/
theorem cutN_half (kind half : Nat) : ∀ (l : List It) (k n : Nat), (k = 0 → n = 0) → cutN kind half l k n ≤ k ∨ (k = 0 ∧ cutN kind half l k n = 1) ∨ n + tot kind (l.take (cutN kind half l k n - k)) ≤ half
  | [], k, n, _ => .inl (Nat.le_refl _)
  | [_], k, n, _ => .inl (Nat.le_refl _)
  | x :: y :: l, k, n, hk => by
    unfold cutN
    split
    · rename_i h
      have ge := cutN_ge kind half (y :: l) (k + 1) (n + isz kind x)
      rcases cutN_half kind half (y :: l) (k + 1) (n + isz kind x) (by omega) with h1 | h1 | h1
      · have e : cutN kind half (y :: l) (k + 1) (n + isz kind x) = k + 1 := by omega
        rw [e]
        rcases h with h | h
        · exact .inr (.inl ⟨h, by omega⟩)
        · right; right
          rw [show k + 1 - k = 1 by omega]
          simp [tot]; omega
      · omega
      · right; right
        obtain ⟨d, hd⟩ : ∃ d, cutN kind half (y :: l) (k + 1) (n + isz kind x) = k + 1 + d := ⟨cutN kind half (y :: l) (k + 1) (n + isz kind x) - (k + 1), by omega⟩
        rw [hd] at h1 ⊢
        rw [show k + 1 + d - (k + 1) = d by omega] at h1
        rw [show k + 1 + d - k = d + 1 by omega, List.take_succ_cons]
        simp only [tot]; omega
    · exact .inl (Nat.le_refl _)
/-- Where the loop stops ahead of the last item, the next item does not fit. -/
theorem cutN_next (kind half : Nat) : ∀ (l : List It) (k n : Nat) (x : It), l[cutN kind half l k n - k]? = some x → cutN kind half l k n + 1 < k + l.length → half < n + tot kind (l.take (cutN kind half l k n - k)) + isz kind x
  | [], k, n, x, h, _ => by simp [cutN] at h
  | [_], k, n, x, _, h => by simp [cutN] at h
  | a :: b :: l, k, n, x, h, hlt => by
    unfold cutN at h hlt ⊢
    split
    · rename_i hc
      rw [if_pos hc] at h hlt
      have ge := cutN_ge kind half (b :: l) (k + 1) (n + isz kind a)
      obtain ⟨d, hd⟩ : ∃ d, cutN kind half (b :: l) (k + 1) (n + isz kind a) = k + 1 + d := ⟨cutN kind half (b :: l) (k + 1) (n + isz kind a) - (k + 1), by omega⟩
      have ih := cutN_next kind half (b :: l) (k + 1) (n + isz kind a) x
      rw [hd] at h hlt ih ⊢
      rw [show k + 1 + d - (k + 1) = d by omega] at ih
      rw [show k + 1 + d - k = d + 1 by omega] at h ⊢
      rw [List.take_succ_cons]
      have := ih (by simpa using h) (by simp only [List.length_cons] at hlt ⊢; omega)
      simp only [tot]; omega
    · rename_i hc
      rw [if_neg hc] at h
      rw [Nat.sub_self] at h ⊢
      simp only [List.take_zero, tot, Nat.add_zero]
      obtain rfl : a = x := by simpa using h
      omega
theorem tot_take_drop (kind : Nat) (l : List It) (k : Nat) : tot kind (l.take k) + tot kind (l.drop k) = tot kind l := by
  rw [← tot_app, List.take_append_drop]
theorem tot_one (kind : Nat) (x : It) : tot kind [x] = isz kind x := by simp [tot]
theorem tot_at {kind : Nat} {l : List It} {k : Nat} {x : It} (h : l[k]? = some x) : tot kind (l.take (k + 1)) = tot kind (l.take k) + isz kind x := by
  rw [List.take_add_one, h, tot_app]; simp [tot]
/-- Forks are cut behind the second child at least. -/
theorem cut_two {l : List It} (h : ∀ x ∈ l, ItOk 2 x) (ht : 250 < tot 2 l) : 2 ≤ cut 2 l := by
  have hsz : ∀ x ∈ l, isz 2 x ≤ 43 := fun x hx => isz_le2 (h x hx) (by decide)
  have h6 : ∀ (m : List It), (∀ x ∈ m, isz 2 x ≤ 43) → tot 2 m ≤ 43 * m.length := by
    intro m
    induction m with
    | nil => intro _; simp [tot]
    | cons x m ih => intro hm; have := hm x (by simp); have := ih fun y hy => hm y (by simp [hy]); simp [tot]; omega
  have hl := h6 l hsz
  have h1 : 1 ≤ cut 2 l := cut_pos (by omega)
  rcases Nat.lt_or_ge (cut 2 l) 2 with h2 | h2
  · have e : cut 2 l = 1 := by omega
    have hx : l[1]? = some (l[1]'(by omega)) := List.getElem?_eq_getElem _
    have h0 : l[0]? = some (l[0]'(by omega)) := List.getElem?_eq_getElem _
    unfold cut at e
    have h3 := cutN_next 2 (tot 2 l / 2) l 0 0 (l[1]'(by omega)) (by rw [e]; exact hx) (by rw [e]; omega)
    rw [e] at h3
    have t1 : tot 2 (l.take 1) = isz 2 (l[0]'(by omega)) := by have := tot_at (kind := 2) h0; simpa [tot] using this
    have a1 := hsz _ (List.getElem_mem (show 0 < l.length by omega))
    have a2 := hsz _ (List.getElem_mem (show 1 < l.length by omega))
    rw [Nat.sub_zero, t1] at h3
    omega
  · exact h2
/-- What is stored has no more items than are given; of forks fewer. -/
theorem sto_len {kind : Nat} : ∀ {f : Nat} {l : List It} {s : Ws}, (∀ x ∈ l, ItOk kind x) → (sto kind f l s).1.length ≤ l.length ∧ (kind = 2 → 2 ≤ l.length → (sto kind f l s).1.length < l.length)
  | 0, l, s, _ => by simp [sto]; omega
  | f + 1, l, s, h => by
    unfold sto
    by_cases e : l = []
    · subst e; simp
    · rw [if_neg e]
      have hl := List.length_pos_iff.2 e
      by_cases ht : tot kind l ≤ 250
      · rw [if_pos ht]
        by_cases h1 : kind = 2 ∧ l.length = 1
        · rw [if_pos h1]; exact ⟨Nat.le_refl _, fun _ h => by omega⟩
        · rw [if_neg h1]; simp only [List.length_cons, List.length_nil]; omega
      · rw [if_neg ht]
        have h2 : 2 ≤ l.length := by
          rcases Nat.lt_or_ge l.length 2 with h2 | h2
          · obtain ⟨x, rfl⟩ := List.length_eq_one_iff.1 (show l.length = 1 by omega)
            rw [tot_one] at ht
            have := isz_le (h x (by simp)); omega
          · exact h2
        have c1 := cut_pos (kind := kind) h2
        have c2 := cut_lt (kind := kind) h2
        obtain ⟨i1, j1⟩ := sto_len (kind := kind) (f := f) (l := l.take (cut kind l)) (s := s) fun x hx => h x (List.mem_of_mem_take hx)
        obtain ⟨i2, j2⟩ := sto_len (kind := kind) (f := f) (l := l.drop (cut kind l)) (s := (sto kind f (l.take (cut kind l)) s).2) fun x hx => h x (List.mem_of_mem_drop hx)
        rw [List.length_take, Nat.min_eq_left (by omega)] at i1 j1
        rw [List.length_drop] at i2 j2
        rw [List.length_append]
        refine ⟨by omega, fun hk _ => ?_⟩
        subst hk
        have := cut_two h (by omega)
        have := j1 rfl (by omega)
        omega
end Go.Proofs.YtpmkohnljngbhaaDoor.Pg
/- Changing a tree, plainly. -/
namespace Go.Proofs.YtpmkohnljngbhaaDoor.Pg
set_option maxRecDepth 1000000

/-- Where a key lies among items, and whether it is there. -/
def ix (l : List It) (key : List UInt8) : Nat := (l.takeWhile fun x => decide (cmpB x.k key < 0)).length
def fd (l : List It) (key : List UInt8) : Bool := l.any fun x => decide (x.k = key)
theorem tw_lo {p : It → Bool} : ∀ (l : List It) (j : Nat) (x : It), j < (l.takeWhile p).length → l[j]? = some x → p x = true
  | [], j, x, h, _ => by simp at h
  | y :: l, j, x, h, hx => by
    unfold List.takeWhile at h
    split at h
    · rename_i hy
      cases j with
      | zero => obtain rfl : y = x := by simpa using hx
                exact hy
      | succ j => exact tw_lo l j x (by simpa using h) (by simpa using hx)
    · simp at h
theorem tw_hi {p : It → Bool} : ∀ (l : List It) (x : It), l[(l.takeWhile p).length]? = some x → p x = false
  | [], x, h => by simp at h
  | y :: l, x, h => by
    unfold List.takeWhile at h
    split at h
    · exact tw_hi l x (by simpa using h)
    · rename_i hy
      obtain rfl : y = x := by simpa using h
      exact hy
theorem tw_le {p : It → Bool} : ∀ (l : List It), (l.takeWhile p).length ≤ l.length
  | [] => by simp
  | y :: l => by
    unfold List.takeWhile
    split
    · have := tw_le (p := p) l; simp only [List.length_cons]; omega
    · simp
theorem plc_ix {l : List It} (hs : Srt l) (key : List UInt8) : Plc l key (ix l key) (fd l key) := by
  have lo : ∀ (j : Nat) (x : It), j < ix l key → l[j]? = some x → cmpB x.k key < 0 := fun j x hj hx => of_decide_eq_true (tw_lo l j x hj hx)
  have hi : ∀ (j : Nat) (x : It), ix l key ≤ j → l[j]? = some x → 0 ≤ cmpB x.k key := by
    intro j x hj hx
    have hlt := (List.getElem?_eq_some_iff.1 hx).1
    have hy : l[ix l key]? = some (l[ix l key]'(by omega)) := List.getElem?_eq_getElem _
    have h1 := of_decide_eq_false (tw_hi l _ hy)
    exact hs.above hy h1 j x hj hx
  refine ⟨tw_le l, lo, hi, ?_⟩
  unfold fd
  rw [List.any_eq_true]
  constructor
  · rintro ⟨x, hx, hk⟩
    have hk := of_decide_eq_true hk
    obtain ⟨j, hj⟩ := List.mem_iff_getElem?.1 hx
    refine ⟨x, ?_, hk⟩
    rcases Nat.lt_trichotomy j (ix l key) with h | h | h
    · have := lo j x h hj; rw [hk, cmpB_self] at this; omega
    · rw [← h]; exact hj
    · have hlt := (List.getElem?_eq_some_iff.1 hj).1
      have hy : l[ix l key]? = some (l[ix l key]'(by omega)) := List.getElem?_eq_getElem _
      have h1 := hi _ _ (Nat.le_refl _) hy
      have h2 := hs.at_ hy hj h
      rw [hk] at h2; omega
  · rintro ⟨x, hx, hk⟩
    exact ⟨x, List.mem_of_getElem? hx, decide_eq_true hk⟩
def stoF (kind : Nat) (l : List It) (s : Ws) : List It × Ws := sto kind (l.length + 1) l s
/-- The child below which a key lies. -/
def ci (l : List It) (key : List UInt8) : Nat := if fd l key then ix l key else ix l key - 1
def ce (l : List It) (key : List UInt8) : Nat := if fd l key then ix l key + 1 else ix l key
def chg (key : List UInt8) (bl : List It) : Nat → Nat → Ws → List It × Ws
  | 0, _, s => ([], s)
  | k + 1, n, s => match dec (s.pg.getD n []) with
    | none => ([], s)
    | some (kd, l) =>
      if kd = 1 then stoF 1 (l.take (ix l key) ++ bl ++ l.drop (ce l key)) s
      else match l[ci l key]? with
        | none => ([], s)
        | some x => stoF 2 (l.take (ci l key) ++ (chg key bl k x.ch s).1 ++ l.drop (ci l key + 1)) (chg key bl k x.ch s).2
theorem chg_leaf {key : List UInt8} {bl l : List It} {k n : Nat} {s : Ws} (h : dec (s.pg.getD n []) = some (1, l)) : chg key bl (k + 1) n s = stoF 1 (l.take (ix l key) ++ bl ++ l.drop (ce l key)) s := by
  conv => lhs; unfold chg
  rw [h]; rfl
theorem chg_fork {key : List UInt8} {bl l : List It} {k n : Nat} {s : Ws} {x : It} (h : dec (s.pg.getD n []) = some (2, l)) (hx : l[ci l key]? = some x) :
    chg key bl (k + 1) n s = stoF 2 (l.take (ci l key) ++ (chg key bl k x.ch s).1 ++ l.drop (ci l key + 1)) (chg key bl k x.ch s).2 := by
  conv => lhs; unfold chg
  rw [h]
  dsimp only
  rw [if_neg (by decide), hx]
/-- The way to a key can be read. -/
def Pok (pg : List (List UInt8)) (key : List UInt8) : Nat → Nat → Prop
  | 0, _ => False
  | k + 1, n => n < pg.length ∧ ∃ kd l, dec (pg.getD n []) = some (kd, l) ∧ DecOk kd l ∧ Srt l ∧ (kd = 2 → ∀ x, l[ci l key]? = some x → Pok pg key k x.ch)
theorem ci_lt {l : List It} (hs : Srt l) (key : List UInt8) (h : 1 ≤ l.length) : ci l key < l.length := by
  have p := plc_ix hs key
  unfold ci
  split
  · rename_i hf
    obtain ⟨x, hx, _⟩ := p.fd.1 hf
    exact (List.getElem?_eq_some_iff.1 hx).1
  · have := p.le; omega
theorem ce_le {l : List It} (hs : Srt l) (key : List UInt8) : ce l key ≤ l.length := by
  have p := plc_ix hs key
  unfold ce
  split
  · rename_i hf
    obtain ⟨x, hx, _⟩ := p.fd.1 hf
    exact (List.getElem?_eq_some_iff.1 hx).1
  · exact p.le
/-- A writer that may write. -/
structure WsOk (s : Ws) : Prop where
  n4 : s.pg.length ≤ 4096
  fr : ∀ x ∈ s.fr, x < s.pg.length
theorem putP_ok {kind : Nat} {l : List It} {s : Ws} (h : WsOk s) (hl : ∀ x ∈ l, ItOk kind x) (hne : l ≠ []) : ItOk 2 (putP kind l s).1 ∧ WsOk (putP kind l s).2 := by
  have hk : ∀ c, c < 65536 → ItOk 2 ⟨hkey l, [], c⟩ := by
    intro c hc
    match l, hne with
    | y :: m, _ =>
      have := hl y (by simp)
      exact ⟨this.k1, this.k2, by simp, fun e => absurd e (by decide), fun _ => ⟨rfl, hc⟩⟩
  unfold putP
  rcases hfr : s.fr with _ | ⟨x, fr⟩
  · dsimp only
    split
    · exact ⟨hk _ (by omega), ⟨h.n4, by simp⟩⟩
    · have := h.n4
      exact ⟨hk _ (by omega), ⟨by simp; omega, by simp⟩⟩
  · dsimp only
    have hx := h.fr x (by rw [hfr]; simp)
    have := h.n4
    exact ⟨hk _ (by omega), ⟨by simp; omega, fun y hy => by rw [List.length_set]; exact h.fr y (by rw [hfr]; simp [hy])⟩⟩
theorem sto_ok {kind : Nat} : ∀ {f : Nat} {l : List It} {s : Ws}, WsOk s → (∀ x ∈ l, ItOk kind x) → (∀ x ∈ (sto kind f l s).1, ItOk 2 x) ∧ WsOk (sto kind f l s).2
  | 0, l, s, h, _ => by simp [sto]; exact h
  | f + 1, l, s, h, hl => by
    unfold sto
    by_cases e : l = []
    · rw [if_pos e]; exact ⟨by simp, h⟩
    · rw [if_neg e]
      by_cases ht : tot kind l ≤ 250
      · rw [if_pos ht]
        by_cases h1 : kind = 2 ∧ l.length = 1
        · rw [if_pos h1]; exact ⟨h1.1 ▸ hl, h⟩
        · rw [if_neg h1]
          obtain ⟨a, b⟩ := putP_ok h hl e
          exact ⟨fun x hx => by obtain rfl : x = _ := by simpa using hx
                                exact a, b⟩
      · rw [if_neg ht]
        obtain ⟨a1, b1⟩ := sto_ok (kind := kind) (f := f) (l := l.take (cut kind l)) h fun x hx => hl x (List.mem_of_mem_take hx)
        obtain ⟨a2, b2⟩ := sto_ok (kind := kind) (f := f) (l := l.drop (cut kind l)) b1 fun x hx => hl x (List.mem_of_mem_drop hx)
        exact ⟨fun x hx => (List.mem_append.1 hx).elim (a1 x) (a2 x), b2⟩
/-- Forks: the number of pages that are written. -/
theorem sto_cnt : ∀ {f : Nat} {l : List It} {s : Ws}, (∀ x ∈ l, ItOk 2 x) → (sto 2 f l s).1.length ≤ 1 ∨ 80 * (sto 2 f l s).1.length ≤ tot 2 l
  | 0, l, s, _ => by simp [sto]
  | f + 1, l, s, h => by
    unfold sto
    by_cases e : l = []
    · rw [if_pos e]; simp
    · rw [if_neg e]
      by_cases ht : tot 2 l ≤ 250
      · rw [if_pos ht]
        by_cases h1 : 2 = 2 ∧ l.length = 1
        · rw [if_pos h1]; left; show l.length ≤ 1; omega
        · rw [if_neg h1]; left; simp
      · rw [if_neg ht]
        right
        have h1 := sto_cnt (f := f) (l := l.take (cut 2 l)) (s := s) fun x hx => h x (List.mem_of_mem_take hx)
        have h2 := sto_cnt (f := f) (l := l.drop (cut 2 l)) (s := (sto 2 f (l.take (cut 2 l)) s).2) fun x hx => h x (List.mem_of_mem_drop hx)
        have ha := tot_take_drop 2 l (cut 2 l)
        have hl2 : 2 ≤ l.length := by
          rcases Nat.lt_or_ge l.length 2 with h3 | h3
          · obtain ⟨x, rfl⟩ := List.length_eq_one_iff.1 (show l.length = 1 by have := List.length_pos_iff.2 e; omega)
            rw [tot_one] at ht
            have := isz_le2 (h x (by simp)) (by decide); omega
          · exact h3
        have c2 := cut_two h (by omega)
        have cl := cut_lt (kind := 2) hl2
        have hh := cutN_half 2 (tot 2 l / 2) l 0 0 (fun _ => rfl)
        have hc : tot 2 (l.take (cut 2 l)) ≤ tot 2 l / 2 := by
          unfold cut at c2 ⊢
          rcases hh with hh | hh | hh
          · omega
          · omega
          · simpa using hh
        have hn : tot 2 l / 2 < tot 2 (l.take (cut 2 l)) + 43 ∨ cut 2 l + 1 = l.length := by
          rcases Nat.lt_or_ge (cut 2 l + 1) l.length with h3 | h3
          · left
            have hx : l[cut 2 l]? = some (l[cut 2 l]'cl) := List.getElem?_eq_getElem cl
            have := cutN_next 2 (tot 2 l / 2) l 0 0 (l[cut 2 l]'cl) (by rw [Nat.sub_zero]; exact hx) (by unfold cut at h3; omega)
            have hz := isz_le2 (h _ (List.getElem_mem cl)) (by decide)
            rw [Nat.sub_zero] at this
            have t2 : tot 2 l / 2 < 0 + tot 2 (l.take (cut 2 l)) + isz 2 (l[cut 2 l]'cl) := this
            omega
          · right; omega
        rw [List.length_append]
        rcases hn with hn | hn
        · omega
        · have h5 : tot 2 (l.drop (cut 2 l)) ≤ 43 := by
            obtain ⟨x, hx⟩ := List.length_eq_one_iff.1 (show (l.drop (cut 2 l)).length = 1 by rw [List.length_drop]; omega)
            rw [hx, tot_one]
            exact isz_le2 (h x (List.mem_of_mem_drop (hx ▸ List.mem_singleton.2 rfl))) (by decide)
          omega
def dnF : Nat → List It → Ws → List It × Ws
  | 0, l, s => (l, s)
  | f + 1, l, s => if l.length ≤ 1 then (l, s) else dnF f (stoF 2 l s).1 (stoF 2 l s).2
def rootOf : List It → Int
  | [] => -1
  | x :: _ => x.ch
theorem dnF_stop {f : Nat} {l : List It} {s : Ws} (h : l.length ≤ 1) : dnF f l s = (l, s) := by
  cases f with
  | zero => rfl
  | succ f => unfold dnF; rw [if_pos h]
end Go.Proofs.YtpmkohnljngbhaaDoor.Pg
/- Changing a tree, plainly: the items that stand for it. -/
namespace Go.Proofs.YtpmkohnljngbhaaDoor.Pg
set_option maxRecDepth 1000000

theorem tot_cut (kind : Nat) (l : List It) (i j : Nat) (h : i ≤ j) : tot kind (l.take i) + tot kind (l.drop j) ≤ tot kind l := by
  have h1 := tot_take_drop kind l i
  have h2 := tot_take_drop kind (l.drop i) (j - i)
  rw [List.drop_drop, show i + (j - i) = j by omega] at h2
  omega
theorem tot_two {l : List It} (h : ∀ x ∈ l, ItOk 2 x) : tot 2 l ≤ 43 * l.length := by
  induction l with
  | nil => simp [tot]
  | cons x l ih =>
    have := isz_le2 (h x (by simp)) (by decide)
    have := ih fun y hy => h y (by simp [hy])
    simp [tot]; omega
theorem mem_three {a b c : List It} {P : It → Prop} (ha : ∀ x ∈ a, P x) (hb : ∀ x ∈ b, P x) (hc : ∀ x ∈ c, P x) : ∀ x ∈ a ++ b ++ c, P x := by
  intro x hx
  rcases List.mem_append.1 hx with hx | hx
  · rcases List.mem_append.1 hx with hx | hx
    · exact ha x hx
    · exact hb x hx
  · exact hc x hx
theorem chg_ok {key : List UInt8} {bl : List It} (hb : ∀ x ∈ bl, ItOk 1 x) (hb1 : bl.length ≤ 1) : ∀ {k n : Nat} {s : Ws}, Pok s.pg key k n → WsOk s → (∀ x ∈ (chg key bl k n s).1, ItOk 2 x) ∧ WsOk (chg key bl k n s).2 ∧ (chg key bl k n s).1.length ≤ 84
  | 0, n, s, h, _ => h.elim
  | k + 1, n, s, h, hw => by
    obtain ⟨hn, kd, l, hd, ok, hs, hp⟩ := h
    unfold chg
    rw [hd]
    dsimp only
    have hl := tot_ge ok.it
    have htt := ok.tt
    by_cases hk : kd = 1
    · subst hk
      rw [if_pos rfl]
      have hm : ∀ x ∈ l.take (ix l key) ++ bl ++ l.drop (ce l key), ItOk 1 x := mem_three (fun x hx => ok.it x (List.mem_of_mem_take hx)) hb fun x hx => ok.it x (List.mem_of_mem_drop hx)
      obtain ⟨a, b⟩ := sto_ok (kind := 1) (f := (l.take (ix l key) ++ bl ++ l.drop (ce l key)).length + 1) hw hm
      refine ⟨a, b, ?_⟩
      have := (sto_len (kind := 1) (f := (l.take (ix l key) ++ bl ++ l.drop (ce l key)).length + 1) (s := s) hm).1
      have hce : ix l key ≤ ce l key := by unfold ce; split <;> omega
      have := (plc_ix hs key).le
      have h2 : (l.take (ix l key) ++ bl ++ l.drop (ce l key)).length ≤ 84 := by
        simp only [List.length_append, List.length_take, List.length_drop]; omega
      unfold stoF
      omega
    · obtain rfl : kd = 2 := ok.kd.resolve_left hk
      rw [if_neg (by decide)]
      have hi := ci_lt hs key (by have := ok.n1; omega)
      have hx : l[ci l key]? = some (l[ci l key]'hi) := List.getElem?_eq_getElem hi
      rw [hx]
      dsimp only
      obtain ⟨a, b, c⟩ := chg_ok hb hb1 (hp rfl _ hx) hw
      have hm : ∀ x ∈ l.take (ci l key) ++ (chg key bl k (l[ci l key]'hi).ch s).1 ++ l.drop (ci l key + 1), ItOk 2 x := mem_three (fun x hx => ok.it x (List.mem_of_mem_take hx)) a fun x hx => ok.it x (List.mem_of_mem_drop hx)
      obtain ⟨a2, b2⟩ := sto_ok (kind := 2) (f := (l.take (ci l key) ++ (chg key bl k (l[ci l key]'hi).ch s).1 ++ l.drop (ci l key + 1)).length + 1) b hm
      refine ⟨a2, b2, ?_⟩
      have h1 := sto_cnt (f := (l.take (ci l key) ++ (chg key bl k (l[ci l key]'hi).ch s).1 ++ l.drop (ci l key + 1)).length + 1) (s := (chg key bl k (l[ci l key]'hi).ch s).2) hm
      have h2 := tot_cut 2 l (ci l key) (ci l key + 1) (by omega)
      have h3 := tot_two a
      rw [tot_app, tot_app] at h1
      unfold stoF
      omega
end Go.Proofs.YtpmkohnljngbhaaDoor.Pg
/- What Put and Delete answer. -/
namespace Go.Proofs.YtpmkohnljngbhaaDoor.Pg
set_option maxRecDepth 1000000

theorem Srt.left {a b : List It} (h : Srt (a ++ b)) : Srt a := (List.pairwise_append.1 h).1
theorem Srt.right {a b : List It} (h : Srt (a ++ b)) : Srt b := (List.pairwise_append.1 h).2.1
theorem visL_at {v : Nat → St → Option St} (hm : ∀ n s s', v n s = some s' → s.2.length < s'.2.length) (hp : ∀ n s s', v n s = some s' → s.2 <+: s'.2) {l : List It} : ∀ {s s' : St}, visL v l s = some s' → s.2 <+: s'.2 ∧ ∀ y ∈ l, ∃ j z, s.2.length ≤ j ∧ s'.2[j]? = some z ∧ z.k = y.k := by
  induction l with
  | nil =>
    intro s s' h
    have : s = s' := by simpa [visL] using h
    subst this
    exact ⟨List.prefix_refl _, by simp⟩
  | cons x l ih =>
    intro s s' h
    simp only [visL] at h
    rcases hy : v x.ch s with _ | t
    · rw [hy] at h; cases h
    · rw [hy] at h
      dsimp only at h
      split at h
      · rename_i hk
        have h1 := hp _ _ _ hy
        have h2 := hm _ _ _ hy
        obtain ⟨h3, h4⟩ := ih h
        refine ⟨h1.trans h3, fun y hy => ?_⟩
        rcases List.mem_cons.1 hy with rfl | hy
        · have hz : t.2[s.2.length]? = some (t.2[s.2.length]'h2) := List.getElem?_eq_getElem h2
          refine ⟨s.2.length, _, Nat.le_refl _, (?_ : s'.2[s.2.length]? = some (t.2[s.2.length]'h2)), ?_⟩
          · obtain ⟨m, hm'⟩ := h3
            rw [← hm', List.getElem?_append_left h2]; exact hz
          · rw [hz] at hk; injection hk
        · obtain ⟨j, z, a, b, c⟩ := h4 y hy
          exact ⟨j, z, by omega, b, c⟩
      · cases h
theorem visL_srt {v : Nat → St → Option St} (hm : ∀ n s s', v n s = some s' → s.2.length < s'.2.length) (hp : ∀ n s s', v n s = some s' → s.2 <+: s'.2) {l : List It} : ∀ {s s' : St}, visL v l s = some s' → Srt s'.2 → Srt l ∧ ∀ x ∈ l, ∃ t t', v x.ch t = some t' ∧ Srt t'.2 := by
  induction l with
  | nil => intro s s' _ _; exact ⟨List.Pairwise.nil, by simp⟩
  | cons x l ih =>
    intro s s' h hs
    simp only [visL] at h
    rcases hy : v x.ch s with _ | t
    · rw [hy] at h; cases h
    · rw [hy] at h
      dsimp only at h
      split at h
      · rename_i hk
        have h2 := hm _ _ _ hy
        obtain ⟨a, b⟩ := ih h hs
        obtain ⟨c, d⟩ := visL_at hm hp h
        have hz : t.2[s.2.length]? = some (t.2[s.2.length]'h2) := List.getElem?_eq_getElem h2
        have hz2 : s'.2[s.2.length]? = some (t.2[s.2.length]'h2) := by
          obtain ⟨m, hm'⟩ := c
          rw [← hm', List.getElem?_append_left h2]; exact hz
        have hzk : (t.2[s.2.length]'h2).k = x.k := by rw [hz] at hk; injection hk
        refine ⟨List.pairwise_cons.2 ⟨fun y hy => ?_, a⟩, fun y hy => ?_⟩
        · obtain ⟨j, z, e1, e2, e3⟩ := d y hy
          have := hs.at_ hz2 e2 (by omega)
          rwa [hzk, e3] at this
        · rcases List.mem_cons.1 hy with rfl | hy
          · obtain ⟨m, hm'⟩ := c
            exact ⟨s, t, by assumption, by rw [← hm'] at hs; exact hs.left⟩
          · exact b y hy
      · cases h
theorem vis_pre {pg : List (List UInt8)} {fr : List Int} : ∀ {k n : Nat} {s s' : St}, vis pg fr k n s = some s' → s.2 <+: s'.2
  | 0, n, s, s', h => by cases h
  | k + 1, n, s, s', h => by
    unfold vis at h
    split at h
    · rcases hd : dec (pg.getD n []) with _ | ⟨kd, l⟩
      · rw [hd] at h; cases h
      · rw [hd] at h
        dsimp only at h
        split at h
        · injection h with h; subst h; exact List.prefix_append _ _
        · have := (visL_at (fun n s s' h => vis_more h) (fun n s s' h => vis_pre h) h).1
          exact this
    · cases h
theorem vis_pok {pg : List (List UInt8)} {fr : List Int} (h256 : ∀ p ∈ pg, p.length = 256) (key : List UInt8) : ∀ {k n : Nat} {s s' : St}, vis pg fr k n s = some s' → Srt s'.2 → Pok pg key k n
  | 0, n, s, s', h, _ => by cases h
  | k + 1, n, s, s', h, hs => by
    unfold vis at h
    split at h
    · rename_i hc
      have hg : pg.getD n [] = pg[n]'hc.1 := by rw [List.getD_eq_getElem?_getD, List.getElem?_eq_getElem hc.1]; rfl
      rcases hd : dec (pg.getD n []) with _ | ⟨kd, l⟩
      · rw [hd] at h; cases h
      · rw [hd] at h
        dsimp only at h
        have ok := dec_ok (h256 _ (hg ▸ List.getElem_mem hc.1)) hd
        split at h
        · rename_i hk
          injection h with h; subst h
          exact ⟨hc.1, kd, l, hd, ok, hs.right, fun e => by omega⟩
        · obtain ⟨a, b⟩ := visL_srt (fun n s s' h => vis_more h) (fun n s s' h => vis_pre h) h hs
          refine ⟨hc.1, kd, l, hd, ok, a, fun _ x hx => ?_⟩
          obtain ⟨t, t', h1, h2⟩ := b x (List.mem_of_getElem? hx)
          exact vis_pok h256 key h1 h2
    · cases h
def zeroF : Fi := ⟨[], 0, []⟩
def nat_int (fr : List Nat) : List Int := fr.map fun (x : Nat) => (x : Int)
def putA (F : Fi) (fr : List Nat) (key value : List UInt8) : List It × Ws :=
  if F.root < 0 then stoF 1 [⟨key, value, 0⟩] ⟨F.pg, fr, false⟩ else chg key [⟨key, value, 0⟩] (F.pg.length + 1) F.root.toNat ⟨F.pg, fr, false⟩
def delA (F : Fi) (fr : List Nat) (key : List UInt8) : List It × Ws := chg key [] (F.pg.length + 1) F.root.toNat ⟨F.pg, fr, false⟩
def lenKV (key value : List UInt8) : Prop := 1 ≤ key.length ∧ key.length ≤ 40 ∧ value.length ≤ 120
/-- The file behind a change. -/
def outF (a : List It × Ws) : Fi := ⟨(dnF 1000 a.1 a.2).2.pg, rootOf (dnF 1000 a.1 a.2).1, nat_int (dnF 1000 a.1 a.2).2.fr⟩
inductive PutO (F : Fi) (key value : List UInt8) : Fi → Int → Prop
  | arg (h : ¬ lenKV key value) : PutO F key value zeroF 1
  | log (h : lenKV key value) (hv : ¬ Vld F) : PutO F key value zeroF 16
  | full (fr : List Nat) (hfr : F.free = nat_int fr) (h : lenKV key value) (hv : Vld F) (hf : (dnF 1000 (putA F fr key value).1 (putA F fr key value).2).2.full = true) : PutO F key value zeroF 5
  | ok (fr : List Nat) (hfr : F.free = nat_int fr) (h : lenKV key value) (hv : Vld F) (hf : (dnF 1000 (putA F fr key value).1 (putA F fr key value).2).2.full = false) : PutO F key value (outF (putA F fr key value)) 0
inductive DelO (F : Fi) (key : List UInt8) : Fi → Int → Prop
  | err (d : List UInt8) (er : Int) (h : GetO F key d er) (he : er ≠ 0) : DelO F key zeroF er
  | full (fr : List Nat) (hfr : F.free = nat_int fr) (d : List UInt8) (h : GetO F key d 0) (hf : (dnF 1000 (delA F fr key).1 (delA F fr key).2).2.full = true) : DelO F key zeroF 5
  | ok (fr : List Nat) (hfr : F.free = nat_int fr) (d : List UInt8) (h : GetO F key d 0) (hf : (dnF 1000 (delA F fr key).1 (delA F fr key).2).2.full = false) : DelO F key (outF (delA F fr key)) 0
end Go.Proofs.YtpmkohnljngbhaaDoor.Pg
