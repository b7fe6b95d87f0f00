/- Plain: how the reference gathers transactions. -/
import Derived.Test.YtfkeedeiafegiaaWalT
namespace Go.Proofs.Ytfkeedeiafegiaa.Wl
set_option linter.unusedVariables false
set_option linter.unusedSimpArgs false

/-- What waits among the first i records. -/
def wt (l : List RV) (D : List Bool) (i : Nat) : List RV := (((l.take i).zip (D.take i)).filter (fun p => !p.2 && decide (p.1.k ≠ 3))).map Prod.fst
theorem wt_snoc {l : List RV} {D : List Bool} {i : Nat} {x : RV} {d : Bool} (hx : l[i]? = some x) (hd : D[i]? = some d) : wt l D (i + 1) = wt l D i ++ if (!d && decide (x.k ≠ 3)) = true then [x] else [] := by
  have h1 := (List.getElem?_eq_some_iff.1 hx).1
  have h2 := (List.getElem?_eq_some_iff.1 hd).1
  unfold wt
  rw [List.take_add_one, hx, List.take_add_one, hd]
  show (((l.take i ++ [x]).zip (D.take i ++ [d])).filter _).map _ = _
  rw [List.zip_append (by rw [List.length_take, List.length_take]; omega), List.filter_append, List.map_append]
  congr 1
  show (([(x, d)] : List (RV × Bool)).filter _).map _ = _
  by_cases h : (!d && decide (x.k ≠ 3)) = true
  · rw [if_pos h, List.filter_cons_of_pos (by exact h)]; rfl
  · rw [if_neg h, List.filter_cons_of_neg (by exact h)]; rfl
theorem wt_set (l : List RV) (D : List Bool) (k : Nat) (b : Bool) : wt l (D.set k b) k = wt l D k := by
  unfold wt
  rw [List.take_set_of_le (Nat.le_refl _)]
def rtr (l : List Rec) (f : Int) : List (List Rec) := ((trs l).filter (fun p => decide (f ≤ p.1))).map grp
theorem rtr_cmp (l : List Rec) (f : Int) : (rtr l f).flatten = cmp l f := rfl
/-- The inner loop. -/
structure Inn (l : List RV) (D D' : List Bool) (T : List RV) (tx : Int) (k n : Nat) : Prop where
  len : D'.length = n
  up : ∀ m, k ≤ m → D'[m]? = D[m]?
  w : wt l D' k = (wt l D k).filter (fun x => decide (x.t ≠ tx))
  t : T = (wt l D k).filter (fun x => decide (x.t = tx))
section
variable {l : List RV} {D D' : List Bool} {T : List RV} {tx : Int} {k n : Nat} {x : RV} {d : Bool}
theorem Inn.start (h : D.length = n) : Inn l D D [] tx 0 n := ⟨h, fun _ _ => rfl, by simp [wt], by simp [wt]⟩
theorem Inn.take (h : Inn l D D' T tx k n) (hx : l[k]? = some x) (hd : D'[k]? = some false) (hk : x.k ≠ 3) (ht : x.t = tx) : Inn l D (D'.set k true) (T ++ [x]) tx (k + 1) n := by
  have hkl := (List.getElem?_eq_some_iff.1 hd).1
  have hD : D[k]? = some false := by rw [← h.up k (Nat.le_refl _)]; exact hd
  refine ⟨by rw [List.length_set]; exact h.len, fun m hm => by rw [List.getElem?_set_ne (by omega)]; exact h.up m (by omega), ?_, ?_⟩
  · rw [wt_snoc hx (d := true) (by rw [List.getElem?_set_self hkl]), wt_set, h.w, wt_snoc hx hD, List.filter_append]
    simp [hk, ht]
  · rw [wt_snoc hx hD, List.filter_append, ← h.t]
    simp [hk, ht]
theorem Inn.skip (h : Inn l D D' T tx k n) (hx : l[k]? = some x) (hd : D'[k]? = some d) (hs : d = true ∨ x.k = 3 ∨ x.t ≠ tx) : Inn l D D' T tx (k + 1) n := by
  have hD : D[k]? = some d := by rw [← h.up k (Nat.le_refl _)]; exact hd
  refine ⟨h.len, fun m hm => h.up m (by omega), ?_, ?_⟩
  · rw [wt_snoc hx hd, h.w, wt_snoc hx hD, List.filter_append]
    congr 1
    by_cases hc : (!d && decide (x.k ≠ 3)) = true
    · rw [if_pos hc]
      have : x.t ≠ tx := by
        rcases hs with rfl | hs | hs
        · simp at hc
        · simp [hs] at hc
        · exact hs
      simp [this]
    · rw [if_neg hc]; rfl
  · rw [wt_snoc hx hD, List.filter_append, ← h.t]
    by_cases hc : (!d && decide (x.k ≠ 3)) = true
    · rw [if_pos hc]
      have : x.t ≠ tx := by
        rcases hs with rfl | hs | hs
        · simp at hc
        · simp [hs] at hc
        · exact hs
      simp [this]
    · rw [if_neg hc]; simp
theorem Inn.bit (h : Inn l D D' T tx k n) (hk : k < n) : ∃ d, D'[k]? = some d := ⟨_, List.getElem?_eq_getElem (by rw [h.len]; exact hk)⟩
/-- The outer loop. -/
structure Out (l : List RV) (D : List Bool) (i n : Nat) : Prop where
  len : D.length = n
  up : ∀ m, i ≤ m → m < n → D[m]? = some false
  w : (wt l D i).map RV.r = pend ((l.take i).map RV.r)
theorem Out.start (l : List RV) (n : Nat) : Out l (List.replicate n false) 0 n := ⟨by simp, fun m _ hm => by simp [hm], by simp [wt, pend]⟩
theorem Out.skip (h : Out l D k n) (hx : l[k]? = some x) (hk : x.k ≠ 3) (hn : k < n) : Out l D (k + 1) n := by
  refine ⟨h.len, fun m hm hn => h.up m (by omega) hn, ?_⟩
  rw [wt_snoc hx (h.up k (Nat.le_refl _) hn), take_rv hx, List.map_append, List.map_append, h.w, List.map_cons, List.map_nil, pend_snoc]
  unfold pstp
  rw [if_neg (show ¬ x.r.k = 3 from hk)]
  simp [hk]
theorem Out.commit (h : Out l D k n) (hx : l[k]? = some x) (hk : x.k = 3) (hn : k < n) (hi : Inn l D D' T x.t k n) :
    Out l D' (k + 1) n ∧ T.map RV.r = (pend ((l.take k).map RV.r)).filter (fun y => decide (y.t = x.r.t)) := by
  have hf : D'[k]? = some false := by rw [hi.up k (Nat.le_refl _)]; exact h.up k (Nat.le_refl _) hn
  refine ⟨⟨hi.len, fun m hm hn => by rw [hi.up m (by omega)]; exact h.up m (by omega) hn, ?_⟩, ?_⟩
  · rw [wt_snoc hx hf, hi.w, take_rv hx, List.map_append (l₁ := l.take k), List.map_cons, List.map_nil, pend_snoc]
    unfold pstp
    rw [if_pos (show x.r.k = 3 from hk), ← h.w, List.filter_map]
    simp only [hk, ne_eq, not_true_eq_false, decide_false, Bool.and_false, Bool.false_eq_true, if_false, List.append_nil]
    rfl
  · rw [hi.t, ← h.w, List.filter_map]; rfl
end
theorem rtr_skip {l : List RV} {k : Nat} {x : RV} (hx : l[k]? = some x) (hk : x.k ≠ 3) (f : Int) : rtr ((l.take (k + 1)).map RV.r) f = rtr ((l.take k).map RV.r) f := by
  unfold rtr
  rw [take_rv hx, List.map_append, List.map_cons, List.map_nil, trs_snoc, if_neg (show ¬ x.r.k = 3 from hk)]
theorem end_of {x : RV} (h : ok x.r) (hk : x.k = 3) : x.r = Rec.end_ x.t := Rec.ext' hk rfl (h.2.2.2.2.2 hk)
theorem rtr_yes {l T : List RV} {k : Nat} {x : RV} (hx : l[k]? = some x) (hok : ok x.r) (hk : x.k = 3) {f : Int} (hf : f ≤ x.t) (hT : T.map RV.r = (pend ((l.take k).map RV.r)).filter (fun y => decide (y.t = x.r.t))) :
    rtr ((l.take (k + 1)).map RV.r) f = rtr ((l.take k).map RV.r) f ++ [(T ++ [x]).map RV.r] := by
  unfold rtr
  rw [take_rv hx, List.map_append, List.map_cons, List.map_nil, trs_snoc, if_pos (show x.r.k = 3 from hk), List.filter_append, List.map_append]
  congr 1
  have h1 : decide (f ≤ x.r.t) = true := decide_eq_true (show f ≤ x.r.t from hf)
  rw [List.filter_cons_of_pos (by exact h1), List.map_append, hT]
  show [grp (x.r.t, _)] = _
  unfold grp
  have : Rec.end_ x.r.t = x.r := (end_of hok hk).symm
  rw [this]; rfl
theorem rtr_no {l : List RV} {k : Nat} {x : RV} (hx : l[k]? = some x) (hk : x.k = 3) {f : Int} (hf : ¬ f ≤ x.t) : rtr ((l.take (k + 1)).map RV.r) f = rtr ((l.take k).map RV.r) f := by
  unfold rtr
  rw [take_rv hx, List.map_append, List.map_cons, List.map_nil, trs_snoc, if_pos (show x.r.k = 3 from hk), List.filter_append, List.map_append]
  have h1 : ¬ decide (f ≤ x.r.t) = true := by rw [decide_eq_true_iff]; exact hf
  rw [List.filter_cons_of_neg (by exact h1)]
  simp
end Go.Proofs.Ytfkeedeiafegiaa.Wl
