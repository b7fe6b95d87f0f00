/- Plain mathematics of stores: changes, entries behind changes, the records of transactions, and what a log holds. -/
import Derived.Test.YtpmkohnljngbhaaGreatDoorWalM
namespace Go.Proofs.YtpmkohnljngbhaaGreatDoor.Sr
set_option linter.unusedVariables false
set_option linter.unusedSimpArgs false
set_option maxRecDepth 1000000
open Wl

structure Ch where
  k : List UInt8
  v : List UInt8
  del : Bool
deriving DecidableEq
theorem Ch.ext' {a b : Ch} (h1 : a.k = b.k) (h2 : a.v = b.v) (h3 : a.del = b.del) : a = b := by
  cases a; cases b; simp at h1 h2 h3; simp [h1, h2, h3]
def okN (kn vn : Nat) (del : Bool) : Bool := decide (1 ≤ kn ∧ kn ≤ 40) && decide (vn ≤ 120) && (!del || decide (vn = 0))
def Ch.ok (c : Ch) : Bool := okN c.k.length c.v.length c.del
theorem ok_iff {c : Ch} : c.ok = true ↔ (1 ≤ c.k.length ∧ c.k.length ≤ 40) ∧ c.v.length ≤ 120 ∧ (c.del = true → c.v = []) := by
  unfold Ch.ok okN
  simp only [Bool.and_eq_true, decide_eq_true_eq, Bool.or_eq_true, Bool.not_eq_true', List.length_eq_zero_iff, and_assoc]
  cases c.del <;> simp
abbrev Ent := List UInt8 → Option (List UInt8)
def step (b : Ent) (c : Ch) : Ent := fun key => if c.k = key then (if c.del = true then none else some c.v) else b key
def app (b : Ent) (cs : List Ch) : Ent := cs.foldl step b
theorem app_nil (b : Ent) : app b [] = b := rfl
theorem app_snoc (b : Ent) (cs : List Ch) (c : Ch) : app b (cs ++ [c]) = step (app b cs) c := by simp [app]
theorem app_app (b : Ent) (xs ys : List Ch) : app b (xs ++ ys) = app (app b xs) ys := by simp [app]
/-- What behind a change has no other change of the key. -/
theorem app_last (b : Ent) {xs ys : List Ch} {c : Ch} {key : List UInt8} (h : ∀ y ∈ ys, y.k ≠ key) (hc : c.k = key) : app b (xs ++ c :: ys) key = if c.del = true then none else some c.v := by
  induction ys generalizing xs c with
  | nil => rw [app_snoc]; unfold step; rw [if_pos hc]
  | cons y ys ih =>
    have : ∀ (zs : List Ch) (B : Ent), (∀ z ∈ zs, z.k ≠ key) → app B zs key = B key := by
      intro zs
      induction zs with
      | nil => intro B _; rfl
      | cons z zs ihz =>
        intro B hz
        show app (step B z) zs key = _
        rw [ihz _ fun x hx => hz x (by simp [hx])]
        unfold step; rw [if_neg (hz z (by simp))]
    rw [show xs ++ c :: y :: ys = (xs ++ [c]) ++ (y :: ys) by simp, app_app, this _ _ h, app_snoc]
    unfold step; rw [if_pos hc]
theorem app_no (b : Ent) {zs : List Ch} {key : List UInt8} (h : ∀ z ∈ zs, z.k ≠ key) : app b zs key = b key := by
  induction zs generalizing b with
  | nil => rfl
  | cons z zs ih =>
    show app (step b z) zs key = _
    rw [ih _ fun x hx => h x (by simp [hx])]
    unfold step; rw [if_neg (h z (by simp))]

/-- The record of a change. -/
def recC (t : Int) (c : Ch) : Rec := if c.del = true then ⟨2, t, c.k⟩ else ⟨1, t, UInt8.ofNat c.k.length :: (c.k ++ c.v)⟩
/-- The change of a record. -/
def chR0 (r : Rec) : Ch := if r.k = 1 then ⟨(r.d.drop 1).take (r.d.getD 0 0).toNat, (r.d.drop 1).drop (r.d.getD 0 0).toNat, false⟩ else ⟨r.d, [], true⟩
def chR (r : Rec) : Option Ch :=
  if r.k = 1 ∧ r.d.length ≤ (r.d.getD 0 0).toNat then none else if r.k ≠ 3 ∧ (chR0 r).ok = true then some (chR0 r) else none
theorem chR_recC {t : Int} {c : Ch} (h : c.ok = true) : chR (recC t c) = some c := by
  have h' := ok_iff.1 h
  unfold chR recC
  cases hd : c.del with
  | true =>
    have e : chR0 ⟨2, t, c.k⟩ = c := Ch.ext' rfl (by rw [h'.2.2 hd]; rfl) hd.symm
    simp only [if_true]
    rw [if_neg (by simp), e, if_pos ⟨by simp, h⟩]
  | false =>
    have hn : (UInt8.ofNat c.k.length).toNat = c.k.length := by simp; omega
    have e : chR0 ⟨1, t, UInt8.ofNat c.k.length :: (c.k ++ c.v)⟩ = c := by
      unfold chR0
      rw [if_pos rfl]
      refine Ch.ext' ?_ ?_ hd.symm
      · simp only [List.getD_cons_zero, List.drop_succ_cons, List.drop_zero, hn]; simp
      · simp only [List.getD_cons_zero, List.drop_succ_cons, List.drop_zero, hn]; simp
    simp only [Bool.false_eq_true, if_false]
    rw [if_neg (by simp only [List.getD_cons_zero, hn]; simp; omega), e, if_pos ⟨by simp, h⟩]
theorem recC_ok {t : Int} {c : Ch} (h : c.ok = true) (h1 : 1 ≤ t) (h2 : t < 9223372036854775808) : Wl.ok (recC t c) := by
  have h' := ok_iff.1 h
  unfold recC
  cases c.del with
  | true => exact ⟨by show (1:Int) ≤ 2; decide, by show (2:Int) ≤ 3; decide, h1, h2, by show c.k.length ≤ 4096; omega, fun e => by simp at e⟩
  | false => exact ⟨by show (1:Int) ≤ 1; decide, by show (1:Int) ≤ 3; decide, h1, h2, by simp; omega, fun e => by simp at e⟩
theorem recC_t (t : Int) (c : Ch) : (recC t c).t = t := by unfold recC; split <;> rfl
theorem recC_k (t : Int) (c : Ch) : (recC t c).k ≠ 3 := by unfold recC; split <;> simp
theorem recC_len {t : Int} {c : Ch} (h : c.ok = true) : (recC t c).d.length ≤ 161 := by
  have h' := ok_iff.1 h
  unfold recC; split <;> simp <;> omega
/-- The records of a transaction, and of several. -/
def recT (t : Int) (cs : List Ch) : List Rec := cs.map (recC t) ++ [⟨3, t, []⟩]
def recL : Int → List (List Ch) → List Rec
  | _, [] => []
  | t, cs :: L => recT t cs ++ recL (t + 1) L
theorem recL_snoc : ∀ (L : List (List Ch)) (t : Int) (cs : List Ch), recL t (L ++ [cs]) = recL t L ++ recT (t + L.length) cs
  | [], t, cs => by simp [recL]
  | x :: L, t, cs => by
    show recT t x ++ recL (t + 1) (L ++ [cs]) = (recT t x ++ recL (t + 1) L) ++ _
    rw [recL_snoc L, List.append_assoc]
    congr 3; simp; omega
def okT (cs : List Ch) : Prop := ∀ c ∈ cs, c.ok = true
theorem recT_ok {t : Int} {cs : List Ch} (h : okT cs) (h1 : 1 ≤ t) (h2 : t < 9223372036854775808) : ∀ r ∈ recT t cs, Wl.ok r := by
  intro r hr
  rcases List.mem_append.1 hr with hr | hr
  · obtain ⟨c, hc, rfl⟩ := List.mem_map.1 hr
    exact recC_ok (h c hc) h1 h2
  · obtain rfl : r = ⟨3, t, []⟩ := by simpa using hr
    exact ⟨by show (1:Int) ≤ 3; decide, by show (3:Int) ≤ 3; decide, h1, h2, by simp, fun _ => rfl⟩
theorem recL_ok : ∀ {L : List (List Ch)} {t : Int}, (∀ cs ∈ L, okT cs) → 1 ≤ t → t + L.length ≤ 9223372036854775808 → ∀ r ∈ recL t L, Wl.ok r
  | [], _, _, _, _, r, hr => by cases hr
  | cs :: L, t, h, h1, h2, r, hr => by
    simp only [List.length_cons] at h2
    rcases List.mem_append.1 hr with hr | hr
    · exact recT_ok (h cs (by simp)) h1 (by omega) r hr
    · exact recL_ok (L := L) (t := t + 1) (fun x hx => h x (by simp [hx])) (by omega) (by omega) r hr
def logL (t : Int) (L : List (List Ch)) : List UInt8 := encs (recL t L)
theorem logL_snoc (L : List (List Ch)) (t : Int) (cs : List Ch) : logL t (L ++ [cs]) = logL t L ++ encs (recT (t + L.length) cs) := by unfold logL; rw [recL_snoc, encs_app]

/-- One record more is read: the transactions so far, the changes of the open one, its number. -/
def tstp (s : Option (List (List Ch) × List Ch × Int)) (r : Rec) : Option (List (List Ch) × List Ch × Int) :=
  s.bind fun x => if r.t ≠ x.2.2 then none else if r.k = 3 then some (x.1 ++ [x.2.1], [], x.2.2 + 1) else (chR r).map fun c => (x.1, x.2.1 ++ [c], x.2.2)
def tfold (tx : Int) (l : List Rec) : Option (List (List Ch) × List Ch × Int) := l.foldl tstp (some ([], [], tx))
theorem tfold_snoc (tx : Int) (l : List Rec) (r : Rec) : tfold tx (l ++ [r]) = tstp (tfold tx l) r := by simp [tfold]
theorem tstp_none (l : List Rec) : l.foldl tstp none = none := by induction l with | nil => rfl | cons r l ih => exact ih
theorem tfold_none {tx : Int} {l : List Rec} {j : Nat} (h : tfold tx (l.take j) = none) : tfold tx l = none := by
  have : tfold tx l = (l.drop j).foldl tstp (tfold tx (l.take j)) := by
    unfold tfold; rw [← List.foldl_append, List.take_append_drop]
  rw [this, h, tstp_none]
def commits (l : List Rec) : Nat := (l.filter fun r => decide (r.k = 3)).length
theorem commits_snoc (l : List Rec) (r : Rec) : commits (l ++ [r]) = if r.k = 3 then commits l + 1 else commits l := by
  unfold commits
  rw [List.filter_append]
  by_cases h : r.k = 3
  · simp [h]
  · simp [h]
theorem commits_le (l : List Rec) : commits l ≤ l.length := List.length_filter_le _ _
/-- The last record of a log is that of a commit. -/
def closed (l : List Rec) : Bool := match l.getLast? with
  | none => true
  | some r => decide (r.k = 3)
/-- The transactions of a log. -/
def trx (log : List UInt8) (last : Int) : Option (List (List Ch)) :=
  if glen log ≠ log.length ∨ closed (rd log) = false ∨ last < (commits (rd log) : Int) then none
  else (tfold (last - commits (rd log) + 1) (rd log)).map (·.1)
theorem tfold_changes {tx : Int} : ∀ {cs : List Ch} {out : List (List Ch)} {op : List Ch} {l : List Rec}, okT cs → tfold tx l = some (out, op, tx + out.length) →
    tfold tx (l ++ cs.map (recC (tx + out.length))) = some (out, op ++ cs, tx + out.length)
  | [], out, op, l, _, h => by simpa using h
  | c :: cs, out, op, l, hok, h => by
    have h1 : tfold tx (l ++ [recC (tx + out.length) c]) = some (out, op ++ [c], tx + out.length) := by
      rw [tfold_snoc, h]
      unfold tstp
      simp only [Option.bind_some]
      rw [if_neg (by rw [recC_t]; simp), if_neg (recC_k _ _), chR_recC (hok c (by simp))]; rfl
    have := tfold_changes (cs := cs) (fun x hx => hok x (by simp [hx])) h1
    simpa using this
theorem tfold_recT {tx : Int} {cs : List Ch} {out : List (List Ch)} {l : List Rec} (hok : okT cs) (h : tfold tx l = some (out, [], tx + out.length)) :
    tfold tx (l ++ recT (tx + out.length) cs) = some (out ++ [cs], [], tx + (out ++ [cs]).length) := by
  unfold recT
  rw [← List.append_assoc, tfold_snoc, tfold_changes hok h]
  unfold tstp
  simp only [Option.bind_some]
  rw [if_neg (by simp), if_pos (by trivial)]
  simp; omega
theorem commits_app (a b : List Rec) : commits (a ++ b) = commits a + commits b := by unfold commits; rw [List.filter_append, List.length_append]
theorem commits_recT (t : Int) (cs : List Ch) : commits (recT t cs) = 1 := by
  unfold recT
  rw [commits_app]
  have : commits (cs.map (recC t)) = 0 := by
    unfold commits
    rw [List.length_eq_zero_iff, List.filter_eq_nil_iff]
    intro r hr
    obtain ⟨c, _, rfl⟩ := List.mem_map.1 hr
    simp [recC_k]
  rw [this]; rfl
theorem commits_recL : ∀ (L : List (List Ch)) (t : Int), commits (recL t L) = L.length
  | [], _ => rfl
  | cs :: L, t => by
    show commits (recT t cs ++ recL (t + 1) L) = _
    rw [commits_app, commits_recT, commits_recL L]; simp; omega
theorem snoc_ind {α : Type} {P : List α → Prop} (h0 : P []) (h1 : ∀ l x, P l → P (l ++ [x])) (l : List α) : P l := by
  rw [← List.reverse_reverse l]
  induction l.reverse with
  | nil => exact h0
  | cons x l ih => rw [List.reverse_cons]; exact h1 _ _ ih
theorem tfold_recL (tx : Int) (L : List (List Ch)) : (∀ cs ∈ L, okT cs) → tfold tx (recL tx L) = some (L, [], tx + L.length) := by
  refine snoc_ind (P := fun L => (∀ cs ∈ L, okT cs) → tfold tx (recL tx L) = some (L, [], tx + L.length)) ?_ ?_ L
  · intro _; simp [recL, tfold]
  · intro L cs ih h
    rw [recL_snoc]
    exact tfold_recT (h cs (by simp)) (ih fun x hx => h x (by simp [hx]))
theorem closed_recL (t : Int) (L : List (List Ch)) : closed (recL t L) = true := by
  refine snoc_ind (P := fun L => closed (recL t L) = true) rfl ?_ L
  intro L cs _
  unfold closed
  rw [recL_snoc]
  unfold recT
  rw [← List.append_assoc, List.getLast?_append]
  simp
/-- What is written is read. -/
theorem trx_log {L : List (List Ch)} {t : Int} (h : ∀ cs ∈ L, okT cs) (h1 : 1 ≤ t) (h2 : t + L.length ≤ 9223372036854775808) : trx (logL t L) (t - 1 + L.length) = some L := by
  have hr : rd (logL t L) = recL t L := rd_encs (recL_ok h h1 h2)
  have hg : glen (logL t L) = (logL t L).length := glen_encs (recL_ok h h1 h2)
  unfold trx
  rw [hr, commits_recL, if_neg (by rw [closed_recL]; simp [hg]; omega), show t - 1 + (L.length : Int) - L.length + 1 = t by omega, tfold_recL _ _ h]; rfl
theorem trx_bad {log : List UInt8} {last : Int} (h : glen log ≠ log.length) : trx log last = none := if_pos (.inl h)
theorem trx_ok {log : List UInt8} {last : Int} {L : List (List Ch)} (h : trx log last = some L) : glen log = log.length ∧ closed (rd log) = true ∧ (commits (rd log) : Int) ≤ last ∧ ∃ op tx, tfold (last - commits (rd log) + 1) (rd log) = some (L, op, tx) := by
  unfold trx at h
  split at h
  · cases h
  · rename_i hn
    simp only [not_or, ne_eq, Decidable.not_not] at hn
    refine ⟨hn.1, by simpa using hn.2.1, by omega, ?_⟩
    rcases hf : tfold (last - commits (rd log) + 1) (rd log) with _ | ⟨a, b, c⟩
    · rw [hf] at h; cases h
    · rw [hf] at h; injection h with h; exact ⟨b, c, by rw [← h]⟩
/-- All changes that are read are valid. -/
theorem chR_ok {r : Rec} {c : Ch} (h : chR r = some c) : c.ok = true := by
  unfold chR at h
  split at h
  · cases h
  · split at h
    · rename_i hc; injection h with h; rw [← h]; exact hc.2
    · cases h

/-- The model: a list of entries. -/
def apl (M : List Ch) (c : Ch) : List Ch := (M.filter fun x => decide (x.k ≠ c.k)) ++ if c.del = true then [] else [c]
def mfi (M : List Ch) (key : List UInt8) : Option Nat := M.findIdx? fun x => decide (x.k = key)
def mfd (M : List Ch) (key : List UInt8) : Option (List UInt8) := (M.find? fun x => decide (x.k = key)).map Ch.v
theorem mfd_apl (M : List Ch) (c : Ch) : mfd (apl M c) = step (mfd M) c := by
  funext key
  unfold mfd apl step
  rw [List.find?_append]
  by_cases h : c.k = key
  · have hn : (M.filter fun x => decide (x.k ≠ c.k)).find? (fun x => decide (x.k = key)) = none := by
      rw [List.find?_eq_none]
      intro x hx
      have := (List.mem_filter.1 hx).2
      simp only [decide_eq_true_eq] at this ⊢
      rw [← h]; exact this
    rw [hn, if_pos h]
    cases c.del <;> simp [h]
  · rw [if_neg h]
    have h2 : (if c.del = true then ([] : List Ch) else [c]).find? (fun x => decide (x.k = key)) = none := by
      cases c.del <;> simp [h]
    rw [h2, Option.or_none]
    congr 1
    rw [List.find?_filter]
    congr 1
    funext x
    by_cases hx : x.k = key
    · have : ¬ x.k = c.k := fun e => h (e.symm.trans hx)
      simp [hx, this]
      exact fun e => h e.symm
    · simp [hx]
def mdl (cs : List Ch) : List Ch := cs.foldl apl []
theorem mdl_snoc (cs : List Ch) (c : Ch) : mdl (cs ++ [c]) = apl (mdl cs) c := by simp [mdl]
theorem mfd_mdl (cs : List Ch) : mfd (mdl cs) = app (fun _ => none) cs := by
  refine snoc_ind (P := fun cs => mfd (mdl cs) = app (fun _ => none) cs) rfl ?_ cs
  intro cs c ih
  rw [mdl_snoc, mfd_apl, ih, app_snoc]
theorem apl_len (M : List Ch) (c : Ch) : (apl M c).length ≤ M.length + 1 := by
  unfold apl
  rw [List.length_append]
  have := List.length_filter_le (fun x : Ch => decide (x.k ≠ c.k)) M
  split <;> simp only [List.length_nil, List.length_singleton] <;> omega
theorem mdl_len (cs : List Ch) : (mdl cs).length ≤ cs.length := by
  refine snoc_ind (P := fun cs => (mdl cs).length ≤ cs.length) (by simp [mdl]) ?_ cs
  intro cs c ih
  rw [mdl_snoc]
  have := apl_len (mdl cs) c
  rw [List.length_append, List.length_singleton]; omega
theorem mfi_mfd {M : List Ch} {key : List UInt8} : (mfi M key = none ∧ mfd M key = none) ∨ ∃ i x, mfi M key = some i ∧ M[i]? = some x ∧ x.k = key ∧ mfd M key = some x.v := by
  unfold mfi mfd
  induction M with
  | nil => exact .inl ⟨rfl, rfl⟩
  | cons y M ih =>
    by_cases hy : y.k = key
    · exact .inr ⟨0, y, by simp [List.findIdx?_cons, hy], rfl, hy, by simp [hy]⟩
    · rcases ih with ⟨h1, h2⟩ | ⟨i, x, h1, h2, h3, h4⟩
      · exact .inl ⟨by simp [List.findIdx?_cons, hy, h1], by simpa [hy] using h2⟩
      · exact .inr ⟨i + 1, x, by simp [List.findIdx?_cons, hy, h1], by simpa using h2, h3, by simpa [hy] using h4⟩
/-- Transactions without the changes that delete nothing. -/
def estp (b : Ent) (s : List Ch) (c : Ch) : List Ch := if c.del = true ∧ app b s c.k = none then s else s ++ [c]
def eff (b : Ent) (t : List Ch) : List Ch := t.foldl (estp b) []
theorem eff_snoc (b : Ent) (t : List Ch) (c : Ch) : eff b (t ++ [c]) = estp b (eff b t) c := by simp [eff]
theorem app_eff (b : Ent) (t : List Ch) : app b (eff b t) = app b t := by
  refine snoc_ind (P := fun t => app b (eff b t) = app b t) rfl ?_ t
  intro t c ih
  rw [eff_snoc, app_snoc]
  unfold estp
  split
  · rename_i h
    rw [ih]
    funext key
    unfold step
    by_cases hk : c.k = key
    · rw [if_pos hk, if_pos h.1, ← hk, ← ih]; exact h.2
    · rw [if_neg hk]
  · rw [app_snoc, ih]
theorem eff_mem (b : Ent) (t : List Ch) : ∀ c ∈ eff b t, c ∈ t := by
  refine snoc_ind (P := fun t => ∀ c ∈ eff b t, c ∈ t) (by simp [eff]) ?_ t
  intro t c ih x hx
  rw [eff_snoc] at hx
  unfold estp at hx
  split at hx
  · exact List.mem_append_left _ (ih x hx)
  · rcases List.mem_append.1 hx with h | h
    · exact List.mem_append_left _ (ih x h)
    · exact List.mem_append_right _ h
theorem eff_len (b : Ent) (t : List Ch) : (eff b t).length ≤ t.length := by
  refine snoc_ind (P := fun t => (eff b t).length ≤ t.length) (by simp [eff]) ?_ t
  intro t c ih
  rw [eff_snoc]
  unfold estp
  split <;> simp <;> omega
def effs : Ent → List (List Ch) → List (List Ch)
  | _, [] => []
  | b, t :: L => eff b t :: effs (app b t) L
theorem effs_snoc : ∀ (L : List (List Ch)) (b : Ent) (t : List Ch), effs b (L ++ [t]) = effs b L ++ [eff (app b L.flatten) t]
  | [], b, t => by simp [effs, app]
  | x :: L, b, t => by
    show eff b x :: effs (app b x) (L ++ [t]) = eff b x :: effs (app b x) L ++ _
    rw [effs_snoc L, List.flatten_cons, app_app]; rfl
theorem effs_len : ∀ (L : List (List Ch)) (b : Ent), (effs b L).length = L.length
  | [], _ => rfl
  | x :: L, b => by simp [effs, effs_len L]
theorem app_effs : ∀ (L : List (List Ch)) (b : Ent), app b (effs b L).flatten = app b L.flatten
  | [], _ => rfl
  | x :: L, b => by
    show app b (eff b x :: effs (app b x) L).flatten = _
    rw [List.flatten_cons, List.flatten_cons, app_app, app_app, app_eff, app_effs L]
theorem effs_ok {L : List (List Ch)} : ∀ {b : Ent}, (∀ t ∈ L, okT t) → ∀ t ∈ effs b L, okT t := by
  induction L with
  | nil => intro b _ t ht; cases ht
  | cons x L ih =>
    intro b h t ht
    rcases List.mem_cons.1 ht with rfl | ht
    · exact fun c hc => h x (by simp) c (eff_mem _ _ c hc)
    · exact ih (fun y hy => h y (by simp [hy])) t ht
end Go.Proofs.YtpmkohnljngbhaaGreatDoor.Sr
