/- Changing a tree changes its entries as it should. -/
import Derived.Test.YtphiblmkgbkdmaaDoorPgL2
namespace Go.Proofs.YtphiblmkgbkdmaaDoor.Pg
set_option linter.unusedVariables false
set_option linter.unusedSimpArgs false

def upd (l : List It) (key : List UInt8) (bl : List It) : List It := l.filter (fun x => decide (cmpB x.k key < 0)) ++ bl ++ l.filter (fun x => decide (0 < cmpB x.k key))
theorem ft_all {l : List It} {p : It → Bool} (h : ∀ x ∈ l, p x = true) : l.filter p = l := List.filter_eq_self.2 h
theorem ft_no {l : List It} {p : It → Bool} (h : ∀ x ∈ l, p x = false) : l.filter p = [] := List.filter_eq_nil_iff.2 fun x hx => by rw [h x hx]; simp
theorem upd_mid {a b c : List It} {key : List UInt8} {bl : List It} (ha : ∀ x ∈ a, cmpB x.k key < 0) (hc : ∀ x ∈ c, 0 < cmpB x.k key) : upd (a ++ b ++ c) key bl = a ++ upd b key bl ++ c := by
  unfold upd
  rw [List.filter_append, List.filter_append, List.filter_append, List.filter_append,
    ft_all (l := a) fun x hx => by simpa using ha x hx, ft_no (l := c) (p := fun x => decide (cmpB x.k key < 0)) fun x hx => by have := hc x hx; simp; omega,
    ft_no (l := a) (p := fun x => decide (0 < cmpB x.k key)) fun x hx => by have := ha x hx; simp; omega, ft_all (l := c) (p := fun x => decide (0 < cmpB x.k key)) fun x hx => by simpa using hc x hx]
  simp
theorem mem_take {l : List It} {i : Nat} {x : It} (h : x ∈ l.take i) : ∃ j, j < i ∧ l[j]? = some x := by
  obtain ⟨j, hj⟩ := List.mem_iff_getElem?.1 h
  rw [List.getElem?_take] at hj
  split at hj
  · exact ⟨j, by assumption, hj⟩
  · cases hj
theorem mem_drop {l : List It} {i : Nat} {x : It} (h : x ∈ l.drop i) : ∃ j, i ≤ j ∧ l[j]? = some x := by
  obtain ⟨j, hj⟩ := List.mem_iff_getElem?.1 h
  rw [List.getElem?_drop] at hj
  exact ⟨i + j, by omega, hj⟩
theorem ce_hi {l : List It} (hs : Srt l) (key : List UInt8) {j : Nat} {y : It} (hj : ce l key ≤ j) (hy : l[j]? = some y) : 0 < cmpB y.k key := by
  have p := plc_ix hs key
  unfold ce at hj
  by_cases hf : fd l key = true
  · rw [if_pos hf] at hj
    obtain ⟨x, hx, hk⟩ := p.fd.1 hf
    have := hs.at_ hx hy (by omega)
    rw [hk, cmpB_swap] at this
    omega
  · rw [if_neg hf] at hj
    have h1 := p.hi j y hj hy
    have hf : fd l key = false := by simpa using hf
    rw [hf] at p
    have h2 := p.no hs y (List.mem_of_getElem? hy)
    have h3 : cmpB y.k key ≠ 0 := fun e => h2 (cmpB_eq.1 e)
    omega
theorem ce_lo {l : List It} (hs : Srt l) (key : List UInt8) {j : Nat} {y : It} (hj : j < ce l key) (hy : l[j]? = some y) : cmpB y.k key ≤ 0 := by
  have p := plc_ix hs key
  unfold ce at hj
  by_cases hf : fd l key = true
  · rw [if_pos hf] at hj
    obtain ⟨x, hx, hk⟩ := p.fd.1 hf
    rcases Nat.lt_or_ge j (ix l key) with h | h
    · have := p.lo j y h hy; omega
    · obtain rfl : j = ix l key := by omega
      rw [hx] at hy; injection hy with hy; subst hy
      rw [hk, cmpB_self]; omega
  · rw [if_neg hf] at hj
    have := p.lo j y hj hy; omega
theorem ft_take {l : List It} (hs : Srt l) (key : List UInt8) : l.filter (fun x => decide (cmpB x.k key < 0)) = l.take (ix l key) := by
  have p := plc_ix hs key
  conv => lhs; rw [← List.take_append_drop (ix l key) l]
  rw [List.filter_append, ft_no (l := l.drop (ix l key)) fun x hx => ?_, ft_all (l := l.take (ix l key)) fun x hx => ?_, List.append_nil]
  · obtain ⟨j, hj, hx⟩ := mem_take hx
    simpa using p.lo j x hj hx
  · obtain ⟨j, hj, hx⟩ := mem_drop hx
    have := p.hi j x hj hx
    simp; omega
theorem ft_drop {l : List It} (hs : Srt l) (key : List UInt8) : l.filter (fun x => decide (0 < cmpB x.k key)) = l.drop (ce l key) := by
  conv => lhs; rw [← List.take_append_drop (ce l key) l]
  rw [List.filter_append, ft_no fun x hx => ?_, ft_all fun x hx => ?_, List.nil_append]
  · obtain ⟨j, hj, hx⟩ := mem_drop hx
    simpa using ce_hi hs key hj hx
  · obtain ⟨j, hj, hx⟩ := mem_take hx
    have := ce_lo hs key hj hx
    simp; omega
theorem upd_eq {l : List It} (hs : Srt l) (key : List UInt8) (bl : List It) : upd l key bl = l.take (ix l key) ++ bl ++ l.drop (ce l key) := by
  unfold upd; rw [ft_take hs, ft_drop hs]
theorem upd_len (l : List It) (key : List UInt8) (bl : List It) : (upd l key bl).length ≤ l.length + bl.length := by
  have : (l.filter (fun x => decide (cmpB x.k key < 0))).length + (l.filter (fun x => decide (0 < cmpB x.k key))).length ≤ l.length := by
    induction l with
    | nil => simp
    | cons x l ih =>
      simp only [List.filter_cons]
      split
      · rename_i h
        have h := of_decide_eq_true h
        rw [if_neg (by simp; omega)]
        simp; omega
      · split
        · simp; omega
        · simp; omega
  unfold upd
  simp only [List.length_append]
  omega
theorem upd_srt {l : List It} (hs : Srt l) (key : List UInt8) {bl : List It} (hb : ∀ x ∈ bl, x.k = key) (hb1 : bl.length ≤ 1) : Srt (upd l key bl) := by
  unfold upd Srt
  have hb2 : Srt bl := by
    match bl, hb1 with
    | [], _ => exact List.Pairwise.nil
    | [x], _ => exact List.pairwise_singleton _ _
  refine List.pairwise_append.2 ⟨List.pairwise_append.2 ⟨hs.sublist List.filter_sublist, hb2, ?_⟩, hs.sublist List.filter_sublist, ?_⟩
  · intro x hx y hy
    have := (List.mem_filter.1 hx).2
    rw [hb y hy]; exact of_decide_eq_true this
  · intro x hx y hy
    have h1 := of_decide_eq_true (List.mem_filter.1 hy).2
    have h2 : cmpB key y.k < 0 := by rw [cmpB_swap]; omega
    rcases List.mem_append.1 hx with hx | hx
    · exact cmpB_trans (of_decide_eq_true (List.mem_filter.1 hx).2) h2
    · rw [hb x hx]; exact h2
theorem tr_srt {pg : List (List UInt8)} {l : List It} : ∀ {ps : List Nat} {es : List It}, Tr pg (.inr l) ps es → Srt es → Srt l ∧ ∀ x ∈ l, ∃ y ∈ es, y.k = x.k := by
  induction l with
  | nil => intro ps es _ _; exact ⟨List.Pairwise.nil, by simp⟩
  | cons x l ih =>
    intro ps es h hs
    cases h with
    | cons _ _ p1 p2 e1 e2 h1 hk h2 =>
      obtain ⟨a, b⟩ := ih h2 hs.right
      obtain ⟨z, hz, hzk⟩ := Option.map_eq_some_iff.1 hk
      have hz := List.mem_of_mem_head? (Option.mem_def.2 hz)
      refine ⟨List.pairwise_cons.2 ⟨fun y hy => ?_, a⟩, fun y hy => ?_⟩
      · obtain ⟨u, hu, huk⟩ := b y hy
        have := (List.pairwise_append.1 hs).2.2 z hz u hu
        rwa [hzk, huk] at this
      · rcases List.mem_cons.1 hy with rfl | hy
        · exact ⟨z, List.mem_append.2 (.inl hz), hzk⟩
        · obtain ⟨u, hu, huk⟩ := b y hy
          exact ⟨u, List.mem_append.2 (.inr hu), huk⟩
theorem head_lo {es : List It} (hs : Srt es) {z y : It} (hz : es.head? = some z) (hy : y ∈ es) : y = z ∨ cmpB z.k y.k < 0 := by
  cases es with
  | nil => cases hz
  | cons a es =>
    obtain rfl : a = z := by simpa using hz
    rcases List.mem_cons.1 hy with rfl | hy
    · exact .inl rfl
    · exact .inr ((List.pairwise_cons.1 hs).1 y hy)
/-- Below which child a key lies. -/
theorem ci_split {pg : List (List UInt8)} {l : List It} {ps : List Nat} {es : List It} (h : Tr pg (.inr l) ps es) (hs : Srt es) {key : List UInt8} {x : It} (hx : l[ci l key]? = some x) :
    ∃ p1 px p2 e1 ex e2, Tr pg (.inr (l.take (ci l key))) p1 e1 ∧ Tr pg (.inl x.ch) px ex ∧ Tr pg (.inr (l.drop (ci l key + 1))) p2 e2 ∧ ps = p1 ++ px ++ p2 ∧ es = e1 ++ ex ++ e2 ∧
      (∀ y ∈ e1, cmpB y.k key < 0) ∧ (∀ y ∈ e2, 0 < cmpB y.k key) := by
  have hsl := (tr_srt h hs).1
  have hlt := (List.getElem?_eq_some_iff.1 hx).1
  have el : l = l.take (ci l key) ++ ([x] ++ l.drop (ci l key + 1)) := by
    have := (List.getElem?_eq_some_iff.1 hx).2
    rw [List.singleton_append, ← this, List.getElem_cons_drop, List.take_append_drop]
  have p := plc_ix hsl key
  have hA : 0 < ci l key → cmpB x.k key ≤ 0 := by
    intro h0
    unfold ci at h0 hx
    split at h0
    · rename_i hf
      rw [if_pos hf] at hx
      obtain ⟨z, hz, hk⟩ := p.fd.1 hf
      rw [hx] at hz; injection hz with hz; subst hz
      rw [hk, cmpB_self]; omega
    · rename_i hf
      rw [if_neg hf] at hx
      have := p.lo _ x (by omega) hx; omega
  have hB : ∀ z, l[ci l key + 1]? = some z → 0 < cmpB z.k key := by
    intro z hz
    refine ce_hi hsl key ?_ hz
    unfold ce ci
    split <;> omega
  have h' := h
  rw [el] at h'
  obtain ⟨p1, q, e1, f, t1, t2, rfl, rfl⟩ := h'.split
  obtain ⟨px, p2, ex, e2, t3, t4, rfl, rfl⟩ := t2.split
  obtain ⟨t3, hk⟩ := t3.one
  obtain ⟨z, hz, hzk⟩ := Option.map_eq_some_iff.1 hk
  have hzm := List.mem_of_mem_head? (Option.mem_def.2 hz)
  refine ⟨p1, px, p2, e1, ex, e2, t1, t3, t4, by simp, by simp, fun y hy => ?_, fun y hy => ?_⟩
  · have h0 : 0 < ci l key := by
      rcases Nat.eq_zero_or_pos (ci l key) with h0 | h0
      · rw [h0] at t1
        cases t1
        simp at hy
      · exact h0
    have h1 := (List.pairwise_append.1 hs).2.2 y hy z (List.mem_append.2 (.inl hzm))
    have h2 := hA h0
    rw [hzk] at h1
    rcases cmpB_cases x.k key with h3 | h3 | h3
    · exact cmpB_trans h1 (by omega)
    · rw [← cmpB_eq.1 h3]; exact h1
    · omega
  · have hs2 : Srt e2 := (Srt.right (Srt.right hs))
    rcases hd : l.drop (ci l key + 1) with _ | ⟨u, m⟩
    · rw [hd] at t4; cases t4; simp at hy
    · rw [hd] at t4
      have hu : l[ci l key + 1]? = some u := by
        have : (l.drop (ci l key + 1))[0]? = some u := by rw [hd]; rfl
        rw [List.getElem?_drop] at this; exact this
      obtain ⟨v, hv, hvk⟩ := Option.map_eq_some_iff.1 t4.hd
      have h1 := hB u hu
      rcases head_lo hs2 hv hy with rfl | h2
      · rw [hvk]; exact h1
      · rw [hvk] at h2
        have : cmpB key y.k < 0 := cmpB_trans (by rw [cmpB_swap]; omega) h2
        rw [cmpB_swap] at this; omega
theorem chg_tr {key : List UInt8} {bl : List It} (hb : ∀ x ∈ bl, ItOk 1 x) : ∀ {k n : Nat} {s : Ws} {R ps : List Nat} {es : List It}, ps.length ≤ k → Tr s.pg (.inl n) ps es → Srt es → Inv s (ps ++ R) → s.pg.length + 2 * (upd es key bl).length ≤ 4096 →
    ∃ ps', StoT s R [] (upd es key bl) (chg key bl k n s) ps' ∧ ∀ x ∈ (chg key bl k n s).1, ItOk 2 x
  | 0, n, s, R, ps, es, hk, ht, _, _, _ => by
    have := ht.ps_pos
    obtain rfl : ps = [] := List.length_eq_zero_iff.1 (by omega)
    simp at this
  | k + 1, n, s, R, ps, es, hk, ht, hs, hi, hr => by
    have hn := ht.lt n ht.ps_pos
    have hg : s.pg.getD n [] = s.pg[n]'hn := by rw [List.getD_eq_getElem?_getD, List.getElem?_eq_getElem hn]; rfl
    have h256 := hi.p256 _ (List.getElem_mem hn)
    rw [← hg] at h256
    cases ht with
    | leaf _ l hn hd =>
      have ok := dec_ok h256 hd
      rw [chg_leaf hd]
      have e := upd_eq hs key bl
      rw [e] at hr ⊢
      have hm : ∀ x ∈ es.take (ix es key) ++ bl ++ es.drop (ce es key), ItOk 1 x := mem_three (fun x hx => ok.it x (List.mem_of_mem_take hx)) hb fun x hx => ok.it x (List.mem_of_mem_drop hx)
      obtain ⟨ps', a⟩ := sto1_tr (f := (es.take (ix es key) ++ bl ++ es.drop (ce es key)).length + 1) (R := R) (Nat.le_succ _) hm (hi.sub (List.sublist_append_right _ _)) hr
      exact ⟨ps', a, (sto_ok hi.ok hm).1⟩
    | fork _ l qs _ hn hd h =>
      have ok := dec_ok h256 hd
      have hsl := (tr_srt h hs).1
      have hi2 := ci_lt hsl key (by have := ok.n1; omega)
      have hx : l[ci l key]? = some (l[ci l key]'hi2) := List.getElem?_eq_getElem hi2
      obtain ⟨x, hxe⟩ : ∃ x, l[ci l key]'hi2 = x := ⟨_, rfl⟩
      rw [hxe] at hx
      clear hxe
      rw [chg_fork hd hx]
      obtain ⟨p1, px, p2, e1, ex, e2, t1, tx, t2, rfl, rfl, lo, hi'⟩ := ci_split h hs hx
      rw [upd_mid lo hi'] at hr ⊢
      simp only [List.length_append, List.length_cons] at hr hk
      have hsx : Srt ex := hs.left.right
      obtain ⟨q, a, aok⟩ := chg_tr (key := key) hb (k := k) (n := x.ch) (s := s) (R := p1 ++ p2 ++ R) (ps := px) (es := ex) (by omega) tx hsx ((hi.sub (List.sublist_cons_self _ _)).perm (by
        show ((p1 ++ px ++ p2) ++ R).Perm (px ++ (p1 ++ p2 ++ R))
        rw [List.append_assoc, List.append_assoc, List.append_assoc]
        exact List.perm_append_comm_assoc _ _ _)) (by omega)
      have hdj : ∀ m, m ∈ p1 ∨ m ∈ p2 → m ∉ s.fr := fun m hm => (hi.ul m (by simp; rcases hm with hm | hm <;> simp [hm])).2
      have t1' := t1.ext (chg_ext (key := key) (bl := bl) (k := k) (n := x.ch)) fun m hm => hdj m (.inl hm)
      have t2' := t2.ext (chg_ext (key := key) (bl := bl) (k := k) (n := x.ch)) fun m hm => hdj m (.inr hm)
      have hm : ∀ y ∈ l.take (ci l key) ++ (chg key bl k x.ch s).1 ++ l.drop (ci l key + 1), ItOk 2 y := mem_three (fun y hy => ok.it y (List.mem_of_mem_take hy)) aok fun y hy => ok.it y (List.mem_of_mem_drop hy)
      have up1 := a.up
      simp only [List.length_nil] at up1
      have inv1 : Inv (chg key bl k x.ch s).2 (p1 ++ q ++ p2 ++ R) := a.inv.perm (by
        show (q ++ (p1 ++ p2 ++ R)).Perm (p1 ++ q ++ p2 ++ R)
        rw [List.append_assoc p1 p2, List.append_assoc (p1 ++ q), List.append_assoc p1 q]
        exact List.perm_append_comm_assoc _ _ _)
      obtain ⟨q2, b⟩ := sto2_tr (f := (l.take (ci l key) ++ (chg key bl k x.ch s).1 ++ l.drop (ci l key + 1)).length + 1) (R := R) (Nat.le_succ _) hm inv1 ((t1'.app a.tr).app t2') (by simp only [List.length_append]; omega)
      have up2 := b.up
      have e : (p1 ++ q ++ p2).length = p1.length + q.length + p2.length := by simp only [List.length_append]
      rw [e] at up2
      refine ⟨q2, ⟨b.tr, b.inv, ?_⟩, (sto_ok inv1.ok hm).1⟩
      unfold stoF
      simp only [List.length_nil]
      omega
theorem dnF_tr : ∀ {f : Nat} {l : List It} {s : Ws} {R ps : List Nat} {es : List It}, l.length ≤ f + 1 → (∀ x ∈ l, ItOk 2 x) → Inv s (ps ++ R) → Tr s.pg (.inr l) ps es → s.pg.length + 2 * es.length ≤ 4096 + ps.length → ∃ ps', StoT s R ps es (dnF f l s) ps' ∧ (dnF f l s).1.length ≤ 1
  | 0, l, s, R, ps, es, hf, _, hi, ht, hr => ⟨ps, ⟨ht, hi, Nat.le_refl _⟩, by simpa [dnF] using hf⟩
  | f + 1, l, s, R, ps, es, hf, hl, hi, ht, hr => by
    unfold dnF
    split
    · exact ⟨ps, ⟨ht, hi, Nat.le_refl _⟩, by assumption⟩
    · rename_i h1
      obtain ⟨q, a⟩ := sto2_tr (f := l.length + 1) (R := R) (Nat.le_succ _) hl hi ht hr
      have up := a.up
      have h2 := (sto_len (kind := 2) (f := l.length + 1) (s := s) hl).2 rfl (by omega)
      obtain ⟨q2, b, c⟩ := dnF_tr (f := f) (l := (stoF 2 l s).1) (s := (stoF 2 l s).2) (R := R) (by unfold stoF; omega) (sto_ok hi.ok hl).1 a.inv a.tr (by unfold stoF; omega)
      have up2 := b.up
      refine ⟨q2, ⟨b.tr, b.inv, ?_⟩, c⟩
      unfold stoF at up2 ⊢
      omega
end Go.Proofs.YtphiblmkgbkdmaaDoor.Pg
