/- How many pages changes leave that are in use no more: at most as many at each change as there are entries. -/
import Derived.Test.YtpmkohnljngbhaaGreatDoorPgLa
set_option linter.all false
namespace Go.Proofs.YtpmkohnljngbhaaGreatDoor.Pg
set_option linter.unusedVariables false
set_option linter.unusedSimpArgs false
set_option maxRecDepth 1000000

theorem Tr.inl_pos {pg : List (List UInt8)} {n : Nat} {ps : List Nat} {es : List It} (h : Tr pg (.inl n) ps es) : 1 ≤ es.length :=
  List.length_pos_iff.2 h.ne
theorem Tr.inr_pos {pg : List (List UInt8)} {l : List It} {ps : List Nat} {es : List It} (h : Tr pg (.inr l) ps es) : l.length ≤ es.length := by
  induction l generalizing ps es with
  | nil => simp
  | cons x l ih =>
    cases h with
    | cons _ _ p1 p2 e1 e2 h1 hk h2 =>
      have := ih h2
      have := h1.inl_pos
      simp only [List.length_cons, List.length_append]; omega
theorem chg_up {key : List UInt8} {bl : List It} (hb : ∀ x ∈ bl, ItOk 1 x) : ∀ {k n : Nat} {s : Ws} {R ps : List Nat} {es : List It}, ps.length ≤ k → Tr s.pg (.inl n) ps es → Srt es → Inv s (ps ++ R) → s.pg.length + 2 * (upd es key bl).length ≤ 4096 →
    ∃ ps', StoT s R [] (upd es key bl) (chg key bl k n s) ps' ∧ (∀ x ∈ (chg key bl k n s).1, ItOk 2 x) ∧ (chg key bl k n s).2.pg.length + ps.length ≤ s.pg.length + ps'.length + es.length
  | 0, n, s, R, ps, es, hk, ht, _, _, _ => by
    have := ht.ps_pos
    obtain rfl : ps = [] := List.length_eq_zero_iff.1 (by omega)
    simp at this
  | k + 1, n, s, R, ps, es, hk, ht, hs, hi, hr => by
    have hn := ht.lt n ht.ps_pos
    have hg : s.pg.getD n [] = s.pg[n]'hn := by rw [List.getD_eq_getElem?_getD, List.getElem?_eq_getElem hn]; rfl
    have h256 := hi.p256 _ (List.getElem_mem hn)
    rw [← hg] at h256
    have hpos := ht.inl_pos
    cases ht with
    | leaf _ l hn hd =>
      have ok := dec_ok h256 hd
      rw [chg_leaf hd]
      have e := upd_eq hs key bl
      rw [e] at hr ⊢
      have hm : ∀ x ∈ es.take (ix es key) ++ bl ++ es.drop (ce es key), ItOk 1 x := mem_three (fun x hx => ok.it x (List.mem_of_mem_take hx)) hb fun x hx => ok.it x (List.mem_of_mem_drop hx)
      obtain ⟨ps', a⟩ := sto1_tr (f := (es.take (ix es key) ++ bl ++ es.drop (ce es key)).length + 1) (R := R) (Nat.le_succ _) hm (hi.sub (List.sublist_append_right _ _)) hr
      have up := a.up
      simp only [List.length_nil] at up
      refine ⟨ps', a, (sto_ok hi.ok hm).1, ?_⟩
      unfold stoF
      simp only [List.length_singleton]
      omega
    | fork _ l qs _ hn hd h =>
      have ok := dec_ok h256 hd
      have hsl := (tr_srt h hs).1
      have hi2 := ci_lt hsl key (by have := ok.n1; omega)
      have hx : l[ci l key]? = some (l[ci l key]'hi2) := List.getElem?_eq_getElem hi2
      obtain ⟨x, hxe⟩ : ∃ x, l[ci l key]'hi2 = x := ⟨_, rfl⟩
      rw [hxe] at hx
      clear hxe
      rw [chg_fork hd hx]
      obtain ⟨p1, px, p2, e1, ex, e2, t1, tx, t2, rfl, rfl, lo, hi'⟩ := ci_split h hs hx
      have g1 := t1.inr_pos
      have g2 := t2.inr_pos
      rw [List.length_take] at g1
      rw [List.length_drop] at g2
      have n2 := ok.n1
      rw [upd_mid lo hi'] at hr ⊢
      simp only [List.length_append, List.length_cons] at hr hk
      have hsx : Srt ex := hs.left.right
      obtain ⟨q, a, aok, aup⟩ := chg_up (key := key) hb (k := k) (n := x.ch) (s := s) (R := p1 ++ p2 ++ R) (ps := px) (es := ex) (by omega) tx hsx ((hi.sub (List.sublist_cons_self _ _)).perm (by
        show ((p1 ++ px ++ p2) ++ R).Perm (px ++ (p1 ++ p2 ++ R))
        rw [List.append_assoc, List.append_assoc, List.append_assoc]
        exact List.perm_append_comm_assoc _ _ _)) (by omega)
      have hdj : ∀ m, m ∈ p1 ∨ m ∈ p2 → m ∉ s.fr := fun m hm => (hi.ul m (by simp; rcases hm with hm | hm <;> simp [hm])).2
      have t1' := t1.ext (chg_ext (key := key) (bl := bl) (k := k) (n := x.ch)) fun m hm => hdj m (.inl hm)
      have t2' := t2.ext (chg_ext (key := key) (bl := bl) (k := k) (n := x.ch)) fun m hm => hdj m (.inr hm)
      have hm : ∀ y ∈ l.take (ci l key) ++ (chg key bl k x.ch s).1 ++ l.drop (ci l key + 1), ItOk 2 y := mem_three (fun y hy => ok.it y (List.mem_of_mem_take hy)) aok fun y hy => ok.it y (List.mem_of_mem_drop hy)
      have up1 := a.up
      simp only [List.length_nil] at up1
      have inv1 : Inv (chg key bl k x.ch s).2 (p1 ++ q ++ p2 ++ R) := a.inv.perm (by
        show (q ++ (p1 ++ p2 ++ R)).Perm (p1 ++ q ++ p2 ++ R)
        rw [List.append_assoc p1 p2, List.append_assoc (p1 ++ q), List.append_assoc p1 q]
        exact List.perm_append_comm_assoc _ _ _)
      obtain ⟨q2, b⟩ := sto2_tr (f := (l.take (ci l key) ++ (chg key bl k x.ch s).1 ++ l.drop (ci l key + 1)).length + 1) (R := R) (Nat.le_succ _) hm inv1 ((t1'.app a.tr).app t2') (by simp only [List.length_append]; omega)
      have up2 := b.up
      have e : (p1 ++ q ++ p2).length = p1.length + q.length + p2.length := by simp only [List.length_append]
      rw [e] at up2
      refine ⟨q2, ⟨b.tr, b.inv, ?_⟩, (sto_ok inv1.ok hm).1, ?_⟩
      · unfold stoF
        simp only [List.length_nil]
        omega
      · have e4 : (n :: (p1 ++ px ++ p2)).length = p1.length + px.length + p2.length + 1 := by simp only [List.length_append, List.length_cons]
        have e5 : (e1 ++ ex ++ e2).length = e1.length + ex.length + e2.length := by simp only [List.length_append]
        rw [e4, e5]
        unfold stoF
        omega
/-- The pages of a changed file. -/
theorem out_up {F : Fi} {fr : List Nat} {es : List It} {a : List It × Ws} {ps qs : List Nat} (hf : F.free = nat_int fr) (ha : StoT ⟨F.pg, fr, false⟩ [] [] es a ps) (hk : ∀ x ∈ a.1, ItOk 2 x) (hl : a.1.length ≤ 1001)
    (hr : F.pg.length + 2 * es.length ≤ 4096) (hq : Fok (outF a) qs es) : (outF a).pg.length + ps.length ≤ a.2.pg.length + qs.length := by
  have up := ha.up
  simp only [List.length_nil] at up
  obtain ⟨q, b, c⟩ := dnF_tr (f := 1000) (l := a.1) (s := a.2) (R := []) (ps := ps) hl hk ha.inv ha.tr (by omega)
  have up2 := b.up
  have ht := b.tr
  have htr := hq.tr
  have hi := b.inv
  rw [List.append_nil] at hi
  have e : q.length = qs.length := by
    obtain ⟨s, hs, _, hp⟩ := hq.rok
    have hfk : Fok (outF a) q es := by
      refine ⟨hq.shp, ?_, hi.nd, fun m hm h2 => (hi.ul m hm).2 (mem_ni.1 h2), hq.srt⟩
      rcases hd : (dnF 1000 a.1 a.2).1 with _ | ⟨x, _ | ⟨y, l⟩⟩
      · rw [hd] at ht
        cases ht
        exact .no (by show rootOf (dnF 1000 a.1 a.2).1 < 0; rw [hd]; decide)
      · rw [hd] at ht
        have ht := ht.one.1
        refine .yes _ _ (by show 0 ≤ rootOf (dnF 1000 a.1 a.2).1; rw [hd]; simp [rootOf]) ?_
        show Tr (dnF 1000 a.1 a.2).2.pg (.inl (rootOf (dnF 1000 a.1 a.2).1).toNat) q es
        rw [hd]; simpa [rootOf] using ht
      · rw [hd] at c; simp at c
    rw [← hp.length_eq, (hfk.at_ hs).2.length_eq]
  show (dnF 1000 a.1 a.2).2.pg.length + _ ≤ _
  omega
theorem Trt.cnt {pg : List (List UInt8)} {root : Int} {ps : List Nat} {es : List It} (h : Trt pg root ps es) : ps.length ≤ 2 * es.length := by
  cases h with
  | no => simp
  | yes _ _ _ ht => have := ht.cnt; simp only [nAt] at this; omega
theorem put_up {F G : Fi} {ps : List Nat} {es : List It} {key value : List UInt8} {er : Int} (h : Fok F ps es) (hl : lenKV key value) (hr : F.pg.length + 2 * (upd es key [⟨key, value, 0⟩]).length ≤ 4096) (ho : PutO F key value G er) :
    er = 0 ∧ ∃ qs, Fok G qs (upd es key [⟨key, value, 0⟩]) ∧ G.pg.length + ps.length ≤ F.pg.length + qs.length + es.length := by
  obtain ⟨h0, ⟨qs, hq⟩, _⟩ := put_law h hl hr ho
  refine ⟨h0, qs, hq, ?_⟩
  have hb : ∀ x ∈ [(⟨key, value, 0⟩ : It)], ItOk 1 x := fun x hx => by obtain rfl : x = _ := by simpa using hx
                                                                       exact item_ok hl
  have main : ∀ fr : List Nat, F.free = nat_int fr → Fok (outF (putA F fr key value)) qs (upd es key [⟨key, value, 0⟩]) → (outF (putA F fr key value)).pg.length + ps.length ≤ F.pg.length + qs.length + es.length := by
    intro fr hf hq
    have hi := h.inv hf
    cases h.tr with
    | no hneg =>
      have e : upd [] key [⟨key, value, 0⟩] = [⟨key, value, 0⟩] := rfl
      rw [e] at hr hq
      have ea : putA F fr key value = stoF 1 [⟨key, value, 0⟩] ⟨F.pg, fr, false⟩ := by unfold putA; rw [if_pos hneg]
      rw [ea] at hq ⊢
      obtain ⟨q, a⟩ := sto1_tr (f := 2) (l := [(⟨key, value, 0⟩ : It)]) (s := ⟨F.pg, fr, false⟩) (R := []) (by simp) hb hi hr
      have u := out_up hf a (sto_ok hi.ok hb).1 (Nat.le_trans (sto_len (kind := 1) (f := 2) (s := ⟨F.pg, fr, false⟩) hb).1 (by simp)) hr hq
      have up := a.up
      simp only [List.length_nil] at up
      have u' : (outF (stoF 1 [⟨key, value, 0⟩] ⟨F.pg, fr, false⟩)).pg.length + q.length ≤ (sto 1 2 [(⟨key, value, 0⟩ : It)] ⟨F.pg, fr, false⟩).2.pg.length + qs.length := u
      simp only [List.length_nil]
      omega
    | yes _ _ hpos ht =>
      have ea : putA F fr key value = chg key [⟨key, value, 0⟩] (F.pg.length + 1) F.root.toNat ⟨F.pg, fr, false⟩ := by unfold putA; rw [if_neg (by omega)]
      rw [ea] at hq ⊢
      obtain ⟨q, a, b, up⟩ := chg_up (key := key) hb (k := F.pg.length + 1) (s := ⟨F.pg, fr, false⟩) (R := []) (by have := nodup_le h.nd ht.lt; omega) ht h.srt (by rw [List.append_nil]; exact hi) hr
      have c := (chg_ok (key := key) hb (by simp) (fok_pok h.vld (by omega) key) hi.ok).2.2
      have u := out_up hf a b (by omega) hr hq
      simp only at up
      omega
  cases ho with
  | arg hn => exact absurd hl hn
  | log _ hn => exact absurd h.vld hn
  | full fr hf _ _ hfull => cases h0
  | ok fr hf _ _ _ => exact main fr hf hq
theorem del_up {F G : Fi} {ps : List Nat} {es : List It} {key : List UInt8} {er : Int} (h : Fok F ps es) (hl : lenK key) (hr : F.pg.length + 2 * es.length ≤ 4096) (ho : DelO F key G er) :
    (lkp es key = none ∧ G = zeroF ∧ er = 7) ∨ ((∃ v, lkp es key = some v) ∧ er = 0 ∧ ∃ qs, Fok G qs (upd es key []) ∧ G.pg.length + ps.length ≤ F.pg.length + qs.length + es.length) := by
  rcases del_law h hl hr ho with h1 | ⟨hv, h0, ⟨qs, hq⟩, _⟩
  · exact .inl h1
  refine .inr ⟨hv, h0, qs, hq, ?_⟩
  have hul := upd_len es key []
  simp only [List.length_nil] at hul
  have main : ∀ fr : List Nat, F.free = nat_int fr → Fok (outF (delA F fr key)) qs (upd es key []) → (outF (delA F fr key)).pg.length + ps.length ≤ F.pg.length + qs.length + es.length := by
    intro fr hf hq
    have hi := h.inv hf
    cases h.tr with
    | no hneg => obtain ⟨v, hv⟩ := hv; cases hv
    | yes _ _ hpos ht =>
      have ea : delA F fr key = chg key [] (F.pg.length + 1) F.root.toNat ⟨F.pg, fr, false⟩ := rfl
      rw [ea] at hq ⊢
      obtain ⟨q, a, b, up⟩ := chg_up (key := key) (bl := []) (by simp) (k := F.pg.length + 1) (s := ⟨F.pg, fr, false⟩) (R := []) (by have := nodup_le h.nd ht.lt; omega) ht h.srt (by rw [List.append_nil]; exact hi) (by show F.pg.length + _ ≤ _; omega)
      have c := (chg_ok (key := key) (bl := []) (by simp) (by simp) (fok_pok h.vld (by omega) key) hi.ok).2.2
      have u := out_up hf a b (by omega) (by omega) hq
      simp only at up
      omega
  cases ho with
  | err d er hg he =>
    rcases get_law h hg with ⟨h1, _⟩ | ⟨_, h1, _⟩ | ⟨_, h1, h2⟩
    · exact absurd hl h1
    · obtain ⟨v, hv⟩ := hv; rw [h1] at hv; cases hv
    · exact absurd h2 he
  | full _ _ d hg _ => cases h0
  | ok fr hf d hg _ => exact main fr hf hq
/-- A file behind j changes. -/
structure Gok (F : Fi) (es : List It) (j : Nat) : Prop where
  ok : ∃ ps, Fok F ps es ∧ 2 * F.pg.length ≤ 2 * ps.length + j * j
  n : es.length ≤ j
theorem gok_new : Gok ⟨[], -1, []⟩ [] 0 := ⟨⟨[], fok_new, by simp⟩, by simp⟩
theorem Gok.room {F : Fi} {es : List It} {j : Nat} (h : Gok F es j) (hj : j ≤ 72) : F.pg.length + 2 * (j + 1) ≤ 4096 := by
  obtain ⟨ps, h1, h2⟩ := h.ok
  have h3 := h1.tr.cnt
  have h4 := h.n
  have h5 : j * j ≤ 72 * 72 := Nat.mul_le_mul hj hj
  omega
theorem Gok.step {F G : Fi} {es fs : List It} {j : Nat} {ps : List Nat} (h2 : 2 * F.pg.length ≤ 2 * ps.length + j * j) (hn : es.length ≤ j) (hf : ∃ qs, Fok G qs fs ∧ G.pg.length + ps.length ≤ F.pg.length + qs.length + es.length) (hm : fs.length ≤ j + 1) : Gok G fs (j + 1) := by
  obtain ⟨qs, a, b⟩ := hf
  refine ⟨⟨qs, a, ?_⟩, hm⟩
  have : (j + 1) * (j + 1) = j * j + 2 * j + 1 := by rw [Nat.mul_add, Nat.add_mul]; omega
  omega
theorem put_gok {F G : Fi} {es : List It} {j : Nat} {key value : List UInt8} {er : Int} (h : Gok F es j) (hj : j ≤ 72) (hl : lenKV key value) (ho : PutO F key value G er) : er = 0 ∧ Gok G (upd es key [⟨key, value, 0⟩]) (j + 1) := by
  have hr := h.room hj
  obtain ⟨ps, h1, h2⟩ := h.ok
  have hn := upd_len es key [⟨key, value, 0⟩]
  simp only [List.length_cons, List.length_nil] at hn
  have h4 := h.n
  obtain ⟨a, b⟩ := put_up h1 hl (by omega) ho
  exact ⟨a, Gok.step h2 h4 b (by omega)⟩
theorem del_gok {F G : Fi} {es : List It} {j : Nat} {key : List UInt8} {er : Int} (h : Gok F es j) (hj : j ≤ 72) (hl : lenK key) (ho : DelO F key G er) :
    (lkp es key = none ∧ G = zeroF ∧ er = 7) ∨ ((∃ v, lkp es key = some v) ∧ er = 0 ∧ Gok G (upd es key []) (j + 1)) := by
  have hr := h.room hj
  obtain ⟨ps, h1, h2⟩ := h.ok
  have hn := upd_len es key []
  simp only [List.length_nil] at hn
  have h4 := h.n
  rcases del_up h1 hl (by omega) ho with a | ⟨a, b, c⟩
  · exact .inl a
  · exact .inr ⟨a, b, Gok.step h2 h4 c (by omega)⟩
theorem Gok.same {F : Fi} {es : List It} {j : Nat} (h : Gok F es j) : Gok F es (j + 1) := by
  obtain ⟨ps, h1, h2⟩ := h.ok
  have : (j + 1) * (j + 1) = j * j + 2 * j + 1 := by rw [Nat.mul_add, Nat.add_mul]; omega
  exact ⟨⟨ps, h1, by omega⟩, by have := h.n; omega⟩
theorem Gok.srt {F : Fi} {es : List It} {j : Nat} (h : Gok F es j) : Srt es := by obtain ⟨ps, h1, _⟩ := h.ok; exact h1.srt
theorem Gok.vld {F : Fi} {es : List It} {j : Nat} (h : Gok F es j) : Vld F := by obtain ⟨ps, h1, _⟩ := h.ok; exact h1.vld
theorem gk_sub_le : ∀ (l m : List Nat), l.Nodup → (∀ x ∈ l, x ∈ m) → l.length ≤ m.length
  | [], m, _, _ => by simp
  | x :: l, m, hn, hs => by
    have hn' := List.nodup_cons.1 hn
    have hx := hs x (by simp)
    have := gk_sub_le l (m.erase x) hn'.2 fun y hy => (List.mem_erase_of_ne (fun e => hn'.1 (by rw [← e]; exact hy))).2 (hs y (List.mem_cons_of_mem _ hy))
    rw [List.length_erase_of_mem hx] at this
    have := List.length_pos_of_mem hx
    simp only [List.length_cons]; omega
theorem gk_out_len {n : Nat} {S : List Nat} (h1 : S.Nodup) (h2 : ∀ x ∈ S, x < n) : ((List.range n).filter fun m => decide (m ∉ S)).length + S.length = n := by
  have a : ((List.range n).filter fun m => decide (m ∈ S)).length = S.length := by
    apply Nat.le_antisymm
    · exact gk_sub_le _ _ (List.nodup_range.filter _) fun x hx => by simpa using (List.mem_filter.1 hx).2
    · exact gk_sub_le _ _ h1 fun x hx => List.mem_filter.2 ⟨List.mem_range.2 (h2 x hx), by simpa using hx⟩
  have b := List.length_eq_countP_add_countP (fun m => decide (m ∈ S)) (l := List.range n)
  rw [List.countP_eq_length_filter, List.countP_eq_length_filter, a, List.length_range] at b
  have e : (fun m => decide (m ∉ S)) = fun a => decide ¬decide (a ∈ S) = true := by funext m; simp
  rw [e]; omega
/-- What is found behind a change. -/
theorem lkp_mem {l : List It} (hs : Srt l) {x : It} (h : x ∈ l) : lkp l x.k = some x.v := by
  obtain ⟨i, hi⟩ := List.mem_iff_getElem?.1 h
  exact lkp_some hs hi rfl
theorem lkp_mem_iff {l : List It} {key v : List UInt8} (h : lkp l key = some v) : ∃ x ∈ l, x.k = key ∧ x.v = v := by
  unfold lkp at h
  obtain ⟨x, hx, rfl⟩ := Option.map_eq_some_iff.1 h
  exact ⟨x, List.mem_of_find?_eq_some hx, by simpa using List.find?_some hx, rfl⟩
theorem mem_upd {l : List It} {key : List UInt8} {bl : List It} {x : It} : x ∈ upd l key bl ↔ (x ∈ l ∧ x.k ≠ key) ∨ x ∈ bl := by
  unfold upd
  simp only [List.mem_append, List.mem_filter, decide_eq_true_eq]
  constructor
  · rintro ((⟨h1, h2⟩ | h) | ⟨h1, h2⟩)
    · exact .inl ⟨h1, fun e => by rw [e, cmpB_self] at h2; omega⟩
    · exact .inr h
    · exact .inl ⟨h1, fun e => by rw [e, cmpB_self] at h2; omega⟩
  · rintro (⟨h1, h2⟩ | h)
    · rcases cmpB_cases x.k key with h3 | h3 | h3
      · exact .inl (.inl ⟨h1, by omega⟩)
      · exact absurd (cmpB_eq.1 h3) h2
      · exact .inr ⟨h1, by omega⟩
    · exact .inl (.inr h)
theorem lkp_put {l : List It} (hs : Srt l) (key value : List UInt8) (k2 : List UInt8) : lkp (upd l key [⟨key, value, 0⟩]) k2 = if key = k2 then some value else lkp l k2 := by
  have hs2 : Srt (upd l key [⟨key, value, 0⟩]) := upd_srt hs key (fun x hx => by rw [List.mem_singleton.1 hx]) (by simp)
  split
  · rename_i e
    subst e
    exact lkp_mem hs2 (x := ⟨key, value, 0⟩) (mem_upd.2 (.inr (by simp)))
  · rename_i e
    rcases ho : lkp l k2 with _ | v
    · refine lkp_none fun x hx ek => ?_
      rcases mem_upd.1 hx with ⟨h1, _⟩ | h1
      · have := lkp_mem hs h1; rw [ek, ho] at this; cases this
      · obtain rfl := List.mem_singleton.1 h1
        exact e ek
    · obtain ⟨x, hx, rfl, rfl⟩ := lkp_mem_iff ho
      exact lkp_mem hs2 (mem_upd.2 (.inl ⟨hx, fun h => e h.symm⟩))
theorem lkp_del {l : List It} (hs : Srt l) (key : List UInt8) (k2 : List UInt8) : lkp (upd l key []) k2 = if key = k2 then none else lkp l k2 := by
  have hs2 : Srt (upd l key []) := upd_srt hs key (by simp) (by simp)
  split
  · rename_i e
    subst e
    refine lkp_none fun x hx ek => ?_
    rcases mem_upd.1 hx with ⟨_, h2⟩ | h1
    · exact h2 ek
    · cases h1
  · rename_i e
    rcases ho : lkp l k2 with _ | v
    · refine lkp_none fun x hx ek => ?_
      rcases mem_upd.1 hx with ⟨h1, _⟩ | h1
      · have := lkp_mem hs h1; rw [ek, ho] at this; cases this
      · cases h1
    · obtain ⟨x, hx, rfl, rfl⟩ := lkp_mem_iff ho
      exact lkp_mem hs2 (mem_upd.2 (.inl ⟨hx, fun h => e h.symm⟩))
end Go.Proofs.YtpmkohnljngbhaaGreatDoor.Pg
