/- Older roots and Reclaim, plainly. -/
import Derived.Test.YtphiblmkgbkdmaaDoorPgRd
namespace Go.Proofs.YtphiblmkgbkdmaaDoor.Pg
set_option linter.unusedVariables false
set_option linter.unusedSimpArgs false

theorem Stp.trans {F G H : Fi} (a : Stp F G) (b : Stp G H) : Stp F H :=
  ⟨Nat.le_trans a.le b.le, fun m h1 h2 => (b.pg m (Nat.lt_of_lt_of_le h1 a.le) fun h => h2 (a.fr _ h)).trans (a.pg m h1 h2), fun x hx => a.fr x (b.fr x hx), b.shp⟩
/-- An older root, and the entries below it. -/
structure Oo (F : Fi) (root : Int) (es : List It) : Prop where
  ex : ∃ (Fo : Fi) (jo : Nat), Sok Fo es jo ∧ Fo.root = root ∧ Stp Fo F ∧ jo ≤ 60
theorem Oo.step {F G : Fi} {root : Int} {es : List It} (h : Oo F root es) (s : Stp F G) : Oo G root es := by
  obtain ⟨Fo, jo, h1, h2, h3, h4⟩ := h.ex
  exact ⟨Fo, jo, h1, h2, h3.trans s, h4⟩
theorem Oo.now {F : Fi} {es : List It} {j : Nat} (h : Sok F es j) (hj : j ≤ 60) : Oo F F.root es := ⟨F, j, h, rfl, .refl h.shp, hj⟩
theorem Oo.srt {F : Fi} {root : Int} {es : List It} (h : Oo F root es) : Srt es := by
  obtain ⟨Fo, jo, h1, _⟩ := h.ex
  exact h1.srt
theorem Oo.len {F : Fi} {root : Int} {es : List It} (h : Oo F root es) : es.length ≤ 60 := by
  obtain ⟨Fo, jo, h1, _, _, h4⟩ := h.ex
  have := h1.n; omega
theorem Oo.fok {F : Fi} {root : Int} {es : List It} (h : Oo F root es) : (∃ ps, Fok ⟨F.pg, root, []⟩ ps es) ∧ -1 ≤ root ∧ root < F.pg.length := by
  obtain ⟨Fo, jo, h1, rfl, h3, _⟩ := h.ex
  obtain ⟨ps, hf⟩ := h1.ok
  exact ⟨⟨ps, old_fok hf h3.le h3.pg h3.shp⟩, hf.shp.r1, by have := hf.shp.r2; have := h3.le; omega⟩
theorem Oo.rok {F : Fi} {root : Int} {es : List It} (h : Oo F root es) : ∃ t : St, Rok F.pg [] root t := by
  obtain ⟨⟨ps, hf⟩, _⟩ := h.fok
  obtain ⟨t, ht, _⟩ := hf.rok
  exact ⟨t, ht⟩
/-- A sound file with other free pages. -/
theorem fok_free {F : Fi} {ps : List Nat} {es : List It} (h : Fok F ps es) {fr : List Nat} (h1 : ∀ x ∈ fr, x < F.pg.length) (h2 : fr.Pairwise (· < ·)) (h3 : ∀ x ∈ fr, x ∉ ps) : Fok ⟨F.pg, F.root, nat_int fr⟩ ps es := by
  refine ⟨⟨h.shp.n4, h.shp.r1, h.shp.r2, h.shp.p256, ni_frok h1 h2 fun x hx e => ?_⟩, h.tr, h.nd, fun m hm hx => h3 m (mem_ni.1 hx) hm, h.srt⟩
  apply h3 x hx
  have e : (x : Int) = F.root := e
  cases h.tr with
  | no h0 => omega
  | yes _ _ h0 ht =>
    have := ht.ps_pos
    rwa [← e, Int.toNat_natCast] at this
theorem sub_le : ∀ (l m : List Nat), l.Nodup → (∀ x ∈ l, x ∈ m) → l.length ≤ m.length
  | [], m, _, _ => by simp
  | x :: l, m, hn, hs => by
    have hn' := List.nodup_cons.1 hn
    have hx := hs x (by simp)
    have := sub_le l (m.erase x) hn'.2 fun y hy => (List.mem_erase_of_ne (fun e => hn'.1 (by rw [← e]; exact hy))).2 (hs y (List.mem_cons_of_mem _ hy))
    rw [List.length_erase_of_mem hx] at this
    have := List.length_pos_of_mem hx
    simp only [List.length_cons]; omega
theorem out_len {n : Nat} {S : List Nat} (h1 : S.Nodup) (h2 : ∀ x ∈ S, x < n) : ((List.range n).filter fun m => decide (m ∉ S)).length = n - S.length := by
  have a : ((List.range n).filter fun m => decide (m ∈ S)).length = S.length := by
    apply Nat.le_antisymm
    · exact sub_le _ _ (List.nodup_range.filter _) fun x hx => by simpa using (List.mem_filter.1 hx).2
    · exact sub_le _ _ h1 fun x hx => List.mem_filter.2 ⟨List.mem_range.2 (h2 x hx), by simpa using hx⟩
  have b := List.length_eq_countP_add_countP (fun m => decide (m ∈ S)) (l := List.range n)
  rw [List.countP_eq_length_filter, List.countP_eq_length_filter, a, List.length_range] at b
  have e : (fun m => decide (m ∉ S)) = fun a => decide ¬decide (a ∈ S) = true := by funext m; simp
  rw [e]; omega
theorem chk_fok' {F : Fi} {ps : List Nat} {es : List It} {k : Nat} {e : Int} (h : Fok F ps es) (c : ChkO F k e) : e = 0 ∧ k = ps.length := by
  cases c with
  | bad hv => exact absurd h.vld hv
  | ok s hs hr => exact ⟨rfl, (h.at_ hr).2.length_eq⟩
/-- What both calls of Reclaim leave. -/
theorem rcl_two {F A B : Fi} {es eo : List It} {j k : Nat} {root e : Int} (h : Sok F es j) (o : Oo F root eo) (a : Rcl F A) (b : Rc2 F root B) (c : ChkO F k e) :
    e = 0 ∧ (∃ ps, Fok A ps es) ∧ (∃ ps, Fok B ps es) ∧ (A.free.length : Int) = (F.pg.length : Int) - k ∧ B.free.length ≤ A.free.length ∧ (∀ x ∈ B.free, x ∈ A.free) ∧ A.root = F.root ∧ B.root = F.root ∧ A.pg.length = F.pg.length ∧ k ≤ F.pg.length := by
  obtain ⟨ps, hf⟩ := h.ok
  obtain ⟨rfl, hk⟩ := chk_fok' hf c
  obtain ⟨s, hs, he, hp⟩ := hf.rok
  obtain ⟨t, ht⟩ := o.rok
  have fa := a.fr s hs
  have fb := b.fr s t hs ht
  have ri := hs.items hf.shp.p256
  have hla : A.free.length = F.pg.length - k := by
    rw [fa]; unfold nat_int; rw [List.length_map, out_len ri.nd ri.lt, hp.length_eq, hk]
  have hkl : k ≤ F.pg.length := by rw [hk, ← hp.length_eq]; exact ri.sz
  have hFb : B = ⟨F.pg, F.root, nat_int ((List.range F.pg.length).filter fun m => decide (m ∉ s.1 ∧ m ∉ t.1))⟩ := by
    obtain ⟨x, y, z⟩ := B
    have h1 := b.pg; have h2 := b.root_
    dsimp only at h1 h2 fb
    rw [h1, h2, fb]
  refine ⟨rfl, ⟨ps, (rcl_fok hf a).1⟩, ⟨ps, ?_⟩, by rw [hla]; omega, ?_, ?_, a.root, b.root_, by rw [a.pg], hkl⟩
  · rw [hFb]
    exact fok_free hf (fun x hx => List.mem_range.1 (List.mem_filter.1 hx).1) (List.pairwise_lt_range.filter _) fun x hx hps => by
      have := (List.mem_filter.1 hx).2
      simp only [decide_eq_true_iff] at this
      exact this.1 (hp.mem_iff.2 hps)
  · rw [fa, fb]; unfold nat_int; rw [List.length_map, List.length_map, ← List.countP_eq_length_filter, ← List.countP_eq_length_filter]
    exact List.countP_mono_left fun x _ hx => by simp only [decide_eq_true_iff] at hx ⊢; exact hx.1
  · intro x hx
    rw [fb] at hx
    rw [fa]
    unfold nat_int at hx ⊢
    obtain ⟨m, hm, rfl⟩ := List.mem_map.1 hx
    have hm := List.mem_filter.1 hm
    refine List.mem_map.2 ⟨m, List.mem_filter.2 ⟨hm.1, ?_⟩, rfl⟩
    have := hm.2
    simp only [decide_eq_true_iff] at this ⊢
    exact this.1
/-- An older root is read in what Reclaim leaves. -/
theorem old_rc2 {F B : Fi} {root : Int} {eo : List It} {key d : List UInt8} {er : Int} (o : Oo F root eo) (b : Rc2 F root B) (hk : lenK key) (h : OldO B root key d er) : (lkp eo key = none ∧ d = [] ∧ er = 7) ∨ (lkp eo key = some d ∧ er = 0) := by
  obtain ⟨⟨ps, hf⟩, h1, h2⟩ := o.fok
  cases h with
  | arg hn => exact absurd ⟨hk, h1, by rw [b.pg]; exact h2⟩ hn
  | get _ _ _ hg =>
    rw [b.pg] at hg
    rcases get_law hf hg with ⟨h1, _⟩ | ⟨_, h1, h2, h3⟩ | ⟨_, h1, h2⟩
    · exact absurd hk h1
    · exact .inl ⟨h1, h2, h3⟩
    · exact .inr ⟨h1, h2⟩
end Go.Proofs.YtphiblmkgbkdmaaDoor.Pg
