/- Walk of leap.Parse, in general. -/
import Derived.Test.YtplgladflhglaaaLeapA
import Derived.Test.YtplgladflhglaaaLeapR
import Derived.Test.YtplgladflhglaaaLeapQ
namespace Go.Proofs.Ytplgladflhglaaa.Lp
set_option linter.unusedVariables false
set_option linter.unusedSimpArgs false
open Go.RowKit Go.Shelf
attribute [local go_sem] Oper.semAt_some

theorem prs_dl_t {c : ByteArray} (h : (M.dl c).2 = true) : (M.prs c).2 = 0 ∧ M.dy (M.prs c).1.1 (M.prs c).1.2.1 (M.prs c).1.2.2 = (M.dl c).1 := by
  rcases hf : M.form c with _ | _
  · unfold M.dl at h; rw [if_neg (by simp [hf])] at h; cases h
  · rcases hv : M.vld (M.pn c 0 4) (M.pn c 5 2) (M.pn c 8 2) with _ | _
    · unfold M.dl at h; rw [if_pos hf] at h; simp only [] at h; rw [hv] at h; cases h
    · rw [M.prs_0 hf hv]; unfold M.dl; rw [if_pos hf]; exact ⟨rfl, rfl⟩
theorem prs_dl_f {c : ByteArray} (h : (M.dl c).2 = false) : (M.prs c).2 = 1 ∨ (M.prs c).2 = 3 := by
  rcases hf : M.form c with _ | _
  · rw [M.prs_3 hf]; exact .inr rfl
  · rcases hv : M.vld (M.pn c 0 4) (M.pn c 5 2) (M.pn c 8 2) with _ | _
    · rw [M.prs_1 hf hv]; exact .inl rfl
    · unfold M.dl at h; rw [if_pos hf] at h; simp only [] at h; rw [hv] at h; cases h

/-- The state of leap.Parse behind the lines l. -/
structure LI (w wr : World) (l : List ByteArray) : Prop where
  bel : Below w.heap.size w wr
  sz : w.heap.size + 4 ≤ wr.heap.size
  f0 : wr.frozen? ⟨w.heap.size, 0, none⟩ = false
  f1 : wr.frozen? ⟨w.heap.size + 1, 0, none⟩ = false
  f2 : wr.frozen? ⟨w.heap.size + 2, 0, none⟩ = false
  c0 : ∃ v, wr.cell? ⟨w.heap.size, 0, none⟩ = some v
  c1 : ∃ v, wr.cell? ⟨w.heap.size + 1, 0, none⟩ = some v
  ct : ∃ v, wr.cell? ⟨w.heap.size + 2, 0, none⟩ = some v ∧ wr.ownsRow (w.heap.size + 4) 43 2 v l.length (cl (stA l) l.length)
theorem LI.below {w wr wk : World} {l : List ByteArray} (h : LI w wr l) (hb : Below wr.heap.size wr wk) : LI w wk l := by
  obtain ⟨h1, h2, h3, h4, h5, ⟨v, h6⟩, ⟨v', h7⟩, ⟨u, h8, h9⟩⟩ := h
  obtain ⟨bc, bf⟩ := bcell hb
  exact ⟨h1.trans (hb.mono h1.size), Nat.le_trans h2 hb.size, (bf _ _ (by omega)).trans h3, (bf _ _ (by omega)).trans h4, (bf _ _ (by omega)).trans h5, ⟨v, (bc _ _ (by omega)).trans h6⟩, ⟨v', (bc _ _ (by omega)).trans h7⟩, ⟨u, (bc _ _ (by omega)).trans h8, own_below h9 hb⟩⟩
theorem LI.alloc {w wr : World} {l : List ByteArray} (h : LI w wr l) (o : Obj) : LI w (wr.alloc o) l := h.below ((Below.refl _ _).alloc (Nat.le_refl _) _)
theorem own_other {W W' : World} {base n : Nat} {v : Value} {xs : List Value} (h : W.ownsRow base 43 2 v n xs) (hb : ∀ g o, base ≤ g → W.heap[g]? = some o → o.isCells = true → W'.heap[g]? = some o) : W'.ownsRow base 43 2 v n xs := by
  obtain ⟨h1, h | ⟨g, cap, cur, e, hg, hh, rest⟩⟩ := h
  · exact ⟨h1, .inl h⟩
  · exact ⟨h1, .inr ⟨g, cap, cur, e, hg, hb g _ hg hh rfl, rest⟩⟩
theorem LI.put {w W : World} {pre : List ByteArray} {l : Nat} {o o' : Obj} (h : LI w W pre) (hl : w.heap.size + 4 ≤ l) (ho : W.heap[l]? = some o) (hc : o.isCells = false) (hw : o.isWalk = false) : LI w (W.putObj l o') pre := by
  obtain ⟨h1, h2, h3, h4, h5, ⟨v1, h6⟩, ⟨v2, h7⟩, ⟨u, h8, h9⟩⟩ := h
  refine ⟨h1.trans (belowK_b (w := w) (Nat.le_refl _) W l o o' (by omega) ho hc hw), by simpa using h2, ?_, ?_, ?_, ⟨v1, ?_⟩, ⟨v2, ?_⟩, ⟨u, ?_, own_other h9 fun g p _ hg hp => ?_⟩⟩
  · rw [putObj_frozen (by show w.heap.size ≠ l; omega)]; exact h3
  · rw [putObj_frozen (by show w.heap.size + 1 ≠ l; omega)]; exact h4
  · rw [putObj_frozen (by show w.heap.size + 2 ≠ l; omega)]; exact h5
  · rw [putObj_cell (by show w.heap.size ≠ l; omega)]; exact h6
  · rw [putObj_cell (by show w.heap.size + 1 ≠ l; omega)]; exact h7
  · rw [putObj_cell (by show w.heap.size + 2 ≠ l; omega)]; exact h8
  · rw [World.putObj_heap_other (fun e => by subst e; rw [hg] at ho; cases ho; rw [hp] at hc; cases hc)]; exact hg
theorem LI.box {w W : World} {pre : List ByteArray} (h : LI w W pre) (v : Value) : LI w (W.setCell ⟨w.heap.size + 3, 0, none⟩ v) pre := by
  obtain ⟨h1, h2, h3, h4, h5, ⟨v1, h6⟩, ⟨v2, h7⟩, ⟨u, h8, h9⟩⟩ := h
  refine ⟨h1.setCell (by simp) _, by simpa [World.setCell] using h2, ?_, ?_, ?_, ⟨v1, ?_⟩, ⟨v2, ?_⟩, ⟨u, ?_, own_other h9 fun g p hlt hg hp => ?_⟩⟩
  · rw [World.frozen?_setCell]; exact h3
  · rw [World.frozen?_setCell]; exact h4
  · rw [World.frozen?_setCell]; exact h5
  · rw [setCell_other (by show w.heap.size ≠ w.heap.size + 3; omega)]; exact h6
  · rw [setCell_other (by show w.heap.size + 1 ≠ w.heap.size + 3; omega)]; exact h7
  · rw [setCell_other (by show w.heap.size + 2 ≠ w.heap.size + 3; omega)]; exact h8
  · rw [Below.heap_setCell W ⟨w.heap.size + 3, 0, none⟩ v g (by show g ≠ w.heap.size + 3; omega)]; exact hg
theorem Tab.put {W : World} {sl : Option Addr} {n b o l : Nat} {A T : Nat → Int} {p p' : Obj} (h : Tab W sl n b o A T) (ho : W.heap[l]? = some p) (hc : p.isCells = false) : Tab (W.putObj l p') sl n b o A T :=
  ⟨h.sl, fun h0 => by simpa using h.lt h0, fun i hi => (putObj_cell (cell_ne (h.cA i hi) ho hc)).trans (h.cA i hi), fun i hi => (putObj_cell (cell_ne (h.cT i hi) ho hc)).trans (h.cT i hi), h.bA, h.bT, h.n62⟩
/-- Behind an append and the store of the new slice. -/
theorem LI.push {w W1 w3 : World} {l : List ByteArray} {c : ByteArray} {v v' : Value} {xs : List Value} {o : Obj} (h : LI w W1 l) (hv : W1.cell? ⟨w.heap.size + 2, 0, none⟩ = some v) (hown : W1.ownsRow (w.heap.size + 4) 43 2 v l.length (cl (stA l) l.length))
    (hown' : w3.ownsRow (w.heap.size + 4) 43 2 v' (l.length + 1) xs) (hxs : xs = cl (stA (l ++ [c])) (l ++ [c]).length) (hg : (W1.alloc o).grownBy w3 v.ownBlock) :
    LI w (w3.setCell ⟨w.heap.size + 1 + 1, 0, none⟩ v') (l ++ [c]) ∧ w3.cell? ⟨w.heap.size + 1 + 1, 0, none⟩ = some v ∧ w3.frozen? ⟨w.heap.size + 1 + 1, 0, none⟩ = false ∧
    Others W1 (w3.setCell ⟨w.heap.size + 1 + 1, 0, none⟩ v') ∧ (w3.setCell ⟨w.heap.size + 1 + 1, 0, none⟩ v').cell? ⟨w.heap.size + 3, 0, none⟩ = W1.cell? ⟨w.heap.size + 3, 0, none⟩ ∧ (w3.setCell ⟨w.heap.size + 1 + 1, 0, none⟩ v').frozen? ⟨w.heap.size + 3, 0, none⟩ = W1.frozen? ⟨w.heap.size + 3, 0, none⟩ := by
  obtain ⟨h1, h2, h3, h4, h5, ⟨u, h6⟩, ⟨u', h7⟩, _⟩ := h
  have hlt : ∀ r, v.ownBlock = some r → w.heap.size + 4 ≤ r ∧ ∃ p : Obj, W1.heap[r]? = some p ∧ p.isCells = true := fun r hr => by
    obtain ⟨_, ⟨rfl, _⟩ | ⟨g, cap, cur, rfl, hb, hh, _⟩⟩ := hown
    · cases hr
    · cases hr; exact ⟨hb, _, hh, rfl⟩
  have hk : ∀ k, k < w.heap.size + 4 → w3.heap[k]? = W1.heap[k]? := fun k hk => by
    rw [hg.block k (by simp; omega) (fun e => by have := (hlt k e.symm).1; omega)]
    exact Below.heap_alloc _ _ _ (by omega)
  have k0 := heap_cell (p := ⟨w.heap.size, 0, none⟩) (hk _ (by show w.heap.size < _; omega))
  have k1 := heap_cell (p := ⟨w.heap.size + 1, 0, none⟩) (hk _ (by show w.heap.size + 1 < _; omega))
  have k2 := heap_cell (p := ⟨w.heap.size + 1 + 1, 0, none⟩) (hk _ (by show w.heap.size + 1 + 1 < _; omega))
  have k3 := heap_cell (p := ⟨w.heap.size + 3, 0, none⟩) (hk _ (by show w.heap.size + 3 < _; omega))
  have hsz : W1.heap.size + 1 ≤ w3.heap.size := by have := hg.size; simpa using this
  have hb3 : Below w.heap.size w w3 := Below.grown (h1.alloc (by omega) _) hg (by simp; omega) (fun j hj => by have := (hlt j hj).1; omega)
  have cv : w3.cell? ⟨w.heap.size + 1 + 1, 0, none⟩ = some v := k2.1.trans hv
  have ho : Others W1 w3 := fun k p hp hc => by
    have hkl := (Array.getElem?_eq_some_iff.1 hp).1
    rw [hg.block k (by simp; omega) (fun e => by obtain ⟨_, q, hq, hqc⟩ := hlt k e.symm; rw [hp] at hq; cases hq; rw [hqc] at hc; cases hc)]
    rw [Below.heap_alloc _ _ _ (by omega)]; exact hp
  refine ⟨⟨hb3.setCell (by simp; omega) _, by simp [World.setCell]; omega, by rw [World.frozen?_setCell]; exact k0.2.trans h3, by rw [World.frozen?_setCell]; exact k1.2.trans h4, by rw [World.frozen?_setCell]; exact k2.2.trans h5, ⟨u, (setCell_other (by show w.heap.size ≠ w.heap.size + 1 + 1; omega)).trans (k0.1.trans h6)⟩, ⟨u', (setCell_other (by show w.heap.size + 1 ≠ w.heap.size + 1 + 1; omega)).trans (k1.1.trans h7)⟩, v', World.cell?_setCell_same' _ _ _ (by rw [cv]; rfl), ?_⟩, cv, k2.2.trans h5, ho.trans (Others.setCell _ _ _), (setCell_other (by show w.heap.size + 3 ≠ w.heap.size + 1 + 1; omega)).trans k3.1, by rw [World.frozen?_setCell]; exact k3.2⟩
  subst hxs
  rw [List.length_append, List.length_singleton] at hown' ⊢
  exact own_other hown' fun g p hgb hh hp => (Below.heap_setCell w3 ⟨w.heap.size + 1 + 1, 0, none⟩ v' g (by show g ≠ w.heap.size + 1 + 1; omega)).trans hh

/-- The body has stopped: what is returned lies in the results' cells. -/
structure LX (w W : World) (S : ByteArray) : Prop where
  bel : Below w.heap.size w W
  sz : w.heap.size + 4 ≤ W.heap.size
  c0 : W.cell? ⟨w.heap.size, 0, none⟩ = some (.slice none 0 0)
  c1 : W.cell? ⟨w.heap.size + 1, 0, none⟩ = some (.int .i64 3)
  no : lpz S = ([], 3)
theorem LX.put {w W : World} {S : ByteArray} {l : Nat} {o o' : Obj} (h : LX w W S) (hl : w.heap.size + 4 ≤ l) (ho : W.heap[l]? = some o) (hc : o.isCells = false) (hw : o.isWalk = false) : LX w (W.putObj l o') S :=
  ⟨h.bel.trans (belowK_b (w := w) (Nat.le_refl _) W l o o' (by omega) ho hc hw), by simpa using h.sz, (putObj_cell (by show w.heap.size ≠ l; omega)).trans h.c0, (putObj_cell (by show w.heap.size + 1 ≠ l; omega)).trans h.c1, h.no⟩

set_option maxRecDepth 100000 in
set_option maxHeartbeats 8000000 in
theorem lParse_good (S : ByteArray) (w : World) (hsz : S.size ≤ 2000) (hlast : S.size = 0 ∨ S.data.toList[S.size - 1]? = some 10) : Calls Try.prog 20 #[.string S] w fun e w' =>
    ∃ sl cap g, e = .returned (.tuple #[.agg #[.slice sl (lpz S).1.length cap], .int .i64 (lpz S).2]) ∧ Below w.heap.size w w' ∧ Tab w' sl (lpz S).1.length g 0 (stA (lpz S).1) stT := by
  have h2 : ¬ 2000 < S.size := by omega
  have hct : Hid (cts S.size S = ((lns S.size S).map strip, false)) := Lib.hid (lns_cts S.size S (Nat.le_refl _) hlast)
  obtain ⟨nl, xl⟩ := lns_bd S.size S (Nat.le_refl _)
  have hE : S.toList.isEmpty = true ∨ S.toList.isEmpty = false ∧ Hid (∀ w, Calls Try.prog 35 #[.string S, .string ⟨#[10]⟩] w fun e w' => e = .returned (.bool true) ∧ w = w') := by
    by_cases h0 : S.size = 0
    · left; rw [ByteArray.toList_eq]; have := size_list S; rw [h0] at this; rw [List.length_eq_zero_iff.1 this]; rfl
    · refine .inr ⟨txt_full h0, Lib.hid fun w => ?_⟩
      have := Try.strings_HasSuffix S ⟨#[10]⟩ w (by omega)
      rw [show Lib.hasSuffix S.data.toList (⟨#[10]⟩ : ByteArray).data.toList = true from suffix_iff.2 (by rw [size_list]; exact hlast.resolve_left h0)] at this
      exact this.mono fun _ _ ⟨he, hw⟩ => ⟨he, hw.symm⟩
  clear hlast
  obtain ⟨i0, hi, hz0, hz1, hz2⟩ := info_parts (by kernel_rfl : (Try.prog.info? 43).map (fun i => (i.zero, i.size, i.bytes)) = some (some (.agg #[.int .i64 0, .int .i64 0]), 2, 16))
  rcases hE with e1 | ⟨e1, HSx⟩
  · refine callsIn_wide.1 (callsIn_of_wp_marks (n := 3) Try.func20 rfl trivial ?_ rfl)
    refine wpIn_wide.2 ?_
    simp only [Try.ntmps20, List.size_toArray, List.length_cons, List.length_nil, Nat.reduceAdd, Nat.reduceSub, Array.replicate_succ, Array.replicate_zero, List.push_toArray, List.append_toArray, List.nil_append, List.cons_append]
    go_wp2
    refine (wpIn_wide (n := 3)).1 ?_
    obtain ⟨W0, hW0⟩ : ∃ W0, ((((w.alloc (.cells #[.slice none 0 0] 24)).alloc (.cells #[.int .i64 0] 27)).alloc (.cells #[.slice none 0 0] 24)).alloc (.cells #[.string S] 9)) = W0 := ⟨_, rfl⟩
    have z0 : W0.heap.size = w.heap.size + 4 := by rw [← hW0]; simp
    have hbel : Below w.heap.size w W0 := by rw [← hW0]; exact ((((Below.refl _ _).alloc (Nat.le_refl _) _).alloc (by simp) _).alloc (by simp; omega) _).alloc (by simp; omega) _
    have i00 : LI w W0 ([].map strip) := by
      refine ⟨hbel, by omega, ?_, ?_, ?_, ?_, ?_, ⟨.slice none 0 0, ?_, World.ownsRow_nil _ _ _ _⟩⟩
      · rw [← hW0]; simp [go_sem]
      · rw [← hW0]; simp [go_sem]
      · rw [← hW0]; simp [go_sem]
      · exact ⟨_, by rw [← hW0]; simp [go_sem]; rfl⟩
      · exact ⟨_, by rw [← hW0]; simp [go_sem]; rfl⟩
      · rw [← hW0]; simp [go_sem]
    have bx : W0.cell? ⟨w.heap.size + 3, 0, none⟩ = some (.string S) ∧ W0.frozen? ⟨w.heap.size + 3, 0, none⟩ = false := by rw [← hW0]; simp [go_sem]
    rw [hW0]
    clear hW0
    refine range_at (F := Fence.wide) rfl (by omega) (gf := 49) (lb := #[.pointer (some ⟨w.heap.size + 3, 0, none⟩)]) rfl trivial (enters_of Try.func49 (by kernel_rfl) rfl) (encs := fun x => #[Value.string x]) (fun _ => rfl)
      (S := fun xs => xs = lns S.size S) (fun pre x => pre ++ [x] <+: lns S.size S) (fun pre W => LI w W (pre.map strip) ∧ okAll (pre.map strip)) (fun W => LX w W S)
      (fun A B => B.cell? ⟨w.heap.size + 3, 0, none⟩ = A.cell? ⟨w.heap.size + 3, 0, none⟩ ∧ B.frozen? ⟨w.heap.size + 3, 0, none⟩ = A.frozen? ⟨w.heap.size + 3, 0, none⟩)
      (fun h k => ⟨k.1.trans h.1, k.2.trans h.2⟩) (fun W l o' hl => ⟨putObj_cell (by show w.heap.size + 3 ≠ l; omega), putObj_frozen (by show w.heap.size + 3 ≠ l; omega)⟩)
      (fun pre W l o o' hi hl ho hc hw => ⟨LI.put hi.1 (by omega) ho hc hw, hi.2⟩) (fun W l o o' h hl ho hc hw => LX.put h (by omega) ho hc hw) (fun o o' => ⟨LI.alloc (LI.alloc i00 o) o', fun c hc => by cases hc⟩) ?a1 ?assign ?body ?seq ?done ?stop
    case assign =>
      intro l x W K hK
      gi_wp2
      exact hK
    case seq =>
      rintro l R D X W rfl hR hD hl hd hb hi hY
      exact lines_at 2 (by omega) _ _ _ S (by omega) R D (fun pre W => LI w W (pre.map strip) ∧ okAll (pre.map strip)) X W hR hD hl hd hi ((hb.cell (p := ⟨w.heap.size + 3, 0, none⟩) (by show w.heap.size + 3 < _; omega)).trans bx.1) ((hb.frozen (p := ⟨w.heap.size + 3, 0, none⟩) (by show w.heap.size + 3 < _; omega)).trans bx.2) (fun pre W v h => ⟨LI.box h.1 v, h.2⟩) (fun pre W h => ⟨h.1.below ((Below.refl _ _).drew), h.2⟩) hY
    case stop =>
      rintro W ⟨b1, b2, q0, q1, hno⟩ hK
      gi_wp2
      rw [hno]
      refine ⟨by simp, .inl ⟨_, _, rfl, run_takeDeferred hK, ?_⟩⟩
      rw [z0] at hK ⊢
      have p0 : (W.putObj (w.heap.size + 4) (.deferred none)).cell? ⟨w.heap.size, 0, none⟩ = some (.slice none 0 0) := (putObj_cell (by show w.heap.size ≠ w.heap.size + 4; omega)).trans q0
      have p1 : (W.putObj (w.heap.size + 4) (.deferred none)).cell? ⟨w.heap.size + 1, 0, none⟩ = some (.int .i64 3) := (putObj_cell (by show w.heap.size + 1 ≠ w.heap.size + 4; omega)).trans q1
      have B4 : Below w.heap.size w (W.putObj (w.heap.size + 4) (.deferred none)) := b1.trans (belowK_b (w := w) (Nat.le_refl _) W _ _ _ (by omega) hK rfl rfl)
      exact ⟨.tuple #[.agg #[.slice none 0 0], .int .i64 3], by simp [results, Try.results20, go_sem, p0, p1], none, 0, 0, rfl, B4, tab_nil _ _ _⟩
    case done =>
      rintro xs W rfl ⟨hI, hok⟩ hK
      have hIb := hI.bel
      have hIz := hI.sz
      have f0 := hI.f0
      have f1 := hI.f1
      obtain ⟨v1, h6⟩ := hI.c0
      obtain ⟨v2, h7⟩ := hI.c1
      obtain ⟨v, h8, hown⟩ := hI.ct
      have LL : (List.map strip (lns S.size S)).length ≤ 2000 := by simp; omega
      obtain ⟨L, hL⟩ : ∃ L, List.map strip (lns S.size S) = L := ⟨_, rfl⟩
      rw [hL] at hown hok LL
      have hcs := hct.out
      rw [hL] at hcs
      obtain ⟨sl, cap, g, hvv, T1, hgb⟩ := row_tab hown (fun i hi => stA_bd L hi) (by omega)
      subst hvv
      have HT := Lib.hid T1
      clear hI
      rcases hv : M.okb L.length (stA L) stT with _ | _
      · have V := Lib.hid hv
        have R : Hid (lpz S = ([], 1)) := Lib.hid (lpz_1 h2 hcs hok hv)
        clear hv hcs T1 hown hL
        go_wp2_with (go_at_call 19; refine (Valid_at _ HT V).mono ?_; rintro e W1 ⟨rfl, hb1⟩; have q0' : W1.cell? ⟨w.heap.size, 0, none⟩ = some v1 := ((bcell hb1).1 _ 0 (by omega)).trans h6; have f0' : W1.frozen? ⟨w.heap.size, 0, none⟩ = false := ((bcell hb1).2 _ 0 (by omega)).trans f0; have q1' : W1.cell? ⟨w.heap.size + 1, 0, none⟩ = some v2 := ((bcell hb1).1 _ 0 (by omega)).trans h7; have f1' : W1.frozen? ⟨w.heap.size + 1, 0, none⟩ = false := ((bcell hb1).2 _ 0 (by omega)).trans f1)
        rw [R.out]
        have k3 := Others.setCell _ ⟨w.heap.size + 1, 0, none⟩ (.int .i64 1) _ _ (Others.setCell _ ⟨w.heap.size, 0, none⟩ (.slice none 0 0) _ _ (Others.below hb1 _ _ hK rfl) rfl) rfl
        have s0 : ((W1.setCell ⟨w.heap.size, 0, none⟩ (.slice none 0 0)).setCell ⟨w.heap.size + 1, 0, none⟩ (.int .i64 1)).cell? ⟨w.heap.size, 0, none⟩ = some (.slice none 0 0) := (setCell_other (by show w.heap.size ≠ w.heap.size + 1; omega)).trans (World.cell?_setCell_same' _ _ _ (by rw [q0']; rfl))
        have s1 : ((W1.setCell ⟨w.heap.size, 0, none⟩ (.slice none 0 0)).setCell ⟨w.heap.size + 1, 0, none⟩ (.int .i64 1)).cell? ⟨w.heap.size + 1, 0, none⟩ = some (.int .i64 1) := World.cell?_setCell_same' _ _ _ (by rw [setCell_other (by show w.heap.size + 1 ≠ w.heap.size; omega), q1']; rfl)
        have B3 := ((hIb.trans (hb1.mono hIb.size)).setCell (p := ⟨w.heap.size, 0, none⟩) (Nat.le_refl _) (.slice none 0 0)).setCell (p := ⟨w.heap.size + 1, 0, none⟩) (by simp) (.int .i64 1)
        obtain ⟨W3, hW3⟩ : ∃ W3, (W1.setCell ⟨w.heap.size, 0, none⟩ (.slice none 0 0)).setCell ⟨w.heap.size + 1, 0, none⟩ (.int .i64 1) = W3 := ⟨_, rfl⟩
        rw [hW3] at k3 s0 s1 B3 ⊢
        rw [z0] at k3
        refine ⟨by simp, .inl ⟨_, _, rfl, run_takeDeferred k3, ?_⟩⟩
        have p0 : (W3.putObj (w.heap.size + 4) (.deferred none)).cell? ⟨w.heap.size, 0, none⟩ = some (.slice none 0 0) := (putObj_cell (by show w.heap.size ≠ w.heap.size + 4; omega)).trans s0
        have p1 : (W3.putObj (w.heap.size + 4) (.deferred none)).cell? ⟨w.heap.size + 1, 0, none⟩ = some (.int .i64 1) := (putObj_cell (by show w.heap.size + 1 ≠ w.heap.size + 4; omega)).trans s1
        have B4 : Below w.heap.size w (W3.putObj (w.heap.size + 4) (.deferred none)) := B3.trans (belowK_b (w := w) (Nat.le_refl _) W3 _ _ _ (by omega) k3 rfl rfl)
        exact ⟨.tuple #[.agg #[.slice none 0 0], .int .i64 1], by simp [results, Try.results20, go_sem, p0, p1], none, 0, 0, rfl, B4, tab_nil _ _ _⟩
      · have V := Lib.hid hv
        have R : Hid (lpz S = (L, 0)) := Lib.hid (lpz_0 h2 hcs hok hv)
        clear hv hcs T1 hown hL
        go_wp2_with (go_at_call 19; refine (Valid_at _ HT V).mono ?_; rintro e W1 ⟨rfl, hb1⟩; have q2' : W1.cell? ⟨w.heap.size + 2, 0, none⟩ = some (.slice sl L.length cap) := ((bcell hb1).1 _ 0 (by omega)).trans h8; have q0' : W1.cell? ⟨w.heap.size, 0, none⟩ = some v1 := ((bcell hb1).1 _ 0 (by omega)).trans h6; have f0' : W1.frozen? ⟨w.heap.size, 0, none⟩ = false := ((bcell hb1).2 _ 0 (by omega)).trans f0; have q1' : W1.cell? ⟨w.heap.size + 1, 0, none⟩ = some v2 := ((bcell hb1).1 _ 0 (by omega)).trans h7; have f1' : W1.frozen? ⟨w.heap.size + 1, 0, none⟩ = false := ((bcell hb1).2 _ 0 (by omega)).trans f1)
        rw [R.out]
        have k3 := Others.setCell _ ⟨w.heap.size + 1, 0, none⟩ (.int .i64 0) _ _ (Others.setCell _ ⟨w.heap.size, 0, none⟩ (.slice sl L.length cap) _ _ (Others.below hb1 _ _ hK rfl) rfl) rfl
        have T2 := ((HT.out.below hb1).setCell ⟨w.heap.size, 0, none⟩ (.slice sl L.length cap) (fun h0 => by have := hgb h0; show g ≠ w.heap.size; omega)).setCell ⟨w.heap.size + 1, 0, none⟩ (.int .i64 0) (fun h0 => by have := hgb h0; show g ≠ w.heap.size + 1; omega)
        have s0 : ((W1.setCell ⟨w.heap.size, 0, none⟩ (.slice sl L.length cap)).setCell ⟨w.heap.size + 1, 0, none⟩ (.int .i64 0)).cell? ⟨w.heap.size, 0, none⟩ = some (.slice sl L.length cap) := (setCell_other (by show w.heap.size ≠ w.heap.size + 1; omega)).trans (World.cell?_setCell_same' _ _ _ (by rw [q0']; rfl))
        have s1 : ((W1.setCell ⟨w.heap.size, 0, none⟩ (.slice sl L.length cap)).setCell ⟨w.heap.size + 1, 0, none⟩ (.int .i64 0)).cell? ⟨w.heap.size + 1, 0, none⟩ = some (.int .i64 0) := World.cell?_setCell_same' _ _ _ (by rw [setCell_other (by show w.heap.size + 1 ≠ w.heap.size; omega), q1']; rfl)
        have B3 := ((hIb.trans (hb1.mono hIb.size)).setCell (p := ⟨w.heap.size, 0, none⟩) (Nat.le_refl _) (.slice sl L.length cap)).setCell (p := ⟨w.heap.size + 1, 0, none⟩) (by simp) (.int .i64 0)
        obtain ⟨W3, hW3⟩ : ∃ W3, (W1.setCell ⟨w.heap.size, 0, none⟩ (.slice sl L.length cap)).setCell ⟨w.heap.size + 1, 0, none⟩ (.int .i64 0) = W3 := ⟨_, rfl⟩
        rw [hW3] at k3 s0 s1 B3 T2 ⊢
        rw [z0] at k3
        refine ⟨by simp, .inl ⟨_, _, rfl, run_takeDeferred k3, ?_⟩⟩
        have p0 : (W3.putObj (w.heap.size + 4) (.deferred none)).cell? ⟨w.heap.size, 0, none⟩ = some (.slice sl L.length cap) := (putObj_cell (by show w.heap.size ≠ w.heap.size + 4; omega)).trans s0
        have p1 : (W3.putObj (w.heap.size + 4) (.deferred none)).cell? ⟨w.heap.size + 1, 0, none⟩ = some (.int .i64 0) := (putObj_cell (by show w.heap.size + 1 ≠ w.heap.size + 4; omega)).trans s1
        have B4 : Below w.heap.size w (W3.putObj (w.heap.size + 4) (.deferred none)) := B3.trans (belowK_b (w := w) (Nat.le_refl _) W3 _ _ _ (by omega) k3 rfl rfl)
        exact ⟨.tuple #[.agg #[.slice sl L.length cap], .int .i64 0], by simp [results, Try.results20, go_sem, p0, p1], sl, cap, g, rfl, B4, T2.put k3 rfl⟩
    case body =>
      rintro l pre x W hz hgood ⟨hI, hok⟩
      have hmem : x ∈ lns S.size S := hgood.subset (by simp)
      have hpl : (List.map strip pre).length ≤ 2000 := by
        have := hgood.length_le
        simp at this ⊢; omega
      have hxs := xl x hmem
      have hxz : x.size ≤ 9223372036854775807 := by omega
      have hfail : (M.dl (strip x)).2 = false → lpz S = ([], 3) := fun hf => lpz_3 h2 (.inr fun h => by
        have := h (strip x) (by rw [hct.out]; exact List.mem_map_of_mem hmem)
        rw [hf] at this; cases this)
      have hcz := strip_size x
      obtain ⟨db1, db2⟩ := dl_bd (strip x)
      have HP := Lib.hid hI
      have PM : List.map strip (pre ++ [x]) = List.map strip pre ++ [strip x] := by simp
      have HTr : Hid (∀ w, Calls Try.prog 38 #[.string x, .string ⟨#[10]⟩] w fun e w' => e = .returned (.string (strip x)) ∧ w = w') := Lib.hid fun w => by
        have := Try.strings_TrimSuffix x ⟨#[10]⟩ w (by omega)
        exact this.mono fun _ _ ⟨he, hw⟩ => ⟨he, hw.symm⟩
      have FIN : Hid (∀ W', LI w W' (List.map strip pre ++ [strip x]) ∧ okAll (List.map strip pre ++ [strip x]) → LI w W' (List.map strip (pre ++ [x])) ∧ okAll (List.map strip (pre ++ [x]))) := Lib.hid fun W' h => by rw [PM]; exact h
      obtain ⟨c, hc⟩ : ∃ c, strip x = c := ⟨_, rfl⟩
      rw [hc] at HTr db1 db2 hcz hfail FIN
      have SN := Lib.hid (cl_snoc (List.map strip pre) c)
      have HPa : Hid (∀ w, Calls Try.prog 37 #[.string c] w fun e w' => e = .returned (.tuple #[.agg #[.int .i64 (M.prs c).1.1, .int .i64 (M.prs c).1.2.1, .int .i64 (M.prs c).1.2.2], .int .i64 (M.prs c).2]) ∧ Below w.heap.size w w') := Lib.hid fun w => Parse_any c w (by omega)
      obtain ⟨P, hP⟩ : ∃ P, List.map strip pre = P := ⟨_, rfl⟩
      rw [hP] at HP SN hpl hok FIN
      clear hP PM hgood hmem hxs hc hI
      have bz := HP.out.bel.size
      have sz2 := HP.out.sz
      obtain ⟨u0, h6⟩ := HP.out.c0
      obtain ⟨u1, h7⟩ := HP.out.c1
      have f0 := HP.out.f0
      have f1 := HP.out.f1
      have f2 := HP.out.f2
      have bel := HP.out.bel
      obtain ⟨⟨⟨y, m, d⟩, er⟩, hp⟩ : ∃ p, M.prs c = p := ⟨_, rfl⟩
      rcases hb : (M.dl c).2 with _ | _
      · have R := hfail hb
        have he := prs_dl_f hb
        rw [hp] at he HPa
        have he1 : (er != 0) = true := by rcases he with h | h <;> simp at h <;> subst h <;> rfl
        clear hfail hb hp he db1 db2 SN
        gi_wp2_with (first
          | (refine ⟨trivial, ?_⟩; gi_at_call 38; refine (CallsIn.inRound l (callsIn_wide.2 (HTr.out _))).mono ?_; rintro e w' ⟨rfl, rfl⟩)
          | (refine ⟨trivial, ?_⟩; gi_at_call 37; refine (CallsIn.inRound l (callsIn_wide.2 (HPa.out _))).mono ?_; rintro e W1 ⟨rfl, hb1⟩; have bz1 := hb1.size; have q0 : W1.cell? ⟨w.heap.size, 0, none⟩ = some u0 := ((bcell hb1).1 _ 0 (by omega)).trans h6; have q1 : W1.cell? ⟨w.heap.size + 1, 0, none⟩ = some u1 := ((bcell hb1).1 _ 0 (by omega)).trans h7; have g0 : W1.frozen? ⟨w.heap.size, 0, none⟩ = false := ((bcell hb1).2 _ 0 (by omega)).trans f0; have g1 : W1.frozen? ⟨w.heap.size + 1, 0, none⟩ = false := ((bcell hb1).2 _ 0 (by omega)).trans f1; have zz0 : w.heap.size < W1.heap.size := (by omega); have zz1 : w.heap.size + 1 < W1.heap.size := (by omega); have zz2 : ¬ w.heap.size = W1.heap.size := (by omega); have zz3 : ¬ w.heap.size + 1 = W1.heap.size := (by omega)))
        have b1 : Below w.heap.size w W1 := bel.trans (hb1.mono bz)
        have k0 : (W1.setCell ⟨w.heap.size, 0, none⟩ (.slice none 0 0)).cell? ⟨w.heap.size, 0, none⟩ = some (.slice none 0 0) := World.cell?_setCell_same' _ _ _ (by rw [q0]; rfl)
        have k1 : ((W1.setCell ⟨w.heap.size, 0, none⟩ (.slice none 0 0)).setCell ⟨w.heap.size + 1, 0, none⟩ (.int .i64 3)).cell? ⟨w.heap.size, 0, none⟩ = some (.slice none 0 0) := (setCell_other (by show w.heap.size ≠ w.heap.size + 1; omega)).trans k0
        have k2 : ((W1.setCell ⟨w.heap.size, 0, none⟩ (.slice none 0 0)).setCell ⟨w.heap.size + 1, 0, none⟩ (.int .i64 3)).cell? ⟨w.heap.size + 1, 0, none⟩ = some (.int .i64 3) := World.cell?_setCell_same' _ _ _ (by rw [setCell_other (by show w.heap.size + 1 ≠ w.heap.size; omega), q1]; rfl)
        have zs : ((W1.setCell ⟨w.heap.size, 0, none⟩ (.slice none 0 0)).setCell ⟨w.heap.size + 1, 0, none⟩ (.int .i64 3)).heap.size = W1.heap.size := by simp [World.setCell]
        exact ⟨(((Others.below hb1).trans (Others.setCell _ _ _)).trans (Others.setCell _ _ _)).trans (Others.alloc _ _), ((b1.setCell (Nat.le_refl _) _).setCell (p := ⟨w.heap.size + 1, 0, none⟩) (by simp) _).alloc (by rw [zs]; omega) _, by rw [World.size_alloc, zs]; omega, (cell_alloc_lt (by rw [zs]; exact zz0)).trans k1, (cell_alloc_lt (by rw [zs]; exact zz1)).trans k2, R⟩
      · obtain ⟨he, hd⟩ := prs_dl_t hb
        rw [hp] at he hd HPa
        simp only [] at he hd
        subst he
        obtain ⟨D, hD⟩ : ∃ D, (M.dl c).1 = D := ⟨_, rfl⟩
        rw [hD] at hd db1 db2 SN
        have HDa : Hid (∀ w, Calls Try.prog 39 #[.agg #[.int .i64 y, .int .i64 m, .int .i64 d]] w fun e w' => e = .returned (.tuple #[.int .i64 D, .int .i64 (M.de y m d)]) ∧ Below w.heap.size w w') := Lib.hid fun w => hd ▸ Day_any y m d w
        have hok' : Hid (okAll (P ++ [c])) := Lib.hid fun x hx => by
          rcases List.mem_append.1 hx with h | h
          · exact hok x h
          · rw [List.mem_singleton.1 h]; exact hb
        clear hfail hb hp hd hD
        gi_wp2_with (first
          | (refine ⟨trivial, ?_⟩; gi_at_call 38; refine (CallsIn.inRound l (callsIn_wide.2 (HTr.out _))).mono ?_; rintro e w' ⟨rfl, rfl⟩)
          | (refine ⟨trivial, ?_⟩; gi_at_call 37; refine (CallsIn.inRound l (callsIn_wide.2 (HPa.out _))).mono ?_; rintro e W1 ⟨rfl, hb1⟩; have bz1 := hb1.size)
          | (refine ⟨trivial, ?_⟩; gi_at_call 39; refine (CallsIn.inRound l (callsIn_wide.2 (HDa.out _))).mono ?_; rintro e W2 ⟨rfl, hb2⟩; have bz2 : W1.heap.size + 1 ≤ W2.heap.size := (by have := hb2.size; simpa using this); have hR1 := Lib.hid (((HP.out.below hb1).alloc _).below hb2); obtain ⟨v, q1, hown⟩ := hR1.out.ct; obtain ⟨sl, cap, hvv⟩ := own_shape hown; subst hvv; have HO := Lib.hid hown; clear hown; have zz : w.heap.size + 2 < W2.heap.size := (by omega); have zz1 : w.heap.size + 1 + 1 < W2.heap.size := (by omega); have zz2 : w.heap.size + 1 < W2.heap.size := (by omega); have zz3 : ¬ w.heap.size + 1 + 1 = W2.heap.size := (by omega); have zz4 : ¬ w.heap.size + 1 = W2.heap.size := (by omega); have zz5 : ¬ w.heap.size + 2 = W2.heap.size := (by omega); have zz6 : w.heap.size + 1 + 1 < W2.heap.size + 1 := (by omega); have q1' : W2.cell? ⟨w.heap.size + 1 + 1, 0, none⟩ = some (.slice sl P.length cap) := q1)
          | (gi_at_builtin; refine wpListIn_append_own _ rfl _ _ 22 rfl (w.heap.size + 4) 43 i0 (.agg #[.int .i64 0, .int .i64 0]) 2 16 Try.underlying22 hi hz0 hz1 hz2 rfl (by decide) _ _ _ rfl (own_below HO.out ((Below.refl W2.heap.size W2).alloc (Nat.le_refl _) _)) ⟨W2.heap.size, 0, none⟩ 1 1 [.int .i64 ((D + 1) * 86400), .int .i64 ((P.length : Int) + 1)] rfl rfl (cell_two_new _ _ _ _) (fun x hx => by simp at hx; rcases hx with rfl | rfl <;> rfl) (by unfold maxLen; omega) (by omega) (by simp; omega) ?_; intro v' w3 hown' hgrow3 hnil3; obtain ⟨sl', cap', hvv'⟩ := own_shape hown'; subst hvv'; have PU := hR1.out.push (c := c) q1 HO.out hown' SN.out.symm hgrow3; have RN := Lib.hid PU.1; have q3 := PU.2.1; have f3 := PU.2.2.1; have PP := Lib.hid PU.2.2.2; clear PU hown' hgrow3 hnil3))
        have B2 : Below W.heap.size W W2 := (hb1.trans (((Below.refl W1.heap.size W1).alloc (Nat.le_refl _) _).mono hb1.size)).trans (hb2.mono (by simp; omega))
        exact ⟨(Others.below B2).trans PP.out.1, ⟨PP.out.2.1.trans (B2.cell (p := ⟨w.heap.size + 3, 0, none⟩) (by show w.heap.size + 3 < _; omega)), PP.out.2.2.trans (B2.frozen (p := ⟨w.heap.size + 3, 0, none⟩) (by show w.heap.size + 3 < _; omega))⟩, FIN.out _ ⟨RN.out, hok'.out⟩⟩
  · refine callsIn_wide.1 (callsIn_of_wp_marks (n := 3) Try.func20 rfl trivial ?_ rfl)
    refine wpIn_wide.2 ?_
    simp only [Try.ntmps20, List.size_toArray, List.length_cons, List.length_nil, Nat.reduceAdd, Nat.reduceSub, Array.replicate_succ, Array.replicate_zero, List.push_toArray, List.append_toArray, List.nil_append, List.cons_append]
    go_wp2_with (go_at_call 35; refine (HSx.out _).mono ?_; rintro e w' ⟨rfl, rfl⟩)
    try go_wp2
    refine (wpIn_wide (n := 3)).1 ?_
    obtain ⟨W0, hW0⟩ : ∃ W0, ((((w.alloc (.cells #[.slice none 0 0] 24)).alloc (.cells #[.int .i64 0] 27)).alloc (.cells #[.slice none 0 0] 24)).alloc (.cells #[.string S] 9)) = W0 := ⟨_, rfl⟩
    have z0 : W0.heap.size = w.heap.size + 4 := by rw [← hW0]; simp
    have hbel : Below w.heap.size w W0 := by rw [← hW0]; exact ((((Below.refl _ _).alloc (Nat.le_refl _) _).alloc (by simp) _).alloc (by simp; omega) _).alloc (by simp; omega) _
    have i00 : LI w W0 ([].map strip) := by
      refine ⟨hbel, by omega, ?_, ?_, ?_, ?_, ?_, ⟨.slice none 0 0, ?_, World.ownsRow_nil _ _ _ _⟩⟩
      · rw [← hW0]; simp [go_sem]
      · rw [← hW0]; simp [go_sem]
      · rw [← hW0]; simp [go_sem]
      · exact ⟨_, by rw [← hW0]; simp [go_sem]; rfl⟩
      · exact ⟨_, by rw [← hW0]; simp [go_sem]; rfl⟩
      · rw [← hW0]; simp [go_sem]
    have bx : W0.cell? ⟨w.heap.size + 3, 0, none⟩ = some (.string S) ∧ W0.frozen? ⟨w.heap.size + 3, 0, none⟩ = false := by rw [← hW0]; simp [go_sem]
    rw [hW0]
    clear hW0
    refine range_at (F := Fence.wide) rfl (by omega) (gf := 49) (lb := #[.pointer (some ⟨w.heap.size + 3, 0, none⟩)]) rfl trivial (enters_of Try.func49 (by kernel_rfl) rfl) (encs := fun x => #[Value.string x]) (fun _ => rfl)
      (S := fun xs => xs = lns S.size S) (fun pre x => pre ++ [x] <+: lns S.size S) (fun pre W => LI w W (pre.map strip) ∧ okAll (pre.map strip)) (fun W => LX w W S)
      (fun A B => B.cell? ⟨w.heap.size + 3, 0, none⟩ = A.cell? ⟨w.heap.size + 3, 0, none⟩ ∧ B.frozen? ⟨w.heap.size + 3, 0, none⟩ = A.frozen? ⟨w.heap.size + 3, 0, none⟩)
      (fun h k => ⟨k.1.trans h.1, k.2.trans h.2⟩) (fun W l o' hl => ⟨putObj_cell (by show w.heap.size + 3 ≠ l; omega), putObj_frozen (by show w.heap.size + 3 ≠ l; omega)⟩)
      (fun pre W l o o' hi hl ho hc hw => ⟨LI.put hi.1 (by omega) ho hc hw, hi.2⟩) (fun W l o o' h hl ho hc hw => LX.put h (by omega) ho hc hw) (fun o o' => ⟨LI.alloc (LI.alloc i00 o) o', fun c hc => by cases hc⟩) ?a12 ?assign2 ?body2 ?seq2 ?done2 ?stop2
    case assign2 =>
      intro l x W K hK
      gi_wp2
      exact hK
    case seq2 =>
      rintro l R D X W rfl hR hD hl hd hb hi hY
      exact lines_at 2 (by omega) _ _ _ S (by omega) R D (fun pre W => LI w W (pre.map strip) ∧ okAll (pre.map strip)) X W hR hD hl hd hi ((hb.cell (p := ⟨w.heap.size + 3, 0, none⟩) (by show w.heap.size + 3 < _; omega)).trans bx.1) ((hb.frozen (p := ⟨w.heap.size + 3, 0, none⟩) (by show w.heap.size + 3 < _; omega)).trans bx.2) (fun pre W v h => ⟨LI.box h.1 v, h.2⟩) (fun pre W h => ⟨h.1.below ((Below.refl _ _).drew), h.2⟩) hY
    case stop2 =>
      rintro W ⟨b1, b2, q0, q1, hno⟩ hK
      gi_wp2
      rw [hno]
      refine ⟨by simp, .inl ⟨_, _, rfl, run_takeDeferred hK, ?_⟩⟩
      rw [z0] at hK ⊢
      have p0 : (W.putObj (w.heap.size + 4) (.deferred none)).cell? ⟨w.heap.size, 0, none⟩ = some (.slice none 0 0) := (putObj_cell (by show w.heap.size ≠ w.heap.size + 4; omega)).trans q0
      have p1 : (W.putObj (w.heap.size + 4) (.deferred none)).cell? ⟨w.heap.size + 1, 0, none⟩ = some (.int .i64 3) := (putObj_cell (by show w.heap.size + 1 ≠ w.heap.size + 4; omega)).trans q1
      have B4 : Below w.heap.size w (W.putObj (w.heap.size + 4) (.deferred none)) := b1.trans (belowK_b (w := w) (Nat.le_refl _) W _ _ _ (by omega) hK rfl rfl)
      exact ⟨.tuple #[.agg #[.slice none 0 0], .int .i64 3], by simp [results, Try.results20, go_sem, p0, p1], none, 0, 0, rfl, B4, tab_nil _ _ _⟩
    case done2 =>
      rintro xs W rfl ⟨hI, hok⟩ hK
      have hIb := hI.bel
      have hIz := hI.sz
      have f0 := hI.f0
      have f1 := hI.f1
      obtain ⟨v1, h6⟩ := hI.c0
      obtain ⟨v2, h7⟩ := hI.c1
      obtain ⟨v, h8, hown⟩ := hI.ct
      have LL : (List.map strip (lns S.size S)).length ≤ 2000 := by simp; omega
      obtain ⟨L, hL⟩ : ∃ L, List.map strip (lns S.size S) = L := ⟨_, rfl⟩
      rw [hL] at hown hok LL
      have hcs := hct.out
      rw [hL] at hcs
      obtain ⟨sl, cap, g, hvv, T1, hgb⟩ := row_tab hown (fun i hi => stA_bd L hi) (by omega)
      subst hvv
      have HT := Lib.hid T1
      clear hI
      rcases hv : M.okb L.length (stA L) stT with _ | _
      · have V := Lib.hid hv
        have R : Hid (lpz S = ([], 1)) := Lib.hid (lpz_1 h2 hcs hok hv)
        clear hv hcs T1 hown hL
        go_wp2_with (go_at_call 19; refine (Valid_at _ HT V).mono ?_; rintro e W1 ⟨rfl, hb1⟩; have q0' : W1.cell? ⟨w.heap.size, 0, none⟩ = some v1 := ((bcell hb1).1 _ 0 (by omega)).trans h6; have f0' : W1.frozen? ⟨w.heap.size, 0, none⟩ = false := ((bcell hb1).2 _ 0 (by omega)).trans f0; have q1' : W1.cell? ⟨w.heap.size + 1, 0, none⟩ = some v2 := ((bcell hb1).1 _ 0 (by omega)).trans h7; have f1' : W1.frozen? ⟨w.heap.size + 1, 0, none⟩ = false := ((bcell hb1).2 _ 0 (by omega)).trans f1)
        rw [R.out]
        have k3 := Others.setCell _ ⟨w.heap.size + 1, 0, none⟩ (.int .i64 1) _ _ (Others.setCell _ ⟨w.heap.size, 0, none⟩ (.slice none 0 0) _ _ (Others.below hb1 _ _ hK rfl) rfl) rfl
        have s0 : ((W1.setCell ⟨w.heap.size, 0, none⟩ (.slice none 0 0)).setCell ⟨w.heap.size + 1, 0, none⟩ (.int .i64 1)).cell? ⟨w.heap.size, 0, none⟩ = some (.slice none 0 0) := (setCell_other (by show w.heap.size ≠ w.heap.size + 1; omega)).trans (World.cell?_setCell_same' _ _ _ (by rw [q0']; rfl))
        have s1 : ((W1.setCell ⟨w.heap.size, 0, none⟩ (.slice none 0 0)).setCell ⟨w.heap.size + 1, 0, none⟩ (.int .i64 1)).cell? ⟨w.heap.size + 1, 0, none⟩ = some (.int .i64 1) := World.cell?_setCell_same' _ _ _ (by rw [setCell_other (by show w.heap.size + 1 ≠ w.heap.size; omega), q1']; rfl)
        have B3 := ((hIb.trans (hb1.mono hIb.size)).setCell (p := ⟨w.heap.size, 0, none⟩) (Nat.le_refl _) (.slice none 0 0)).setCell (p := ⟨w.heap.size + 1, 0, none⟩) (by simp) (.int .i64 1)
        obtain ⟨W3, hW3⟩ : ∃ W3, (W1.setCell ⟨w.heap.size, 0, none⟩ (.slice none 0 0)).setCell ⟨w.heap.size + 1, 0, none⟩ (.int .i64 1) = W3 := ⟨_, rfl⟩
        rw [hW3] at k3 s0 s1 B3 ⊢
        rw [z0] at k3
        refine ⟨by simp, .inl ⟨_, _, rfl, run_takeDeferred k3, ?_⟩⟩
        have p0 : (W3.putObj (w.heap.size + 4) (.deferred none)).cell? ⟨w.heap.size, 0, none⟩ = some (.slice none 0 0) := (putObj_cell (by show w.heap.size ≠ w.heap.size + 4; omega)).trans s0
        have p1 : (W3.putObj (w.heap.size + 4) (.deferred none)).cell? ⟨w.heap.size + 1, 0, none⟩ = some (.int .i64 1) := (putObj_cell (by show w.heap.size + 1 ≠ w.heap.size + 4; omega)).trans s1
        have B4 : Below w.heap.size w (W3.putObj (w.heap.size + 4) (.deferred none)) := B3.trans (belowK_b (w := w) (Nat.le_refl _) W3 _ _ _ (by omega) k3 rfl rfl)
        exact ⟨.tuple #[.agg #[.slice none 0 0], .int .i64 1], by simp [results, Try.results20, go_sem, p0, p1], none, 0, 0, rfl, B4, tab_nil _ _ _⟩
      · have V := Lib.hid hv
        have R : Hid (lpz S = (L, 0)) := Lib.hid (lpz_0 h2 hcs hok hv)
        clear hv hcs T1 hown hL
        go_wp2_with (go_at_call 19; refine (Valid_at _ HT V).mono ?_; rintro e W1 ⟨rfl, hb1⟩; have q2' : W1.cell? ⟨w.heap.size + 2, 0, none⟩ = some (.slice sl L.length cap) := ((bcell hb1).1 _ 0 (by omega)).trans h8; have q0' : W1.cell? ⟨w.heap.size, 0, none⟩ = some v1 := ((bcell hb1).1 _ 0 (by omega)).trans h6; have f0' : W1.frozen? ⟨w.heap.size, 0, none⟩ = false := ((bcell hb1).2 _ 0 (by omega)).trans f0; have q1' : W1.cell? ⟨w.heap.size + 1, 0, none⟩ = some v2 := ((bcell hb1).1 _ 0 (by omega)).trans h7; have f1' : W1.frozen? ⟨w.heap.size + 1, 0, none⟩ = false := ((bcell hb1).2 _ 0 (by omega)).trans f1)
        rw [R.out]
        have k3 := Others.setCell _ ⟨w.heap.size + 1, 0, none⟩ (.int .i64 0) _ _ (Others.setCell _ ⟨w.heap.size, 0, none⟩ (.slice sl L.length cap) _ _ (Others.below hb1 _ _ hK rfl) rfl) rfl
        have T2 := ((HT.out.below hb1).setCell ⟨w.heap.size, 0, none⟩ (.slice sl L.length cap) (fun h0 => by have := hgb h0; show g ≠ w.heap.size; omega)).setCell ⟨w.heap.size + 1, 0, none⟩ (.int .i64 0) (fun h0 => by have := hgb h0; show g ≠ w.heap.size + 1; omega)
        have s0 : ((W1.setCell ⟨w.heap.size, 0, none⟩ (.slice sl L.length cap)).setCell ⟨w.heap.size + 1, 0, none⟩ (.int .i64 0)).cell? ⟨w.heap.size, 0, none⟩ = some (.slice sl L.length cap) := (setCell_other (by show w.heap.size ≠ w.heap.size + 1; omega)).trans (World.cell?_setCell_same' _ _ _ (by rw [q0']; rfl))
        have s1 : ((W1.setCell ⟨w.heap.size, 0, none⟩ (.slice sl L.length cap)).setCell ⟨w.heap.size + 1, 0, none⟩ (.int .i64 0)).cell? ⟨w.heap.size + 1, 0, none⟩ = some (.int .i64 0) := World.cell?_setCell_same' _ _ _ (by rw [setCell_other (by show w.heap.size + 1 ≠ w.heap.size; omega), q1']; rfl)
        have B3 := ((hIb.trans (hb1.mono hIb.size)).setCell (p := ⟨w.heap.size, 0, none⟩) (Nat.le_refl _) (.slice sl L.length cap)).setCell (p := ⟨w.heap.size + 1, 0, none⟩) (by simp) (.int .i64 0)
        obtain ⟨W3, hW3⟩ : ∃ W3, (W1.setCell ⟨w.heap.size, 0, none⟩ (.slice sl L.length cap)).setCell ⟨w.heap.size + 1, 0, none⟩ (.int .i64 0) = W3 := ⟨_, rfl⟩
        rw [hW3] at k3 s0 s1 B3 T2 ⊢
        rw [z0] at k3
        refine ⟨by simp, .inl ⟨_, _, rfl, run_takeDeferred k3, ?_⟩⟩
        have p0 : (W3.putObj (w.heap.size + 4) (.deferred none)).cell? ⟨w.heap.size, 0, none⟩ = some (.slice sl L.length cap) := (putObj_cell (by show w.heap.size ≠ w.heap.size + 4; omega)).trans s0
        have p1 : (W3.putObj (w.heap.size + 4) (.deferred none)).cell? ⟨w.heap.size + 1, 0, none⟩ = some (.int .i64 0) := (putObj_cell (by show w.heap.size + 1 ≠ w.heap.size + 4; omega)).trans s1
        have B4 : Below w.heap.size w (W3.putObj (w.heap.size + 4) (.deferred none)) := B3.trans (belowK_b (w := w) (Nat.le_refl _) W3 _ _ _ (by omega) k3 rfl rfl)
        exact ⟨.tuple #[.agg #[.slice sl L.length cap], .int .i64 0], by simp [results, Try.results20, go_sem, p0, p1], sl, cap, g, rfl, B4, T2.put k3 rfl⟩
    case body2 =>
      rintro l pre x W hz hgood ⟨hI, hok⟩
      have hmem : x ∈ lns S.size S := hgood.subset (by simp)
      have hpl : (List.map strip pre).length ≤ 2000 := by
        have := hgood.length_le
        simp at this ⊢; omega
      have hxs := xl x hmem
      have hxz : x.size ≤ 9223372036854775807 := by omega
      have hfail : (M.dl (strip x)).2 = false → lpz S = ([], 3) := fun hf => lpz_3 h2 (.inr fun h => by
        have := h (strip x) (by rw [hct.out]; exact List.mem_map_of_mem hmem)
        rw [hf] at this; cases this)
      have hcz := strip_size x
      obtain ⟨db1, db2⟩ := dl_bd (strip x)
      have HP := Lib.hid hI
      have PM : List.map strip (pre ++ [x]) = List.map strip pre ++ [strip x] := by simp
      have HTr : Hid (∀ w, Calls Try.prog 38 #[.string x, .string ⟨#[10]⟩] w fun e w' => e = .returned (.string (strip x)) ∧ w = w') := Lib.hid fun w => by
        have := Try.strings_TrimSuffix x ⟨#[10]⟩ w (by omega)
        exact this.mono fun _ _ ⟨he, hw⟩ => ⟨he, hw.symm⟩
      have FIN : Hid (∀ W', LI w W' (List.map strip pre ++ [strip x]) ∧ okAll (List.map strip pre ++ [strip x]) → LI w W' (List.map strip (pre ++ [x])) ∧ okAll (List.map strip (pre ++ [x]))) := Lib.hid fun W' h => by rw [PM]; exact h
      obtain ⟨c, hc⟩ : ∃ c, strip x = c := ⟨_, rfl⟩
      rw [hc] at HTr db1 db2 hcz hfail FIN
      have SN := Lib.hid (cl_snoc (List.map strip pre) c)
      have HPa : Hid (∀ w, Calls Try.prog 37 #[.string c] w fun e w' => e = .returned (.tuple #[.agg #[.int .i64 (M.prs c).1.1, .int .i64 (M.prs c).1.2.1, .int .i64 (M.prs c).1.2.2], .int .i64 (M.prs c).2]) ∧ Below w.heap.size w w') := Lib.hid fun w => Parse_any c w (by omega)
      obtain ⟨P, hP⟩ : ∃ P, List.map strip pre = P := ⟨_, rfl⟩
      rw [hP] at HP SN hpl hok FIN
      clear hP PM hgood hmem hxs hc hI
      have bz := HP.out.bel.size
      have sz2 := HP.out.sz
      obtain ⟨u0, h6⟩ := HP.out.c0
      obtain ⟨u1, h7⟩ := HP.out.c1
      have f0 := HP.out.f0
      have f1 := HP.out.f1
      have f2 := HP.out.f2
      have bel := HP.out.bel
      obtain ⟨⟨⟨y, m, d⟩, er⟩, hp⟩ : ∃ p, M.prs c = p := ⟨_, rfl⟩
      rcases hb : (M.dl c).2 with _ | _
      · have R := hfail hb
        have he := prs_dl_f hb
        rw [hp] at he HPa
        have he1 : (er != 0) = true := by rcases he with h | h <;> simp at h <;> subst h <;> rfl
        clear hfail hb hp he db1 db2 SN
        gi_wp2_with (first
          | (refine ⟨trivial, ?_⟩; gi_at_call 38; refine (CallsIn.inRound l (callsIn_wide.2 (HTr.out _))).mono ?_; rintro e w' ⟨rfl, rfl⟩)
          | (refine ⟨trivial, ?_⟩; gi_at_call 37; refine (CallsIn.inRound l (callsIn_wide.2 (HPa.out _))).mono ?_; rintro e W1 ⟨rfl, hb1⟩; have bz1 := hb1.size; have q0 : W1.cell? ⟨w.heap.size, 0, none⟩ = some u0 := ((bcell hb1).1 _ 0 (by omega)).trans h6; have q1 : W1.cell? ⟨w.heap.size + 1, 0, none⟩ = some u1 := ((bcell hb1).1 _ 0 (by omega)).trans h7; have g0 : W1.frozen? ⟨w.heap.size, 0, none⟩ = false := ((bcell hb1).2 _ 0 (by omega)).trans f0; have g1 : W1.frozen? ⟨w.heap.size + 1, 0, none⟩ = false := ((bcell hb1).2 _ 0 (by omega)).trans f1; have zz0 : w.heap.size < W1.heap.size := (by omega); have zz1 : w.heap.size + 1 < W1.heap.size := (by omega); have zz2 : ¬ w.heap.size = W1.heap.size := (by omega); have zz3 : ¬ w.heap.size + 1 = W1.heap.size := (by omega)))
        have b1 : Below w.heap.size w W1 := bel.trans (hb1.mono bz)
        have k0 : (W1.setCell ⟨w.heap.size, 0, none⟩ (.slice none 0 0)).cell? ⟨w.heap.size, 0, none⟩ = some (.slice none 0 0) := World.cell?_setCell_same' _ _ _ (by rw [q0]; rfl)
        have k1 : ((W1.setCell ⟨w.heap.size, 0, none⟩ (.slice none 0 0)).setCell ⟨w.heap.size + 1, 0, none⟩ (.int .i64 3)).cell? ⟨w.heap.size, 0, none⟩ = some (.slice none 0 0) := (setCell_other (by show w.heap.size ≠ w.heap.size + 1; omega)).trans k0
        have k2 : ((W1.setCell ⟨w.heap.size, 0, none⟩ (.slice none 0 0)).setCell ⟨w.heap.size + 1, 0, none⟩ (.int .i64 3)).cell? ⟨w.heap.size + 1, 0, none⟩ = some (.int .i64 3) := World.cell?_setCell_same' _ _ _ (by rw [setCell_other (by show w.heap.size + 1 ≠ w.heap.size; omega), q1]; rfl)
        have zs : ((W1.setCell ⟨w.heap.size, 0, none⟩ (.slice none 0 0)).setCell ⟨w.heap.size + 1, 0, none⟩ (.int .i64 3)).heap.size = W1.heap.size := by simp [World.setCell]
        exact ⟨(((Others.below hb1).trans (Others.setCell _ _ _)).trans (Others.setCell _ _ _)).trans (Others.alloc _ _), ((b1.setCell (Nat.le_refl _) _).setCell (p := ⟨w.heap.size + 1, 0, none⟩) (by simp) _).alloc (by rw [zs]; omega) _, by rw [World.size_alloc, zs]; omega, (cell_alloc_lt (by rw [zs]; exact zz0)).trans k1, (cell_alloc_lt (by rw [zs]; exact zz1)).trans k2, R⟩
      · obtain ⟨he, hd⟩ := prs_dl_t hb
        rw [hp] at he hd HPa
        simp only [] at he hd
        subst he
        obtain ⟨D, hD⟩ : ∃ D, (M.dl c).1 = D := ⟨_, rfl⟩
        rw [hD] at hd db1 db2 SN
        have HDa : Hid (∀ w, Calls Try.prog 39 #[.agg #[.int .i64 y, .int .i64 m, .int .i64 d]] w fun e w' => e = .returned (.tuple #[.int .i64 D, .int .i64 (M.de y m d)]) ∧ Below w.heap.size w w') := Lib.hid fun w => hd ▸ Day_any y m d w
        have hok' : Hid (okAll (P ++ [c])) := Lib.hid fun x hx => by
          rcases List.mem_append.1 hx with h | h
          · exact hok x h
          · rw [List.mem_singleton.1 h]; exact hb
        clear hfail hb hp hd hD
        gi_wp2_with (first
          | (refine ⟨trivial, ?_⟩; gi_at_call 38; refine (CallsIn.inRound l (callsIn_wide.2 (HTr.out _))).mono ?_; rintro e w' ⟨rfl, rfl⟩)
          | (refine ⟨trivial, ?_⟩; gi_at_call 37; refine (CallsIn.inRound l (callsIn_wide.2 (HPa.out _))).mono ?_; rintro e W1 ⟨rfl, hb1⟩; have bz1 := hb1.size)
          | (refine ⟨trivial, ?_⟩; gi_at_call 39; refine (CallsIn.inRound l (callsIn_wide.2 (HDa.out _))).mono ?_; rintro e W2 ⟨rfl, hb2⟩; have bz2 : W1.heap.size + 1 ≤ W2.heap.size := (by have := hb2.size; simpa using this); have hR1 := Lib.hid (((HP.out.below hb1).alloc _).below hb2); obtain ⟨v, q1, hown⟩ := hR1.out.ct; obtain ⟨sl, cap, hvv⟩ := own_shape hown; subst hvv; have HO := Lib.hid hown; clear hown; have zz : w.heap.size + 2 < W2.heap.size := (by omega); have zz1 : w.heap.size + 1 + 1 < W2.heap.size := (by omega); have zz2 : w.heap.size + 1 < W2.heap.size := (by omega); have zz3 : ¬ w.heap.size + 1 + 1 = W2.heap.size := (by omega); have zz4 : ¬ w.heap.size + 1 = W2.heap.size := (by omega); have zz5 : ¬ w.heap.size + 2 = W2.heap.size := (by omega); have zz6 : w.heap.size + 1 + 1 < W2.heap.size + 1 := (by omega); have q1' : W2.cell? ⟨w.heap.size + 1 + 1, 0, none⟩ = some (.slice sl P.length cap) := q1)
          | (gi_at_builtin; refine wpListIn_append_own _ rfl _ _ 22 rfl (w.heap.size + 4) 43 i0 (.agg #[.int .i64 0, .int .i64 0]) 2 16 Try.underlying22 hi hz0 hz1 hz2 rfl (by decide) _ _ _ rfl (own_below HO.out ((Below.refl W2.heap.size W2).alloc (Nat.le_refl _) _)) ⟨W2.heap.size, 0, none⟩ 1 1 [.int .i64 ((D + 1) * 86400), .int .i64 ((P.length : Int) + 1)] rfl rfl (cell_two_new _ _ _ _) (fun x hx => by simp at hx; rcases hx with rfl | rfl <;> rfl) (by unfold maxLen; omega) (by omega) (by simp; omega) ?_; intro v' w3 hown' hgrow3 hnil3; obtain ⟨sl', cap', hvv'⟩ := own_shape hown'; subst hvv'; have PU := hR1.out.push (c := c) q1 HO.out hown' SN.out.symm hgrow3; have RN := Lib.hid PU.1; have q3 := PU.2.1; have f3 := PU.2.2.1; have PP := Lib.hid PU.2.2.2; clear PU hown' hgrow3 hnil3))
        have B2 : Below W.heap.size W W2 := (hb1.trans (((Below.refl W1.heap.size W1).alloc (Nat.le_refl _) _).mono hb1.size)).trans (hb2.mono (by simp; omega))
        exact ⟨(Others.below B2).trans PP.out.1, ⟨PP.out.2.1.trans (B2.cell (p := ⟨w.heap.size + 3, 0, none⟩) (by show w.heap.size + 3 < _; omega)), PP.out.2.2.trans (B2.frozen (p := ⟨w.heap.size + 3, 0, none⟩) (by show w.heap.size + 3 < _; omega))⟩, FIN.out _ ⟨RN.out, hok'.out⟩⟩

set_option maxRecDepth 100000 in
set_option maxHeartbeats 8000000 in
theorem lParse_any (S : ByteArray) (w : World) (hs : S.size ≤ 9223372036854775807) : Calls Try.prog 20 #[.string S] w fun e w' =>
    ∃ sl cap g, e = .returned (.tuple #[.agg #[.slice sl (lpz S).1.length cap], .int .i64 (lpz S).2]) ∧ Below w.heap.size w w' ∧ Tab w' sl (lpz S).1.length g 0 (stA (lpz S).1) stT := by
  by_cases h2 : 2000 < S.size
  · have R := lpz_5 h2
    have h2' : (2000 : Int) < S.size := by omega
    rw [R]
    clear R
    go_enter Try.func20, Try.ntmps20
    go_wp2
    exact bodyPost_ret (v := .tuple #[.agg #[.slice none 0 0], .int .i64 5]) (by simp [results, Try.results20, go_sem]) rfl ⟨none, 0, 0, rfl, ((Below.refl _ _).alloc (Nat.le_refl _) _).alloc (by simp) _, tab_nil _ _ _⟩
  · have hsz : S.size ≤ 2000 := by omega
    have k2 : decide ((S.size : Int) > 2000) = false := by simp; omega
    have bx0 : S.size ≤ S.size := Nat.le_refl _
    by_cases hbad : S.size ≠ 0 ∧ S.data.toList[S.size - 1]? ≠ some 10
    · obtain ⟨hn0, hnl⟩ := hbad
      have R : Hid (lpz S = ([], 3)) := Lib.hid (lpz_3 h2 (.inl (cts_bad S.size S (Nat.le_refl _) hn0 hnl)))
      have e1 : S.toList.isEmpty = false := txt_full hn0
      have HSx : Hid (∀ w, Calls Try.prog 35 #[.string S, .string ⟨#[10]⟩] w fun e w' => e = .returned (.bool false) ∧ w = w') := Lib.hid fun w => by
        have := Try.strings_HasSuffix S ⟨#[10]⟩ w (by omega)
        rw [show Lib.hasSuffix S.data.toList (⟨#[10]⟩ : ByteArray).data.toList = false from Bool.eq_false_iff.2 fun h => hnl (by rw [← size_list]; exact suffix_iff.1 h)] at this
        exact this.mono fun _ _ ⟨he, hw⟩ => ⟨he, hw.symm⟩
      clear hn0 hnl
      rw [R.out]
      go_enter Try.func20, Try.ntmps20
      go_wp2_with (go_at_call 35; refine (HSx.out _).mono ?_; rintro e w' ⟨rfl, rfl⟩)
      exact bodyPost_ret (v := .tuple #[.agg #[.slice none 0 0], .int .i64 3]) (by simp [results, Try.results20, go_sem]) rfl ⟨none, 0, 0, rfl, ((Below.refl _ _).alloc (Nat.le_refl _) _).alloc (by simp) _, tab_nil _ _ _⟩
    · have hlast : S.size = 0 ∨ S.data.toList[S.size - 1]? = some 10 := by
        by_cases h0 : S.size = 0
        · exact .inl h0
        · exact .inr (Classical.byContradiction fun h => hbad ⟨h0, h⟩)
      exact lParse_good S w hsz hlast

end Go.Proofs.Ytplgladflhglaaa.Lp
