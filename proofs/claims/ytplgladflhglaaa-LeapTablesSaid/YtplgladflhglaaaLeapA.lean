/- The example of the chapter holds. -/
import Derived.Test.YtplgladflhglaaaLeapL
import Derived.Test.YtplgladflhglaaaCivP2
import Derived.Test.YtplgladflhglaaaCivW3
import Derived.Deep.RegionWith
namespace Go.Proofs.Ytplgladflhglaaa.Lp
set_option linter.unusedVariables false
set_option linter.unusedSimpArgs false
open Go.RowKit Go.Shelf
attribute [local go_sem] Oper.semAt_some

theorem cParse_awake (w : World) : Calls Try.prog 37 #[.string ⟨#[50, 48, 50, 54, 45, 48, 54, 45, 51, 48]⟩] w fun e w' =>
    e = .returned (.tuple #[.agg #[.int .i64 2026, .int .i64 6, .int .i64 30], .int .i64 0]) ∧ Below w.heap.size w w' := by
  have hf : M.form ⟨#[50, 48, 50, 54, 45, 48, 54, 45, 51, 48]⟩ = true := M.form_t ⟨rfl, fun i hi => by
    have : i = 0 ∨ i = 1 ∨ i = 2 ∨ i = 3 ∨ i = 4 ∨ i = 5 ∨ i = 6 ∨ i = 7 ∨ i = 8 ∨ i = 9 := by omega
    rcases this with rfl | rfl | rfl | rfl | rfl | rfl | rfl | rfl | rfl | rfl <;> simp [M.okAt, M.ch]⟩
  have e0 : M.pn ⟨#[50, 48, 50, 54, 45, 48, 54, 45, 51, 48]⟩ 0 4 = 2026 := by simp [M.pn, M.ch]
  have e1 : M.pn ⟨#[50, 48, 50, 54, 45, 48, 54, 45, 51, 48]⟩ 5 2 = 6 := by simp [M.pn, M.ch]
  have e2 : M.pn ⟨#[50, 48, 50, 54, 45, 48, 54, 45, 51, 48]⟩ 8 2 = 30 := by simp [M.pn, M.ch]
  have hp := M.prs_0 (s := ⟨#[50, 48, 50, 54, 45, 48, 54, 45, 51, 48]⟩) hf (by rw [e0, e1, e2]; decide)
  rw [e0, e1, e2] at hp
  have := Parse_any ⟨#[50, 48, 50, 54, 45, 48, 54, 45, 51, 48]⟩ w (by decide)
  rw [hp] at this; exact this
theorem cDay_awake (w : World) : Calls Try.prog 39 #[.agg #[.int .i64 2026, .int .i64 6, .int .i64 30]] w fun e w' => e = .returned (.tuple #[.int .i64 20634, .int .i64 0]) ∧ Below w.heap.size w w' := by
  have := Day_any 2026 6 30 w
  rw [show M.dy 2026 6 30 = 20634 by decide, show M.de 2026 6 30 = 0 by decide] at this
  exact this

/-- The state of leap.Parse at the example: nothing is read, or the one line. -/
def AI (w : World) (S : ByteArray) (pre : List ByteArray) (W : World) : Prop :=
  Below w.heap.size w W ∧ w.heap.size + 4 ≤ W.heap.size ∧
  (W.frozen? ⟨w.heap.size, 0, none⟩ = false ∧ W.frozen? ⟨w.heap.size + 1, 0, none⟩ = false ∧ W.frozen? ⟨w.heap.size + 2, 0, none⟩ = false) ∧
  (∃ v, W.cell? ⟨w.heap.size, 0, none⟩ = some v) ∧ (∃ v, W.cell? ⟨w.heap.size + 1, 0, none⟩ = some v) ∧
  ((pre = [] ∧ W.cell? ⟨w.heap.size + 2, 0, none⟩ = some (.slice none 0 0)) ∨
   (pre = [S] ∧ ∃ b cap, w.heap.size + 4 ≤ b ∧ b < W.heap.size ∧ W.cell? ⟨w.heap.size + 2, 0, none⟩ = some (.slice (some ⟨b, 0, none⟩) 1 cap) ∧ W.cell? ⟨b, 0, none⟩ = some (.int .i64 1782864000) ∧ W.cell? ⟨b, 1, none⟩ = some (.int .i64 1)))

theorem AI.put {w : World} {S : ByteArray} {pre : List ByteArray} {W : World} {l : Nat} {o o' : Obj} (h : AI w S pre W) (hl : w.heap.size + 4 ≤ l) (ho : W.heap[l]? = some o) (hc : o.isCells = false) (hw : o.isWalk = false) : AI w S pre (W.putObj l o') := by
  obtain ⟨h1, h2, ⟨h3, h4, h5⟩, ⟨v1, h6⟩, ⟨v2, h7⟩, h8⟩ := h
  refine ⟨h1.trans (belowK_b (w := w) (Nat.le_refl _) W l o o' (by omega) ho hc hw), by simpa using h2, ⟨?_, ?_, ?_⟩, ⟨v1, ?_⟩, ⟨v2, ?_⟩, ?_⟩
  · rw [putObj_frozen (by show w.heap.size ≠ l; omega)]; exact h3
  · rw [putObj_frozen (by show w.heap.size + 1 ≠ l; omega)]; exact h4
  · rw [putObj_frozen (by show w.heap.size + 2 ≠ l; omega)]; exact h5
  · rw [putObj_cell (by show w.heap.size ≠ l; omega)]; exact h6
  · rw [putObj_cell (by show w.heap.size + 1 ≠ l; omega)]; exact h7
  · rcases h8 with ⟨e, h⟩ | ⟨e, b, cap, b1, b2, c1, c2, c3⟩
    · exact .inl ⟨e, by rw [putObj_cell (by show w.heap.size + 2 ≠ l; omega)]; exact h⟩
    · exact .inr ⟨e, b, cap, b1, by simpa using b2, by rw [putObj_cell (by show w.heap.size + 2 ≠ l; omega)]; exact c1, by rw [putObj_cell (cell_ne c2 ho hc)]; exact c2, by rw [putObj_cell (cell_ne c3 ho hc)]; exact c3⟩
theorem AI.below {w : World} {S : ByteArray} {pre : List ByteArray} {W W' : World} (h : AI w S pre W) (hb : Below W.heap.size W W') : AI w S pre W' := by
  obtain ⟨h1, h2, ⟨h3, h4, h5⟩, ⟨v1, h6⟩, ⟨v2, h7⟩, h8⟩ := h
  obtain ⟨bc, bf⟩ := bcell hb
  refine ⟨h1.trans (hb.mono h1.size), Nat.le_trans h2 hb.size, ⟨?_, ?_, ?_⟩, ⟨v1, ?_⟩, ⟨v2, ?_⟩, ?_⟩
  · rw [bf _ _ (by omega)]; exact h3
  · rw [bf _ _ (by omega)]; exact h4
  · rw [bf _ _ (by omega)]; exact h5
  · rw [bc _ _ (by omega)]; exact h6
  · rw [bc _ _ (by omega)]; exact h7
  · rcases h8 with ⟨e, h⟩ | ⟨e, b, cap, b1, b2, c1, c2, c3⟩
    · exact .inl ⟨e, by rw [bc _ _ (by omega)]; exact h⟩
    · exact .inr ⟨e, b, cap, b1, Nat.lt_of_lt_of_le b2 hb.size, by rw [bc _ _ (by omega)]; exact c1, by rw [bc _ _ b2]; exact c2, by rw [bc _ _ b2]; exact c3⟩
theorem AI.alloc {w : World} {S : ByteArray} {pre : List ByteArray} {W : World} (h : AI w S pre W) (o : Obj) : AI w S pre (W.alloc o) := h.below ((Below.refl _ _).alloc (Nat.le_refl _) _)
theorem setCell_other {W : World} {a p : Addr} {v : Value} (h : p.block ≠ a.block) : (W.setCell a v).cell? p = W.cell? p := by
  unfold World.cell?; rw [Below.heap_setCell W a v p.block h]
theorem AI.box {w : World} {S : ByteArray} {pre : List ByteArray} {W : World} (h : AI w S pre W) (v : Value) : AI w S pre (W.setCell ⟨w.heap.size + 3, 0, none⟩ v) := by
  obtain ⟨h1, h2, ⟨h3, h4, h5⟩, ⟨v1, h6⟩, ⟨v2, h7⟩, h8⟩ := h
  refine ⟨h1.setCell (by simp) _, by simpa [World.setCell] using h2, ⟨?_, ?_, ?_⟩, ⟨v1, ?_⟩, ⟨v2, ?_⟩, ?_⟩
  · rw [World.frozen?_setCell]; exact h3
  · rw [World.frozen?_setCell]; exact h4
  · rw [World.frozen?_setCell]; exact h5
  · rw [setCell_other (by show w.heap.size ≠ w.heap.size + 3; omega)]; exact h6
  · rw [setCell_other (by show w.heap.size + 1 ≠ w.heap.size + 3; omega)]; exact h7
  · rcases h8 with ⟨e, h⟩ | ⟨e, b, cap, b1, b2, c1, c2, c3⟩
    · exact .inl ⟨e, by rw [setCell_other (by show w.heap.size + 2 ≠ w.heap.size + 3; omega)]; exact h⟩
    · exact .inr ⟨e, b, cap, b1, by simpa [World.setCell] using b2, by rw [setCell_other (by show w.heap.size + 2 ≠ w.heap.size + 3; omega)]; exact c1, by rw [setCell_other (by show b ≠ w.heap.size + 3; omega)]; exact c2, by rw [setCell_other (by show b ≠ w.heap.size + 3; omega)]; exact c3⟩

theorem push_keeps {w W2 : World} (h : w.heap.size + 2 < W2.heap.size) (h3 : w.heap.size + 3 < W2.heap.size) (cap : Nat) (o o' : Obj) :
    ((((W2.setCell ⟨w.heap.size + 1 + 1, 0, none⟩ (.slice (some ⟨W2.heap.size + 1, 0, none⟩) 1 cap)).alloc o).alloc o').drew).cell? ⟨w.heap.size + 3, 0, none⟩ = W2.cell? ⟨w.heap.size + 3, 0, none⟩ ∧
    ((((W2.setCell ⟨w.heap.size + 1 + 1, 0, none⟩ (.slice (some ⟨W2.heap.size + 1, 0, none⟩) 1 cap)).alloc o).alloc o').drew).frozen? ⟨w.heap.size + 3, 0, none⟩ = W2.frozen? ⟨w.heap.size + 3, 0, none⟩ := by
  obtain ⟨V, hV⟩ : ∃ V, W2.setCell ⟨w.heap.size + 1 + 1, 0, none⟩ (.slice (some ⟨W2.heap.size + 1, 0, none⟩) 1 cap) = V := ⟨_, rfl⟩
  have zV : V.heap.size = W2.heap.size := by rw [← hV]; simp [World.setCell]
  have B : Below V.heap.size V (((V.alloc o).alloc o').drew) := (((Below.refl _ V).alloc (Nat.le_refl _) _).alloc (by simp) _).drew
  rw [hV]
  refine ⟨(B.cell (p := ⟨w.heap.size + 3, 0, none⟩) (by show w.heap.size + 3 < _; omega)).trans ?_, (B.frozen (p := ⟨w.heap.size + 3, 0, none⟩) (by show w.heap.size + 3 < _; omega)).trans ?_⟩
  · rw [← hV]; exact setCell_other (by show w.heap.size + 3 ≠ w.heap.size + 1 + 1; omega)
  · rw [← hV, World.frozen?_setCell]
theorem AI.push {w : World} {S : ByteArray} {W2 : World} (h : AI w S [] W2) (cap : Nat) (z : Array Value) : AI w S [S] ((((W2.setCell ⟨w.heap.size + 1 + 1, 0, none⟩ (.slice (some ⟨W2.heap.size + 1, 0, none⟩) 1 cap)).alloc (.cells #[.int .i64 1782864000, .int .i64 1] 43)).alloc (.cells (#[.int .i64 1782864000, .int .i64 1] ++ z) 43)).drew) := by
  obtain ⟨h1, h2, ⟨h3, h4, h5⟩, ⟨v1, h6⟩, ⟨v2, h7⟩, h8⟩ := h
  have c2 : W2.cell? ⟨w.heap.size + 2, 0, none⟩ = some (.slice none 0 0) := by
    rcases h8 with ⟨_, h⟩ | ⟨e, _⟩
    · exact h
    · cases e
  obtain ⟨V, hV⟩ : ∃ V, W2.setCell ⟨w.heap.size + 1 + 1, 0, none⟩ (.slice (some ⟨W2.heap.size + 1, 0, none⟩) 1 cap) = V := ⟨_, rfl⟩
  have zV : V.heap.size = W2.heap.size := by rw [← hV]; simp [World.setCell]
  have hb : Below w.heap.size w V := by rw [← hV]; exact h1.setCell (by simp; omega) _
  have k0 : V.cell? ⟨w.heap.size, 0, none⟩ = some v1 := by rw [← hV, setCell_other (by show w.heap.size ≠ w.heap.size + 1 + 1; omega)]; exact h6
  have k1 : V.cell? ⟨w.heap.size + 1, 0, none⟩ = some v2 := by rw [← hV, setCell_other (by show w.heap.size + 1 ≠ w.heap.size + 1 + 1; omega)]; exact h7
  have k2 : V.cell? ⟨w.heap.size + 2, 0, none⟩ = some (.slice (some ⟨W2.heap.size + 1, 0, none⟩) 1 cap) := by rw [← hV]; exact World.cell?_setCell_same' _ _ _ (by rw [c2]; rfl)
  have f0 : V.frozen? ⟨w.heap.size, 0, none⟩ = false := by rw [← hV, World.frozen?_setCell]; exact h3
  have f1 : V.frozen? ⟨w.heap.size + 1, 0, none⟩ = false := by rw [← hV, World.frozen?_setCell]; exact h4
  have f2 : V.frozen? ⟨w.heap.size + 2, 0, none⟩ = false := by rw [← hV, World.frozen?_setCell]; exact h5
  rw [hV]
  obtain ⟨o1, ho1⟩ : ∃ o1 : Obj, .cells #[.int .i64 1782864000, .int .i64 1] 43 = o1 := ⟨_, rfl⟩
  rw [ho1]
  have hnew : (((V.alloc o1).alloc (.cells (#[.int .i64 1782864000, .int .i64 1] ++ z) 43)).drew).heap[W2.heap.size + 1]? = some (.cells (#[.int .i64 1782864000, .int .i64 1] ++ z) 43) := by
    have := World.alloc_heap_new (V.alloc o1) (.cells (#[.int .i64 1782864000, .int .i64 1] ++ z) 43)
    rw [World.size_alloc, zV] at this; exact this
  obtain ⟨U, hU⟩ : ∃ U, ((V.alloc o1).alloc (.cells (#[.int .i64 1782864000, .int .i64 1] ++ z) 43)).drew = U := ⟨_, rfl⟩
  have B : Below V.heap.size V U := hU ▸ (((Below.refl _ V).alloc (Nat.le_refl _) _).alloc (by simp) _).drew
  have zU : U.heap.size = W2.heap.size + 2 := by rw [← hU, ← zV]; simp
  rw [hU] at hnew ⊢
  obtain ⟨bc, bf⟩ := bcell B
  refine ⟨hb.trans (B.mono hb.size), by omega, ⟨by rw [bf _ _ (by omega)]; exact f0, by rw [bf _ _ (by omega)]; exact f1, by rw [bf _ _ (by omega)]; exact f2⟩, ⟨v1, by rw [bc _ _ (by omega)]; exact k0⟩, ⟨v2, by rw [bc _ _ (by omega)]; exact k1⟩, .inr ⟨rfl, W2.heap.size + 1, cap, by omega, by omega, by rw [bc _ _ (by omega)]; exact k2, ?_, ?_⟩⟩
  · unfold World.cell?; rw [hnew]
    simp only [Option.isSome_none, Bool.false_eq_true, if_false]
    rw [Array.getElem?_append_left (by simp)]; rfl
  · unfold World.cell?; rw [hnew]
    simp only [Option.isSome_none, Bool.false_eq_true, if_false]
    rw [Array.getElem?_append_left (by simp)]; rfl
theorem tab_one {W : World} {b : Nat} (b2 : b < W.heap.size) (c2 : W.cell? ⟨b, 0, none⟩ = some (.int .i64 1782864000)) (c3 : W.cell? ⟨b, 1, none⟩ = some (.int .i64 1)) : Tab W (some ⟨b, 0, none⟩) 1 b 0 (fun _ => 1782864000) (fun _ => 1) := by
  refine ⟨fun _ => rfl, fun _ => b2, fun i hi => ?_, fun i hi => ?_, fun i hi => by constructor <;> omega, fun i hi => by constructor <;> omega, by omega⟩
  · obtain rfl : i = 0 := by omega
    exact c2
  · obtain rfl : i = 0 := by omega
    exact c3

set_option maxHeartbeats 2000000 in
theorem lParse_awake (S : ByteArray) (hS : Hid (S = ⟨#[50, 48, 50, 54, 45, 48, 54, 45, 51, 48, 10]⟩)) (w : World) : Calls Try.prog 20 #[.string S] w fun e w' =>
    ∃ b o cap, e = .returned (.tuple #[.agg #[.slice (some ⟨b, o, none⟩) 1 cap], .int .i64 0]) ∧ Below w.heap.size w w' ∧ Tab w' (some ⟨b, o, none⟩) 1 b o (fun _ => 1782864000) (fun _ => 1) := by
  have sz : S.size = 11 := by rw [hS.out]; rfl
  have e1 : S.toList.isEmpty = false := by rw [hS.out, ByteArray.toList_eq]; rfl
  have HSx : Hid (∀ w, Calls Try.prog 35 #[.string S, .string ⟨#[10]⟩] w fun e w' => e = .returned (.bool true) ∧ w = w') := Lib.hid fun w => by
    have := Try.strings_HasSuffix S ⟨#[10]⟩ w (by omega)
    rw [show Lib.hasSuffix S.data.toList (⟨#[10]⟩ : ByteArray).data.toList = true by rw [hS.out]; decide] at this
    exact this.mono fun _ _ ⟨he, hw⟩ => ⟨he, hw.symm⟩
  obtain ⟨Lt, hLt⟩ : ∃ Lt : ByteArray, (⟨#[50, 48, 50, 54, 45, 48, 54, 45, 51, 48]⟩ : ByteArray) = Lt := ⟨_, rfl⟩
  have HTr : Hid (∀ w, Calls Try.prog 38 #[.string S, .string ⟨#[10]⟩] w fun e w' => e = .returned (.string Lt) ∧ w = w') := Lib.hid fun w => by
    have := Try.strings_TrimSuffix S ⟨#[10]⟩ w (by omega)
    refine this.mono fun _ _ ⟨he, hw⟩ => ⟨he.trans ?_, hw.symm⟩
    rw [show (Lib.trimSuffix S.data.toList (⟨#[10]⟩ : ByteArray).data.toList) = [50, 48, 50, 54, 45, 48, 54, 45, 51, 48] by rw [hS.out]; decide, ← hLt]
  have HPa : Hid (∀ w, Calls Try.prog 37 #[.string Lt] w fun e w' => e = .returned (.tuple #[.agg #[.int .i64 2026, .int .i64 6, .int .i64 30], .int .i64 0]) ∧ Below w.heap.size w w') := Lib.hid fun w => hLt ▸ cParse_awake w
  clear hLt
  refine callsIn_wide.1 (callsIn_of_wp_marks (n := 3) Try.func20 rfl trivial ?_ rfl)
  refine wpIn_wide.2 ?_
  simp only [Try.ntmps20, List.size_toArray, List.length_cons, List.length_nil, Nat.reduceAdd, Nat.reduceSub, Array.replicate_succ, Array.replicate_zero, List.push_toArray, List.append_toArray, List.nil_append, List.cons_append]
  go_wp2_with (first
    | (go_at_call 35; refine (HSx.out _).mono ?_; rintro e w' ⟨rfl, rfl⟩))
  go_wp2
  refine (wpIn_wide (n := 3)).1 ?_
  obtain ⟨W0, hW0⟩ : ∃ W0, ((((w.alloc (.cells #[.slice none 0 0] 24)).alloc (.cells #[.int .i64 0] 27)).alloc (.cells #[.slice none 0 0] 24)).alloc (.cells #[.string S] 9)) = W0 := ⟨_, rfl⟩
  have z0 : W0.heap.size = w.heap.size + 4 := by rw [← hW0]; simp
  have hbel : Below w.heap.size w W0 := by rw [← hW0]; exact ((((Below.refl _ _).alloc (Nat.le_refl _) _).alloc (by simp) _).alloc (by simp; omega) _).alloc (by simp; omega) _
  have i0 : AI w S [] W0 := by
    refine ⟨hbel, by omega, ?_, ?_, ?_, .inl ⟨rfl, ?_⟩⟩
    · rw [← hW0]; simp [go_sem]
    · exact ⟨_, by rw [← hW0]; simp [go_sem]; rfl⟩
    · exact ⟨_, by rw [← hW0]; simp [go_sem]; rfl⟩
    · rw [← hW0]; simp [go_sem]
  have bx : W0.cell? ⟨w.heap.size + 3, 0, none⟩ = some (.string S) ∧ W0.frozen? ⟨w.heap.size + 3, 0, none⟩ = false := by rw [← hW0]; simp [go_sem]
  rw [hW0]
  clear hW0
  have hln : lns S.size S = [S] := by rw [hS.out]; decide +kernel
  refine range_at (F := Fence.wide) rfl (by omega) (gf := 49) (lb := #[.pointer (some ⟨w.heap.size + 3, 0, none⟩)]) rfl trivial (enters_of Try.func49 (by kernel_rfl) rfl) (encs := fun x => #[Value.string x]) (fun _ => rfl)
    (S := fun xs => xs = lns S.size S) (fun pre x => pre ++ [x] <+: lns S.size S) (AI w S) (fun _ => False)
    (fun A B => B.cell? ⟨w.heap.size + 3, 0, none⟩ = A.cell? ⟨w.heap.size + 3, 0, none⟩ ∧ B.frozen? ⟨w.heap.size + 3, 0, none⟩ = A.frozen? ⟨w.heap.size + 3, 0, none⟩)
    (fun h k => ⟨k.1.trans h.1, k.2.trans h.2⟩) (fun W l o' hl => ⟨putObj_cell (by show w.heap.size + 3 ≠ l; omega), putObj_frozen (by show w.heap.size + 3 ≠ l; omega)⟩)
    (fun pre W l o o' hi hl ho hc hw => AI.put hi (by omega) ho hc hw) (fun _ _ _ _ h => h.elim) (fun o o' => (AI.alloc (AI.alloc i0 o) o')) ?a1 ?assign ?body ?seq ?done ?stop
  case assign =>
    intro l x W K hK
    gi_wp2
    exact hK
  case seq =>
    rintro l R D X W rfl hR hD hl hd hb hi hY
    exact lines_at 2 (by omega) _ _ _ S (by omega) R D (AI w S) X W hR hD hl hd hi ((hb.cell (p := ⟨w.heap.size + 3, 0, none⟩) (by show w.heap.size + 3 < _; omega)).trans bx.1) ((hb.frozen (p := ⟨w.heap.size + 3, 0, none⟩) (by show w.heap.size + 3 < _; omega)).trans bx.2) (fun pre W v h => AI.box h v) (fun pre W h => h.below ((Below.refl _ _).drew)) hY
  case stop => intro W h; exact h.elim
  case done =>
    rintro xs W rfl hi hK
    rw [hln] at hi
    obtain ⟨h1, h2, ⟨h3, h4, h5⟩, ⟨v1, h6⟩, ⟨v2, h7⟩, h8⟩ := hi
    rcases h8 with ⟨e, _⟩ | ⟨_, b, cap, b1, b2, c1, c2, c3⟩
    · cases e
    · have TB : Tab W (some ⟨b, 0, none⟩) 1 b 0 (fun _ => 1782864000) (fun _ => 1) := tab_one b2 c2 c3
      have V : Hid (M.okb 1 (fun _ => 1782864000) (fun _ => 1) = true) := Lib.hid (M.okb_t ⟨by omega, fun i hi => by omega, fun i hi => by omega, fun i hi => by omega, fun i hi => by omega, fun i hi => by omega⟩)
      have HTB := Lib.hid TB
      clear TB
      go_wp2_with (go_at_call 19; refine (Valid_at _ HTB V).mono ?_; rintro e W2 ⟨rfl, hb2⟩; have bz := hb2.size; have q2 : W2.cell? ⟨w.heap.size + 2, 0, none⟩ = some (.slice (some ⟨b, 0, none⟩) 1 cap) := ((bcell hb2).1 _ 0 (by omega)).trans c1; have q0 : W2.cell? ⟨w.heap.size, 0, none⟩ = some v1 := ((bcell hb2).1 _ 0 (by omega)).trans h6; have q1 : W2.cell? ⟨w.heap.size + 1, 0, none⟩ = some v2 := ((bcell hb2).1 _ 0 (by omega)).trans h7; have f0 : W2.frozen? ⟨w.heap.size, 0, none⟩ = false := ((bcell hb2).2 _ 0 (by omega)).trans h3; have f1 : W2.frozen? ⟨w.heap.size + 1, 0, none⟩ = false := ((bcell hb2).2 _ 0 (by omega)).trans h4)
      have k2 := Others.below hb2 _ _ hK rfl
      have k3 := Others.setCell _ ⟨w.heap.size + 1, 0, none⟩ (.int .i64 0) _ _ (Others.setCell _ ⟨w.heap.size, 0, none⟩ (.slice (some ⟨b, 0, none⟩) 1 cap) _ _ k2 rfl) rfl
      rw [z0] at k3
      have T2 := HTB.out.below hb2
      have B2 := h1.trans (hb2.mono h1.size)
      have s0 : ((W2.setCell ⟨w.heap.size, 0, none⟩ (.slice (some ⟨b, 0, none⟩) 1 cap)).setCell ⟨w.heap.size + 1, 0, none⟩ (.int .i64 0)).cell? ⟨w.heap.size, 0, none⟩ = some (.slice (some ⟨b, 0, none⟩) 1 cap) := (setCell_other (by show w.heap.size ≠ w.heap.size + 1; omega)).trans (World.cell?_setCell_same' _ _ _ (by rw [q0]; rfl))
      have s1 : ((W2.setCell ⟨w.heap.size, 0, none⟩ (.slice (some ⟨b, 0, none⟩) 1 cap)).setCell ⟨w.heap.size + 1, 0, none⟩ (.int .i64 0)).cell? ⟨w.heap.size + 1, 0, none⟩ = some (.int .i64 0) := World.cell?_setCell_same' _ _ _ (by rw [setCell_other (by show w.heap.size + 1 ≠ w.heap.size; omega), q1]; rfl)
      have B3 := (B2.setCell (p := ⟨w.heap.size, 0, none⟩) (Nat.le_refl _) (.slice (some ⟨b, 0, none⟩) 1 cap)).setCell (p := ⟨w.heap.size + 1, 0, none⟩) (by simp) (.int .i64 0)
      have c4 : ((W2.setCell ⟨w.heap.size, 0, none⟩ (.slice (some ⟨b, 0, none⟩) 1 cap)).setCell ⟨w.heap.size + 1, 0, none⟩ (.int .i64 0)).cell? ⟨b, 0, none⟩ = some (.int .i64 1782864000) := (setCell_other (by show b ≠ w.heap.size + 1; omega)).trans ((setCell_other (by show b ≠ w.heap.size; omega)).trans (T2.cA 0 (by omega)))
      have c5 : ((W2.setCell ⟨w.heap.size, 0, none⟩ (.slice (some ⟨b, 0, none⟩) 1 cap)).setCell ⟨w.heap.size + 1, 0, none⟩ (.int .i64 0)).cell? ⟨b, 1, none⟩ = some (.int .i64 1) := (setCell_other (by show b ≠ w.heap.size + 1; omega)).trans ((setCell_other (by show b ≠ w.heap.size; omega)).trans (T2.cT 0 (by omega)))
      have zb : b < ((W2.setCell ⟨w.heap.size, 0, none⟩ (.slice (some ⟨b, 0, none⟩) 1 cap)).setCell ⟨w.heap.size + 1, 0, none⟩ (.int .i64 0)).heap.size := by simp [World.setCell]; omega
      obtain ⟨W3, hW3⟩ : ∃ W3, (W2.setCell ⟨w.heap.size, 0, none⟩ (.slice (some ⟨b, 0, none⟩) 1 cap)).setCell ⟨w.heap.size + 1, 0, none⟩ (.int .i64 0) = W3 := ⟨_, rfl⟩
      rw [hW3] at k3 s0 s1 B3 c4 c5 zb ⊢
      refine ⟨by simp, .inl ⟨_, _, rfl, run_takeDeferred k3, ?_⟩⟩
      have p0 : (W3.putObj (w.heap.size + 4) (.deferred none)).cell? ⟨w.heap.size, 0, none⟩ = some (.slice (some ⟨b, 0, none⟩) 1 cap) := (putObj_cell (by show w.heap.size ≠ w.heap.size + 4; omega)).trans s0
      have p1 : (W3.putObj (w.heap.size + 4) (.deferred none)).cell? ⟨w.heap.size + 1, 0, none⟩ = some (.int .i64 0) := (putObj_cell (by show w.heap.size + 1 ≠ w.heap.size + 4; omega)).trans s1
      have p4 : (W3.putObj (w.heap.size + 4) (.deferred none)).cell? ⟨b, 0, none⟩ = some (.int .i64 1782864000) := (putObj_cell (cell_ne c4 k3 rfl)).trans c4
      have p5 : (W3.putObj (w.heap.size + 4) (.deferred none)).cell? ⟨b, 1, none⟩ = some (.int .i64 1) := (putObj_cell (cell_ne c5 k3 rfl)).trans c5
      have B4 : Below w.heap.size w (W3.putObj (w.heap.size + 4) (.deferred none)) := B3.trans (belowK_b (w := w) (Nat.le_refl _) W3 _ _ _ (by omega) k3 rfl rfl)
      refine ⟨.tuple #[.agg #[.slice (some ⟨b, 0, none⟩) 1 cap], .int .i64 0], by simp [results, Try.results20, go_sem, p0, p1], b, 0, cap, rfl, B4, tab_one (by simpa using zb) p4 p5⟩
  case body =>
    rintro l pre x W hz hgood hi
    rw [hln] at hgood
    obtain ⟨rfl, rfl⟩ : pre = [] ∧ x = S := by
      obtain ⟨t, ht⟩ := hgood
      cases pre with
      | nil => simp at ht; exact ⟨rfl, ht.1⟩
      | cons a p => simp at ht
    have HI := Lib.hid hi
    obtain ⟨h1, h2, ⟨h3, h4, h5⟩, ⟨v1, h6⟩, ⟨v2, h7⟩, h8⟩ := hi
    rcases h8 with ⟨_, h8⟩ | ⟨e, _⟩
    · gi_wp2_with (first
        | (refine ⟨trivial, ?_⟩; gi_at_call 38; refine (CallsIn.inRound l (callsIn_wide.2 (HTr.out _))).mono ?_; rintro e w' ⟨rfl, rfl⟩)
        | (refine ⟨trivial, ?_⟩; gi_at_call 37; refine (CallsIn.inRound l (callsIn_wide.2 (HPa.out _))).mono ?_; rintro e W1 ⟨rfl, hb1⟩; have bz1 := hb1.size; have q2 : W1.cell? ⟨w.heap.size + 2, 0, none⟩ = some (.slice none 0 0) := ((bcell hb1).1 _ 0 (by omega)).trans h8; have g2 : W1.frozen? ⟨w.heap.size + 2, 0, none⟩ = false := ((bcell hb1).2 _ 0 (by omega)).trans h5))
      refine ⟨trivial, ?_⟩
      refine (CallsIn.inRound l (callsIn_wide.2 (cDay_awake _))).mono ?_
      rintro e W2 ⟨rfl, hb2⟩
      have bz2 : W1.heap.size + 1 ≤ W2.heap.size := by have := hb2.size; simpa using this
      have zz : w.heap.size + 2 < W2.heap.size := by omega
      have zz1 : w.heap.size + 1 + 1 < W2.heap.size := by omega
      have zz2 : w.heap.size + 1 < W2.heap.size := by omega
      have zz3 : ¬ w.heap.size + 1 + 1 = W2.heap.size := by omega
      have zz4 : ¬ w.heap.size + 1 = W2.heap.size := by omega
      have zz5 : ¬ w.heap.size + 2 = W2.heap.size := by omega
      have zz6 : w.heap.size + 1 + 1 < W2.heap.size + 1 := by omega
      have q2' : W2.cell? ⟨w.heap.size + 2, 0, none⟩ = some (.slice none 0 0) := ((bcell hb2).1 _ 0 (by simp; omega)).trans ((cell_alloc_lt (by omega)).trans q2)
      have g2' : W2.frozen? ⟨w.heap.size + 2, 0, none⟩ = false := ((bcell hb2).2 _ 0 (by simp; omega)).trans ((((Below.refl W1.heap.size W1).alloc (Nat.le_refl _) _).frozen (p := ⟨w.heap.size + 2, 0, none⟩) (by show w.heap.size + 2 < _; omega)).trans g2)
      gi_wp2
      have A2 := ((HI.out.below hb1).alloc _).below hb2
      have O2 := ((Others.below hb1).trans (Others.alloc _ _)).trans (Others.below hb2)
      have B2 : Below W.heap.size W W2 := (hb1.trans (((Below.refl W1.heap.size W1).alloc (Nat.le_refl _) _).mono hb1.size)).trans (hb2.mono (by simp; omega))
      obtain ⟨cap, hcap⟩ : ∃ cap, (Question.appendCap 1 0 43).cut (W2.tape W2.drawn (Question.appendCap 1 0 43)) = cap := ⟨_, rfl⟩
      rw [hcap]
      clear hcap
      exact ⟨((O2.trans (Others.setCell _ _ _)).trans (Others.alloc _ _)).trans (Others.alloc _ _), ⟨(push_keeps zz (by omega) cap _ _).1.trans (B2.cell (p := ⟨w.heap.size + 3, 0, none⟩) (by show w.heap.size + 3 < _; omega)), (push_keeps zz (by omega) cap _ _).2.trans (B2.frozen (p := ⟨w.heap.size + 3, 0, none⟩) (by show w.heap.size + 3 < _; omega))⟩, A2.push cap _⟩
    · cases e


theorem awake_any (w : World) : Calls Try.prog 11 #[] w fun e w' => e = .returned (.bool true) ∧ Below w.heap.size w w' := by
  obtain ⟨S, hS⟩ : ∃ S : ByteArray, (⟨#[50, 48, 50, 54, 45, 48, 54, 45, 51, 48, 10]⟩ : ByteArray) = S := ⟨_, rfl⟩
  have V : M.okb 1 (fun _ => 1782864000) (fun _ => 1) = true := M.okb_t ⟨by omega, fun i hi => by omega, fun i hi => by omega, fun i hi => by omega, fun i hi => by omega, fun i hi => by omega⟩
  have ht : M.tot (fun _ => 1782864000) 1782864000 1 = 1 := by decide
  have R1 : Hid (M.atm 1 (fun _ => 1782864000) (fun _ => 1) 1782864000 = (1782864001, 0)) := Lib.hid (by rw [M.atm_0 V (by omega) (by omega), ht]; rfl)
  have R2 : Hid (M.cvl 1 (fun _ => 1782864000) (fun _ => 1) 1782864000 = ((1782864000, true), 0)) := Lib.hid (by rw [M.cvl_0 V]; decide)
  go_enter Try.func11, Try.ntmps11
  rw [hS]
  go_wp2_with fail
  refine (lParse_awake S (Lib.hid hS.symm) _).mono ?_
  rintro e w1 ⟨b, o, cap, rfl, hb1, T1⟩
  go_wp2_with fail
  refine (Atomic_any _ _ (Lib.hid (T1.alloc _)) (by omega) (by omega)).mono ?_
  rw [R1.out]
  rintro e w2 ⟨rfl, hb2⟩
  have q2 : w2.cell? ⟨w1.heap.size, 0, none⟩ = some (.slice (some ⟨b, o, none⟩) 1 cap) := ((bcell hb2).1 _ 0 (by simp)).trans (by simp [go_sem])
  go_wp2_with fail
  refine (Civil_any _ _ (Lib.hid ((T1.alloc _).below hb2)) (by omega) (by omega)).mono ?_
  rw [R2.out]
  rintro e w3 ⟨rfl, hb3⟩
  go_wp2
  go_ret
  exact ⟨rfl, ((hb1.alloc hb1.size _).trans (hb2.mono (by have := hb1.size; simp; omega))).trans (hb3.mono (by have := hb1.size; have := hb2.size; simp at this; omega))⟩

end Go.Proofs.Ytplgladflhglaaa.Lp
