/- The lines of a text: the contract of strings.Lines' iterator, at the caller's own invariant. -/
import Derived.Test.YtplgladflhglaaaRangeOwn
import Derived.Test.YtplgladflhglaaaShelf
import Derived.Test.YtplgladflhglaaaLeapC2
namespace Go.Proofs.Ytplgladflhglaaa.Lp
set_option linter.unusedVariables false
set_option linter.unusedSimpArgs false
open Go.RowKit Go.Shelf
attribute [local go_sem] Oper.semAt_some

/-- The lines of a text, each with its end. -/
def lns : Nat → ByteArray → List ByteArray
  | 0, _ => []
  | f + 1, s => if s.size = 0 then [] else if 0 ≤ Lib.indexByte s.data.toList 10 then s.extract 0 ((Lib.indexByte s.data.toList 10).toNat + 1) :: lns f (s.extract ((Lib.indexByte s.data.toList 10).toNat + 1) s.size) else [s]

theorem ix_bd (l : List UInt8) (c : UInt8) : -1 ≤ Lib.indexByte l c ∧ Lib.indexByte l c < l.length := by
  induction l with
  | nil => simp [Lib.indexByte]
  | cons b l ih =>
    simp only [Lib.indexByte]
    split
    · constructor
      · omega
      · simp
    · split
      · constructor
        · omega
        · simp; omega
      · constructor
        · omega
        · simp; omega

theorem lines_at (n : Nat) (hn : 1 ≤ n) (l l0 Bs : Nat) (s : ByteArray) (hs : s.size ≤ 9223372036854775807) (R D : Obj) (I : List ByteArray → World → Prop) (X : World → Prop) (W : World)
    (hRc : R.isCells = false) (hDc : D.isCells = false) (hR : W.heap[l]? = some R) (hD : W.heap[l0]? = some D) (h0 : I [] W)
    (hbox : W.cell? ⟨Bs, 0, none⟩ = some (.string s)) (hfz : W.frozen? ⟨Bs, 0, none⟩ = false)
    (hIc : ∀ pre W v, I pre W → I pre (W.setCell ⟨Bs, 0, none⟩ v)) (hId : ∀ pre W, I pre W → I pre W.drew)
    (hY : ∀ pre x W1, pre ++ [x] <+: lns s.size s → I pre W1 → W1.heap[l]? = some R → W1.heap[l0]? = some D → YieldAt Fence.wide (n - 1) Try.prog l #[.string x] W1 fun e W' =>
        (e = .returned (.bool true) ∧ I (pre ++ [x]) W' ∧ W'.heap[l]? = some R ∧ W'.heap[l0]? = some D ∧ (W'.cell? ⟨Bs, 0, none⟩ = W1.cell? ⟨Bs, 0, none⟩ ∧ W'.frozen? ⟨Bs, 0, none⟩ = W1.frozen? ⟨Bs, 0, none⟩)) ∨ (e = .returned (.bool false) ∧ X W')) :
    CallsIn Fence.wide n Try.prog 49 #[.func (.yield l) #[] #[], .pointer (some ⟨Bs, 0, none⟩)] W fun e W' => (∃ v, e = .returned v) ∧
      ((∃ xs, xs = lns s.size s ∧ I xs W' ∧ W'.heap[l]? = some R ∧ W'.heap[l0]? = some D) ∨ X W') := by
  refine callsIn_of_wp Try.func49 rfl trivial ?_ rfl
  simp only [Try.ntmps49, List.size_toArray, List.length_cons, List.length_nil, Nat.reduceAdd, Nat.reduceSub, Array.replicate_succ, Array.replicate_zero, List.push_toArray, List.append_toArray, List.nil_append, List.cons_append]
  gi_wp2
  gi_loopw [3] (fun _ wr => ∃ (pre : List ByteArray) (r : ByteArray) (f : Nat), r.size ≤ f ∧ r.size ≤ 9223372036854775807 ∧ wr.cell? ⟨Bs, 0, none⟩ = some (.string r) ∧ wr.frozen? ⟨Bs, 0, none⟩ = false ∧ I pre wr ∧ wr.heap[l]? = some R ∧ wr.heap[l0]? = some D ∧ pre ++ lns f r = lns s.size s)
    (fun _ wr => match wr.cell? ⟨Bs, 0, none⟩ with | some (.string r) => r.size | _ => 0)
  case atStart => exact ⟨[], s, s.size, Nat.le_refl _, hs, hbox, hfz, h0, hR, hD, rfl⟩
  case round =>
    obtain ⟨pre, r, f, hf, hr, hc, hz, hi, hl, hd, hlns⟩ := hrel
    rcases Nat.eq_zero_or_pos r.size with h0 | h0
    · have hl0 : lns f r = [] := by cases f <;> simp [lns, h0]
      rw [hl0, List.append_nil] at hlns
      gi_wp2
      go_end0
      exact ⟨⟨_, rfl⟩, .inl ⟨pre, hlns, hi, hl, hd⟩⟩
    · obtain ⟨g, rfl⟩ : ∃ g, f = g + 1 := ⟨f - 1, by omega⟩
      obtain ⟨i, hix⟩ : ∃ i, Lib.indexByte r.data.toList 10 = i := ⟨_, rfl⟩
      have HI : Hid (∀ w, CallsIn Fence.wide (n - 1) Try.prog 50 #[.string r, .int .u8 10] w fun e w' => e = .returned (.int .i64 i) ∧ w = w') := Lib.hid fun w => callsIn_wide.2 ((hix ▸ Try.strings_IndexByte r 10 w).mono fun _ _ ⟨he, hw⟩ => ⟨he, hw.symm⟩)
      have ibd := ix_bd r.data.toList 10
      rw [hix] at ibd
      have isz : i < r.size := by have := ibd.2; simpa using this
      have i63 : i ≤ 9223372036854775806 := by omega
      have lo : -1 ≤ i := ibd.1
      have ls : Hid (lns (g + 1) r = if 0 ≤ i then r.extract 0 (i.toNat + 1) :: lns g (r.extract (i.toNat + 1) r.size) else [r]) := Lib.hid (by
        simp only [lns, hix, if_neg (show ¬ r.size = 0 by omega)])
      clear ibd hix
      rcases Int.lt_or_le i 0 with hneg | hpos
      · have ls' : Hid (lns (g + 1) r = [r]) := Lib.hid (by rw [ls.out, if_neg (by omega)])
        obtain ⟨fn, tmps, assign, body, hy, hRd⟩ := hY pre r (wr.setCell ⟨Bs, 0, none⟩ (.string ⟨#[]⟩)) (by rw [← hlns, ls'.out]; exact List.prefix_rfl) (hIc _ _ _ hi) (Others.setCell _ _ _ _ _ hl hRc) (Others.setCell _ _ _ _ _ hd hDc)
        gi_wp2_with (refine ⟨trivial, ?_⟩; gi_at_call 50; refine (HI.out _).mono ?_; rintro e w' ⟨rfl, rfl⟩)
        refine hRd.mono ?_
        rintro e W3 (⟨rfl, hi3, hl3, hd3, hc3, hz3⟩ | ⟨rfl, hx3⟩)
        · have hc4 : W3.cell? ⟨Bs, 0, none⟩ = some (.string ⟨#[]⟩) := hc3.trans (World.cell?_setCell_same' _ _ _ (by rw [hc]; rfl))
          have hz4 : W3.frozen? ⟨Bs, 0, none⟩ = false := hz3.trans (by rw [World.frozen?_setCell]; exact hz)
          gi_wp2
          go_roundw
          case rel => exact ⟨pre ++ [r], ⟨#[]⟩, 0, Nat.le_refl _, by decide, hc4, hz4, hi3, hl3, hd3, by rw [show lns 0 ⟨#[]⟩ = [] from rfl, List.append_nil, ← ls'.out]; exact hlns⟩
          case measure => rw [hc4, hc]; exact h0
        · gi_wp2
          refine bodyPost_ret (results_none rfl _ _ _) rfl ?_
          exact ⟨⟨_, rfl⟩, .inr hx3⟩
      · obtain ⟨j, rfl⟩ := Int.eq_ofNat_of_zero_le hpos
        have ls' : Hid (lns (g + 1) r = r.extract 0 (j + 1) :: lns g (r.extract (j + 1) r.size)) := Lib.hid (by rw [ls.out, if_pos (by omega)]; rfl)
        have j1 : j + 1 ≤ r.size := by omega
        have rz : (r.extract (j + 1) r.size).size = r.size - (j + 1) := by simp [ByteArray.size_extract]
        obtain ⟨fn, tmps, assign, body, hy, hRd⟩ := hY pre (r.extract 0 (j + 1)) ((wr.setCell ⟨Bs, 0, none⟩ (.string (r.extract (j + 1) r.size))).drew) (by rw [← hlns, ls'.out]; exact ⟨lns g (r.extract (j + 1) r.size), by simp⟩) (hId _ _ (hIc _ _ _ hi)) (Others.setCell wr ⟨Bs, 0, none⟩ (.string (r.extract (j + 1) r.size)) _ _ hl hRc) (Others.setCell wr ⟨Bs, 0, none⟩ (.string (r.extract (j + 1) r.size)) _ _ hd hDc)
        gi_wp2_with (refine ⟨trivial, ?_⟩; gi_at_call 50; refine (HI.out _).mono ?_; rintro e w' ⟨rfl, rfl⟩)
        refine wpIn_wide.2 ?_
        go_region
        all_goals gi_wp2
        refine hRd.mono ?_
        rintro e W3 (⟨rfl, hi3, hl3, hd3, hc3, hz3⟩ | ⟨rfl, hx3⟩)
        · have hc4 : W3.cell? ⟨Bs, 0, none⟩ = some (.string (r.extract (j + 1) r.size)) := hc3.trans (show (wr.setCell ⟨Bs, 0, none⟩ (.string (r.extract (j + 1) r.size))).cell? ⟨Bs, 0, none⟩ = _ from World.cell?_setCell_same' _ _ _ (by rw [hc]; rfl))
          have hz4 : W3.frozen? ⟨Bs, 0, none⟩ = false := hz3.trans (show (wr.setCell ⟨Bs, 0, none⟩ (.string (r.extract (j + 1) r.size))).frozen? ⟨Bs, 0, none⟩ = _ from by rw [World.frozen?_setCell]; exact hz)
          gi_wp2
          go_roundw
          case rel => exact ⟨pre ++ [r.extract 0 (j + 1)], r.extract (j + 1) r.size, g, by omega, by omega, hc4, hz4, hi3, hl3, hd3, by rw [List.append_assoc, List.singleton_append, ← ls'.out]; exact hlns⟩
          case measure => rw [hc4, hc]; show (r.extract (j + 1) r.size).size < r.size; omega
        · gi_wp2
          refine bodyPost_ret (results_none rfl _ _ _) rfl ?_
          exact ⟨⟨_, rfl⟩, .inr hx3⟩

end Go.Proofs.Ytplgladflhglaaa.Lp
