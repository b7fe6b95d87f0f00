/- Walk: record once more, and where its bytes lie; the records of a transaction that is written. -/
import Derived.Test.YtpmkohnljngbhaaDoorSrW4
import Derived.Test.YtpmkohnljngbhaaDoorWalB
import Derived.Test.YtpmkohnljngbhaaDoorSrW11
set_option linter.all false
namespace Go.Proofs.YtpmkohnljngbhaaDoor.Sr
set_option linter.unusedVariables false
set_option linter.unusedSimpArgs false
set_option maxRecDepth 1000000
open Go.RowKit Wl Pg

def RcPost2 (w : World) (A : Option Addr) (r : Rec) (e : Ending) (w' : World) : Prop :=
  ∃ D c, e = .returned (.agg #[.int .i64 r.k, .int .i64 r.t, .slice D r.d.length c]) ∧ Hid (Rd w' 1 D r.d.length c (bv r.d)) ∧ Hid (D = A ∨ w'.ownsRow w.heap.size 5 1 (.slice D r.d.length c) r.d.length (bv r.d)) ∧ Below w.heap.size w w'
set_option maxHeartbeats 1600000 in
theorem record_own {A B : Option Addr} {n c m d : Nat} {k v : List UInt8} {del : Bool} (tx : Int) (w : World) (hk : Hid (Rd w 1 A n c (bv k))) (hv : Hid (Rd w 1 B m d (bv v))) (hn : n ≤ 255) (hm : m ≤ 1000) :
    Calls Tryd.prog 47 #[.agg #[.slice A n c, .slice B m d, .bool del], .int .i64 tx] w (RcPost2 w A (recC tx ⟨k, v, del⟩)) := by
  have KN : Hid (n = k.length) := Lib.hid (by have := hk.out.len; rw [bv_len] at this; omega)
  have VN : Hid (m = v.length) := Lib.hid (by have := hv.out.len; rw [bv_len] at this; omega)
  obtain ⟨p, hp⟩ : ∃ p, w.heap.size = p := ⟨_, rfl⟩
  obtain ⟨W1, hW1⟩ : ∃ W1, w.alloc (.cells #[.slice A n c, .slice B m d, .bool del] 45) = W1 := ⟨_, rfl⟩
  have v1 : Below w.heap.size w W1 := hW1 ▸ bal _ _
  have X : Hid (Bx W1 p [.slice A n c, .slice B m d, .bool del]) := hW1 ▸ Lib.hid (Bx.put _ hp #[.slice A n c, .slice B m d, .bool del] 45)
  have TX : Hid (Ty W1 p 45) := hW1 ▸ hp ▸ Lib.hid (Ty.new _ _ _)
  have HW1 := Lib.hid hW1
  clear hW1
  obtain ⟨R, hR⟩ : ∃ R, W1.heap.size = R := ⟨_, rfl⟩
  obtain ⟨W2, hW2⟩ : ∃ W2, W1.alloc (.cells #[.int .i64 0, .int .i64 0, .slice none 0 0] 66) = W2 := ⟨_, rfl⟩
  have v2 : Below W1.heap.size W1 W2 := hW2 ▸ bal _ _
  have Y : Hid (Bx W2 R [.int .i64 0, .int .i64 0, .slice none 0 0]) := hW2 ▸ Lib.hid (Bx.put _ hR #[.int .i64 0, .int .i64 0, .slice none 0 0] 66)
  have TY : Hid (Ty W2 R 66) := hW2 ▸ hR ▸ Lib.hid (Ty.new _ _ _)
  have HW2 := Lib.hid hW2
  clear hW2
  have v12 := v1.trans (v2.mono v1.size)
  have hR : w.heap.size ≤ R := by rw [← hR]; exact v1.size
  have X := Lib.hid (X.out.nx v2)
  have z0 := X.out.at_ 0 (by simp)
  have z1 := X.out.at_ 1 (by simp)
  have z2 := X.out.at_ 2 (by simp)
  simp only [List.getElem?_cons_succ, List.getElem?_cons_zero] at z0 z1 z2
  have y0 := Y.out.at_ 0 (by simp)
  have y1 := Y.out.at_ 1 (by simp)
  have y2 := Y.out.at_ 2 (by simp)
  simp only [List.getElem?_cons_succ, List.getElem?_cons_zero] at y0 y1 y2
  have f0 := Y.out.fz 0 (by simp)
  have f1 := Y.out.fz 1 (by simp)
  have f2 := Y.out.fz 2 (by simp)
  obtain ⟨C0, C1, C2⟩ := res3_cells Y.out
  have C0 := Lib.hid C0
  have C1 := Lib.hid C1
  have C2 := Lib.hid C2
  have e12 : R = p + 1 := by rw [← ‹W1.heap.size = R›, ← HW1.out, ← hp]; simp
  subst e12
  have hk0 := Lib.hid (KN.out ▸ hk.out)
  cases del with
  | true =>
    have KD := Lib.hid (hk0.out.nx (res3_below (R := p + 1) (a := .int .i64 2) (b := .int .i64 tx) (c := .slice A n c) v12 hR))
    go_enter Tryd.func47, Tryd.ntmps47
    go_upto_region 1 with fail
    rw [HW1.out, HW2.out]
    go_wp2_with fail
    refine bodyPost_ret (v := .agg #[.int .i64 2, .int .i64 tx, .slice A n c]) (by simp [results, Tryd.results47, go_sem, C0.out, C1.out, C2.out]) rfl ?_
    exact ⟨A, c, by rw [KN.out]; rfl, KD, Lib.hid (.inl rfl), res3_below v12 hR⟩
  | false =>
    have xl := X.out.lt
    have yl := Y.out.lt
    have b3 : Below W2.heap.size W2 (W2.alloc (.cells #[.int .u8 (n : Int)] 5)) := bal _ _
    have b4 : Below (W2.alloc (.cells #[.int .u8 (n : Int)] 5)).heap.size (W2.alloc (.cells #[.int .u8 (n : Int)] 5)) ((W2.alloc (.cells #[.int .u8 (n : Int)] 5)).alloc (.cells #[.slice (some ⟨W2.heap.size, 0, none⟩) 1 1, .slice A n c, .slice B m d] 23)) := bal _ _
    have hs3 : (W2.alloc (.cells #[.int .u8 (n : Int)] 5)).heap.size = W2.heap.size + 1 := by simp
    have b34 := b3.trans (b4.mono b3.size)
    have CC : Hid (Calls Tryd.prog 63 #[.slice (some ⟨W2.heap.size + 1, 0, none⟩) 3 3] ((W2.alloc (.cells #[.int .u8 (n : Int)] 5)).alloc (.cells #[.slice (some ⟨W2.heap.size, 0, none⟩) 1 1, .slice A n c, .slice B m d] 23)) fun e w' => ∃ D c', e = .returned (.slice D (recC tx ⟨k, v, false⟩).d.length c') ∧ Hid (w'.ownsRow (W2.heap.size + 2) 5 1 (.slice D (recC tx ⟨k, v, false⟩).d.length c') (recC tx ⟨k, v, false⟩).d.length (bv (recC tx ⟨k, v, false⟩).d)) ∧ Below W2.heap.size W2 w') := by
      refine Lib.hid ?_
      have H := bconc (L := [⟨some ⟨W2.heap.size, 0, none⟩, 1, [UInt8.ofNat n]⟩, ⟨A, c, k⟩, ⟨B, d, v⟩]) (B := some ⟨W2.heap.size + 1, 0, none⟩) (n := 3) (c := 3) ((W2.alloc (.cells #[.int .u8 (n : Int)] 5)).alloc (.cells #[.slice (some ⟨W2.heap.size, 0, none⟩) 1 1, .slice A n c, .slice B m d] 23)) (Lib.hid (by
          have h := rd_lit (W2.alloc (.cells #[.int .u8 (n : Int)] 5)) hs3 23 1 #[.slice (some ⟨W2.heap.size, 0, none⟩) 1 1, .slice A n c, .slice B m d] 3 (by omega) rfl
          rw [KN.out, VN.out] at h ⊢
          exact h)) (Lib.hid (by
          intro x hx
          simp only [List.mem_cons, List.not_mem_nil, or_false] at hx
          rcases hx with rfl | rfl | rfl
          · have h := rd_lit W2 rfl 5 1 #[.int .u8 (n : Int)] 1 (by omega) rfl
            have e : bv [UInt8.ofNat n] = [.int .u8 (n : Int)] := by simp [bv]; omega
            show Rd _ 1 _ 1 1 (bv [UInt8.ofNat n])
            rw [e]
            exact Rd.below h b4
          · exact (hk0.out.nx v12).nx b34
          · have hv0 := VN.out ▸ hv.out
            exact (hv0.nx v12).nx b34)) (by simp [bconc_sum]; have := KN.out; have := VN.out; omega)
      have e1 : bconc_join [⟨some ⟨W2.heap.size, 0, none⟩, 1, [UInt8.ofNat n]⟩, ⟨A, c, k⟩, ⟨B, d, v⟩] = (recC tx ⟨k, v, false⟩).d := by
        simp [bconc_join, recC, KN.out]
      rw [e1, ← bconc_join_len, e1] at H
      refine H.mono ?_
      rintro e w' ⟨D, c', he, own, b⟩
      exact ⟨D, c', he, Lib.hid (own_base own.out (by simp)), b34.trans (b.mono b34.size)⟩
    go_enter Tryd.func47, Tryd.ntmps47
    go_upto_region 1 with fail
    rw [HW1.out, HW2.out]
    clear b3 b4 hs3 b34
    go_wp2_with fail
    go_at_call 63
    refine CC.out.mono ?_
    rintro e w5 ⟨D, c', rfl, own, b5⟩
    obtain ⟨dn, hdn⟩ : ∃ dn, (recC tx ⟨k, v, false⟩).d.length = dn := ⟨_, rfl⟩
    rw [hdn] at own
    rw [hdn]
    have HDN := Lib.hid hdn
    have v15 := v12.trans (b5.mono v12.size)
    have Y5 := Lib.hid (Y.out.nx b5)
    clear hdn C0 C1 C2 y0 y1 y2 f0 f1 f2
    have y0 := Y5.out.at_ 0 (by simp)
    have y1 := Y5.out.at_ 1 (by simp)
    have y2 := Y5.out.at_ 2 (by simp)
    simp only [List.getElem?_cons_succ, List.getElem?_cons_zero] at y0 y1 y2
    have f0 := Y5.out.fz 0 (by simp)
    have f1 := Y5.out.fz 1 (by simp)
    have f2 := Y5.out.fz 2 (by simp)
    obtain ⟨C0, C1, C2⟩ := res3_cells Y5.out
    have C0 := Lib.hid C0
    have C1 := Lib.hid C1
    have C2 := Lib.hid C2
    have ne : ∀ g, blk D = some g → g ≠ p + 1 := fun g e => by have := (own_blk_le own.out e).1; omega
    have OW := Lib.hid (own_set (own_set (own_set own.out ⟨p + 1, 0, none⟩ (.int .i64 1) (fun e => ne _ e rfl)) ⟨p + 1, 1, none⟩ (.int .i64 tx) (fun e => ne _ e rfl)) ⟨p + 1, 2, none⟩ (.slice D dn c') (fun e => ne _ e rfl))
    go_wp2_with fail
    refine bodyPost_ret (v := .agg #[.int .i64 1, .int .i64 tx, .slice D dn c']) (by simp [results, Tryd.results47, go_sem, C0.out, C1.out, C2.out]) rfl ?_
    exact ⟨D, c', by rw [HDN.out]; rfl, by rw [HDN.out]; exact Lib.hid (Rd.of_own OW.out), by rw [HDN.out]; exact Lib.hid (.inr (own_base OW.out (by have := v12.size; omega))), res3_below v15 hR⟩


/-- The bytes of a record that is written: old ones, or a row of the call's own. -/
def Od (w : World) (base : Nat) (y : RV) : Prop :=
  Rd w 1 y.A y.d.length y.c (bv y.d) ∧ ((∀ g, 0 < y.d.length → blk y.A = some g → g < base) ∨ w.ownsRow base 5 1 (.slice y.A y.d.length y.c) y.d.length (bv y.d))
theorem Od.nx {w w' : World} {base : Nat} {y : RV} (h : Od w base y) (b : Below w.heap.size w w') : Od w' base y := ⟨h.1.below b, h.2.imp id fun o => own_below o b⟩
theorem Od.grew {w w' : World} {base base' n c : Nat} {y : RV} {A A' : Option Addr} {xs : List Value} (h : Od w base y) (hb : base ≤ base') (g : Grew w A w' A') (o : w.ownsRow base' 66 3 (.slice A n c) n xs) : Od w' base y := by
  rcases h.2 with h2 | h2
  · refine ⟨h.1.grew g fun hn => ?_, .inl h2⟩
    rcases hA : blk A with _ | q
    · exact .inl rfl
    · refine .inr fun e => ?_
      have := (own_blk_le o hA).1
      have := h2 q hn e.symm
      omega
  · have := own_grew h2 g (own_ne h2 o (by decide))
    exact ⟨Rd.of_own this, .inr this⟩
/-- Records that are being written. -/
structure Rw (w : World) (base : Nat) (A : Option Addr) (n c : Nat) (l : List RV) : Prop where
  row : w.ownsRow base 66 3 (.slice A n c) n (cells l)
  dat : ∀ x ∈ l, Od w base x
theorem Rw.nil_ (w : World) (base : Nat) : Rw w base none 0 0 [] := ⟨World.ownsRow_nil _ _ _ _, by simp⟩
theorem Rw.nx {w w' : World} {base n c : Nat} {A : Option Addr} {l : List RV} (h : Rw w base A n c l) (b : Below w.heap.size w w') : Rw w' base A n c l := ⟨own_below h.row b, fun x hx => (h.dat x hx).nx b⟩
theorem Rw.rr {w : World} {base n c : Nat} {A : Option Addr} {l : List RV} (h : Rw w base A n c l) : Rr w A n c l := ⟨Rd.of_own h.row, fun x hx => (h.dat x hx).1⟩
theorem Rw.push {w w' : World} {base n c : Nat} {A : Option Addr} {l : List RV} (h : Rw w base A n c l) {A' : Option Addr} {c' : Nat} (x : RV) (hx : Od w base x) (row : w'.ownsRow base 66 3 (.slice A' (n + 1) c') (n + 1) (cells l ++ x.cs)) (g : Grew w A w' A') : Rw w' base A' (n + 1) c' (l ++ [x]) := by
  refine ⟨by rw [cells_snoc]; exact row, fun y hy => ?_⟩
  rcases List.mem_append.1 hy with hy | hy
  · exact (h.dat y hy).grew (Nat.le_refl _) g h.row
  · obtain rfl := List.mem_singleton.1 hy
    exact hx.grew (Nat.le_refl _) g h.row
end Go.Proofs.YtpmkohnljngbhaaDoor.Sr
/- Walk: Commit. -/
namespace Go.Proofs.YtpmkohnljngbhaaDoor.Sr
set_option maxRecDepth 1000000
open Go.RowKit Wl Pg
section
variable {PA FA LA : Option Addr} {np pc m fc ln lc : Nat} {r0 last : Int} {f : FV} {log : List UInt8}
set_option maxHeartbeats 1600000 in
theorem sCommit_bad {A : Option Addr} {n c : Nat} {l : List CV} (w : World) (G : Hid (Gl w)) (H : Hid (Sto w f log PA np pc r0 FA m fc LA ln lc)) (C : Hid (Cr w A n c l)) (h : Hid (¬ Wvd f log last l)) :
    Calls Tryd.prog 22 #[.agg #[.slice PA np pc, .int .i64 r0, .slice FA m fc, .slice LA ln lc, .int .i64 last, .slice A n c]] w fun e w' => e = .returned (.tuple #[.agg #[.slice none 0 0, .int .i64 0, .slice none 0 0, .slice none 0 0, .int .i64 0], .int .i64 16]) ∧ Below w.heap.size w w' := by
  obtain ⟨p, hp⟩ : ∃ p, w.heap.size = p := ⟨_, rfl⟩
  obtain ⟨W1, hW1⟩ : ∃ W1, w.alloc (.cells #[.slice PA np pc, .int .i64 r0, .slice FA m fc, .slice LA ln lc, .int .i64 last, .slice A n c] 48) = W1 := ⟨_, rfl⟩
  have bw : Below w.heap.size w W1 := hW1 ▸ bal _ _
  have X : Hid (Bx W1 p [.slice PA np pc, .int .i64 r0, .slice FA m fc, .slice LA ln lc, .int .i64 last, .slice A n c]) := hW1 ▸ Lib.hid (Bx.put _ hp #[.slice PA np pc, .int .i64 r0, .slice FA m fc, .slice LA ln lc, .int .i64 last, .slice A n c] 48)
  have TX : Hid (Ty W1 p 48) := hW1 ▸ hp ▸ Lib.hid (Ty.new _ _ _)
  have HW1 := Lib.hid hW1
  clear hW1
  obtain ⟨R, hR⟩ : ∃ R, W1.heap.size = R := ⟨_, rfl⟩
  obtain ⟨W2, hW2⟩ : ∃ W2, W1.alloc (.cells #[.slice none 0 0, .int .i64 0, .slice none 0 0, .slice none 0 0, .int .i64 0] 31) = W2 := ⟨_, rfl⟩
  have v2 : Below W1.heap.size W1 W2 := hW2 ▸ bal _ _
  have Y : Hid (Bx W2 R [.slice none 0 0, .int .i64 0, .slice none 0 0, .slice none 0 0, .int .i64 0]) := hW2 ▸ Lib.hid (Bx.put _ hR #[.slice none 0 0, .int .i64 0, .slice none 0 0, .slice none 0 0, .int .i64 0] 31)
  have TY : Hid (Ty W2 R 31) := hW2 ▸ hR ▸ Lib.hid (Ty.new _ _ _)
  have HW2 := Lib.hid hW2
  clear hW2
  have hR' : w.heap.size ≤ R := by rw [← hR]; exact bw.size
  have eR : R = p + 1 := by rw [← hR, ← HW1.out, ← hp]; simp
  subst eR
  have X := Lib.hid (X.out.nx v2)
  have bw := bw.trans (v2.mono bw.size)
  have x0 := X.out.at_ 0 (by simp)
  have x1 := X.out.at_ 1 (by simp)
  have x2 := X.out.at_ 2 (by simp)
  have x3 := X.out.at_ 3 (by simp)
  have x4 := X.out.at_ 4 (by simp)
  have x5 := X.out.at_ 5 (by simp)
  simp only [List.getElem?_cons_succ, List.getElem?_cons_zero] at x0 x1 x2 x3 x4 x5
  have SW := Lib.hid (sWork_any (last := last) W2 (Lib.hid (G.out.nx bw)) (Lib.hid (H.out.nx bw)) (Lib.hid (C.out.nx bw)))
  go_enter Tryd.func22, Tryd.ntmps22
  go_upto_region 1 with fail
  rw [HW1.out, HW2.out]
  go_wp2_with fail
  go_at_call 46
  refine SW.out.mono ?_
  rintro e w2 ⟨b, rfl, hb, b2⟩
  have hbf : b = false := by
    cases b with
    | false => rfl
    | true => exact absurd (hb.1 rfl) h.out
  subst hbf
  clear hb x0 x1 x2 x3 x4 x5 SW
  replace bw := bw.trans (b2.mono bw.size)
  replace X := Lib.hid (X.out.nx b2)
  replace Y := Lib.hid (Y.out.nx b2)
  have y0 := Y.out.at_ 0 (by simp)
  have y1 := Y.out.at_ 1 (by simp)
  have y2 := Y.out.at_ 2 (by simp)
  have y3 := Y.out.at_ 3 (by simp)
  have y4 := Y.out.at_ 4 (by simp)
  simp only [List.getElem?_cons_succ, List.getElem?_cons_zero] at y0 y1 y2 y3 y4
  have f0 := Y.out.fz 0 (by simp)
  have f1 := Y.out.fz 1 (by simp)
  have f2 := Y.out.fz 2 (by simp)
  have f3 := Y.out.fz 3 (by simp)
  have f4 := Y.out.fz 4 (by simp)
  have Q := Lib.hid (res5_cells Y.out rfl (.slice none 0 0) (.int .i64 0) (.slice none 0 0) (.slice none 0 0) (.int .i64 0))
  have bF := res5_below (a := .slice none 0 0) (b := .int .i64 0) (c := .slice none 0 0) (d := .slice none 0 0) (e := .int .i64 0) bw hR'
  go_wp2_with fail
  obtain ⟨W9, hW9⟩ : ∃ u, (((((w2.setCell ⟨p + 1, 0, none⟩ (.slice none 0 0)).setCell ⟨p + 1, 1, none⟩ (.int .i64 0)).setCell ⟨p + 1, 2, none⟩ (.slice none 0 0)).setCell ⟨p + 1, 3, none⟩ (.slice none 0 0)).setCell ⟨p + 1, 4, none⟩ (.int .i64 0)) = u := ⟨_, rfl⟩
  rw [hW9] at Q bF ⊢
  have q0 := Q.out.at_ 0 (by simp)
  have q1 := Q.out.at_ 1 (by simp)
  have q2 := Q.out.at_ 2 (by simp)
  have q3 := Q.out.at_ 3 (by simp)
  have q4 := Q.out.at_ 4 (by simp)
  simp only [List.getElem?_cons_succ, List.getElem?_cons_zero] at q0 q1 q2 q3 q4
  refine bodyPost_ret (v := .tuple #[.agg #[.slice none 0 0, .int .i64 0, .slice none 0 0, .slice none 0 0, .int .i64 0], .int .i64 16]) (by simp [results, Tryd.results22, go_sem, q0, q1, q2, q3, q4]) rfl ?_
  exact ⟨rfl, bF⟩
/-- The log behind a commit. -/
def cmLog (log : List UInt8) (last : Int) (l : List CV) : List UInt8 := log ++ encs (recT (last + 1) (l.map CV.ch))
def CmPost (w : World) (PA : Option Addr) (np pc : Nat) (r0 : Int) (FA : Option Addr) (m fc : Nat) (last : Int) (L : List UInt8) (e : Ending) (w' : World) : Prop :=
  ∃ (LA : Option Addr) (ln lc : Nat), e = .returned (.tuple #[.agg #[.slice PA np pc, .int .i64 r0, .slice FA m fc, .slice LA ln lc, .int .i64 (last + 1)], .int .i64 0]) ∧ Hid (ln = L.length) ∧ Hid (w'.ownsRow w.heap.size 5 1 (.slice LA ln lc) ln (bv L)) ∧ Below w.heap.size w w'
theorem takeR {l : List CV} {j : Nat} {x : CV} {t : Int} (h : l[j]? = some x) : ((l.take (j + 1)).map CV.ch).map (recC t) = ((l.take j).map CV.ch).map (recC t) ++ [recC t x.ch] := by
  rw [List.take_add_one, h]; simp
theorem encs_take {l : List RV} {j : Nat} {x : RV} (h : l[j]? = some x) : encs ((l.take (j + 1)).map RV.r) = encs ((l.take j).map RV.r) ++ enc x.r := by
  rw [List.take_add_one, h]; simp [encs]
theorem encs_le (l : List RV) (j : Nat) : (encs ((l.take j).map RV.r)).length ≤ (encs (l.map RV.r)).length := by
  have : l.map RV.r = (l.take j).map RV.r ++ (l.drop j).map RV.r := by rw [← List.map_append, List.take_append_drop]
  rw [this, encs_app, List.length_append]; omega
set_option maxHeartbeats 6400000 in
theorem sCommit_ok {A : Option Addr} {n c : Nat} {l : List CV} (w : World) (G : Hid (Gl w)) (H : Hid (Sto w f log PA np pc r0 FA m fc LA ln lc)) (C : Hid (Cr w A n c l)) (V : Hid (Wvd f log last l)) (hl1 : last < 2147483648) (hlen : Hid ((cmLog log last l).length ≤ 1048576)) :
    Calls Tryd.prog 22 #[.agg #[.slice PA np pc, .int .i64 r0, .slice FA m fc, .slice LA ln lc, .int .i64 last, .slice A n c]] w (CmPost w PA np pc r0 FA m fc last (cmLog log last l)) := by
  obtain ⟨i0, hi, hz0, hz1, hz2⟩ := info_parts info_rec
  obtain ⟨k0, ki, kz0, kz1, kz2⟩ := info_parts info_byte
  have NL := Lib.hid C.out.len
  have n1 : n ≤ 100 := by have := V.out.1; have := NL.out; omega
  have hnc := C.out.row.nc
  have hc63 := C.out.row.c63
  have l0 := V.out.2.1.1
  have LL := Lib.hid H.out.ll
  obtain ⟨p, hp⟩ : ∃ p, w.heap.size = p := ⟨_, rfl⟩
  obtain ⟨W1, hW1⟩ : ∃ W1, w.alloc (.cells #[.slice PA np pc, .int .i64 r0, .slice FA m fc, .slice LA ln lc, .int .i64 last, .slice A n c] 48) = W1 := ⟨_, rfl⟩
  have bw : Below w.heap.size w W1 := hW1 ▸ bal _ _
  have X : Hid (Bx W1 p [.slice PA np pc, .int .i64 r0, .slice FA m fc, .slice LA ln lc, .int .i64 last, .slice A n c]) := hW1 ▸ Lib.hid (Bx.put _ hp #[.slice PA np pc, .int .i64 r0, .slice FA m fc, .slice LA ln lc, .int .i64 last, .slice A n c] 48)
  have TX : Hid (Ty W1 p 48) := hW1 ▸ hp ▸ Lib.hid (Ty.new _ _ _)
  have HW1 := Lib.hid hW1
  clear hW1
  obtain ⟨R, hR⟩ : ∃ R, W1.heap.size = R := ⟨_, rfl⟩
  obtain ⟨W2, hW2⟩ : ∃ W2, W1.alloc (.cells #[.slice none 0 0, .int .i64 0, .slice none 0 0, .slice none 0 0, .int .i64 0] 31) = W2 := ⟨_, rfl⟩
  have v2 : Below W1.heap.size W1 W2 := hW2 ▸ bal _ _
  have Y : Hid (Bx W2 R [.slice none 0 0, .int .i64 0, .slice none 0 0, .slice none 0 0, .int .i64 0]) := hW2 ▸ Lib.hid (Bx.put _ hR #[.slice none 0 0, .int .i64 0, .slice none 0 0, .slice none 0 0, .int .i64 0] 31)
  have TY : Hid (Ty W2 R 31) := hW2 ▸ hR ▸ Lib.hid (Ty.new _ _ _)
  have HW2 := Lib.hid hW2
  clear hW2
  have hR' : w.heap.size ≤ R := by rw [← hR]; exact bw.size
  have eR : R = p + 1 := by rw [← hR, ← HW1.out, ← hp]; simp
  subst eR
  have X := Lib.hid (X.out.nx v2)
  have bw := bw.trans (v2.mono bw.size)
  have x0 := X.out.at_ 0 (by simp)
  have x1 := X.out.at_ 1 (by simp)
  have x2 := X.out.at_ 2 (by simp)
  have x3 := X.out.at_ 3 (by simp)
  have x4 := X.out.at_ 4 (by simp)
  have x5 := X.out.at_ 5 (by simp)
  simp only [List.getElem?_cons_succ, List.getElem?_cons_zero] at x0 x1 x2 x3 x4 x5
  have SW := Lib.hid (sWork_any (last := last) W2 (Lib.hid (G.out.nx bw)) (Lib.hid (H.out.nx bw)) (Lib.hid (C.out.nx bw)))
  have q1 : (last == 2147483648) = false := by simp; omega
  have q2 : IntKind.i64.wrap (last + 1) = last + 1 := by simp only [IntKind.wrap_i64]; omega
  go_enter Tryd.func22, Tryd.ntmps22
  go_upto_region 1 with fail
  rw [HW1.out, HW2.out]
  go_wp2_with fail
  go_at_call 46
  refine SW.out.mono ?_
  rintro e w2 ⟨b, rfl, hb, b2⟩
  obtain rfl : b = true := hb.2 V.out
  clear hb x0 x1 x2 x3 x4 x5 SW
  replace bw := bw.trans (b2.mono bw.size)
  replace X := Lib.hid (X.out.nx b2)
  replace Y := Lib.hid (Y.out.nx b2)
  have x0 := X.out.at_ 0 (by simp)
  have x1 := X.out.at_ 1 (by simp)
  have x2 := X.out.at_ 2 (by simp)
  have x3 := X.out.at_ 3 (by simp)
  have x4 := X.out.at_ 4 (by simp)
  have x5 := X.out.at_ 5 (by simp)
  simp only [List.getElem?_cons_succ, List.getElem?_cons_zero] at x0 x1 x2 x3 x4 x5
  obtain ⟨S, hS⟩ : ∃ S, w2.heap.size = S := ⟨_, rfl⟩
  obtain ⟨W3, hW3⟩ : ∃ W3, w2.alloc (.cells #[.slice PA np pc, .int .i64 r0, .slice FA m fc, .slice LA ln lc, .int .i64 last] 31) = W3 := ⟨_, rfl⟩
  have v3 : Below w2.heap.size w2 W3 := hW3 ▸ bal _ _
  have Z : Hid (Bx W3 S [.slice PA np pc, .int .i64 r0, .slice FA m fc, .slice LA ln lc, .int .i64 last]) := hW3 ▸ Lib.hid (Bx.put _ hS #[.slice PA np pc, .int .i64 r0, .slice FA m fc, .slice LA ln lc, .int .i64 last] 31)
  have TZ : Hid (Ty W3 S 31) := hW3 ▸ hS ▸ Lib.hid (Ty.new _ _ _)
  have HW3 := Lib.hid hW3
  clear hW3
  have hS' : w.heap.size ≤ S := by rw [← hS]; exact bw.size
  have pS : p + 1 < w2.heap.size := Y.out.lt
  go_upto_region 4 with fail
  rw [HW3.out]
  replace bw := bw.trans (v3.mono bw.size)
  replace X := Lib.hid (X.out.nx v3)
  replace Y := Lib.hid (Y.out.nx v3)
  clear x0 x1 x2 x3 x4 x5
  have x0 := X.out.at_ 0 (by simp)
  have x1 := X.out.at_ 1 (by simp)
  have x2 := X.out.at_ 2 (by simp)
  have x3 := X.out.at_ 3 (by simp)
  have x4 := X.out.at_ 4 (by simp)
  have x5 := X.out.at_ 5 (by simp)
  simp only [List.getElem?_cons_succ, List.getElem?_cons_zero] at x0 x1 x2 x3 x4 x5
  have z0 := Z.out.at_ 0 (by simp)
  have z1 := Z.out.at_ 1 (by simp)
  have z2 := Z.out.at_ 2 (by simp)
  have z3 := Z.out.at_ 3 (by simp)
  have z4 := Z.out.at_ 4 (by simp)
  simp only [List.getElem?_cons_succ, List.getElem?_cons_zero] at z0 z1 z2 z3 z4
  have g0 := Z.out.fz 0 (by simp)
  have g1 := Z.out.fz 1 (by simp)
  have g2 := Z.out.fz 2 (by simp)
  have g3 := Z.out.fz 3 (by simp)
  have g4 := Z.out.fz 4 (by simp)
  have zl := Z.out.lt
  have pl := X.out.lt
  have yl := Y.out.lt
  have hpS : p ≠ S := by have := X.out.lt; rw [← hS]; have h := pS; omega
  have hyS : p + 1 ≠ S := by rw [← hS]; have h := pS; omega
  go_wp2_with fail
  obtain ⟨W4, hW4⟩ : ∃ u, W3.setCell ⟨S, 4, none⟩ (.int .i64 (last + 1)) = u := ⟨_, rfl⟩
  rw [hW4]
  have Z4 : Hid (Bx W4 S [.slice PA np pc, .int .i64 r0, .slice FA m fc, .slice LA ln lc, .int .i64 (last + 1)]) := hW4 ▸ Lib.hid (Z.out.set (j := 4) (by simp) (.int .i64 (last + 1)))
  have Y4 : Hid (Bx W4 (p + 1) [.slice none 0 0, .int .i64 0, .slice none 0 0, .slice none 0 0, .int .i64 0]) := hW4 ▸ Lib.hid (Y.out.other (q := S) (by omega) 4 _)
  have bw4 : Below w.heap.size w W4 := hW4 ▸ bw.setCell (p := ⟨S, 4, none⟩) hS' _
  have C4 := Lib.hid (C.out.nx bw4)
  have H4 := Lib.hid (H.out.nx bw4)
  clear hW4 x0 x1 x2 x3 x4 x5 z0 z1 z2 z3 z4 g0 g1 g2 g3 g4 X Y Z zl pl yl
  have CX : Hid (∀ x ∈ l, x.ch.ok = true) := Lib.hid V.out.2.2
  go_loopw [5, 30] (fun lv iv wr => ∃ (j : Nat) (A' : Option Addr) (c' : Nat) (rl : List RV), j ≤ n ∧ iv = .int .i64 j ∧ lv = .slice A' j c' ∧ Hid (rl.map RV.r = ((l.take j).map CV.ch).map (recC (last + 1))) ∧ Hid (Rw wr W4.heap.size A' j c' rl) ∧ Below W4.heap.size W4 wr) (fun _ iv _ => (n - intOf iv).toNat)
  case atStart => exact ⟨0, none, 0, [], by omega, rfl, rfl, Lib.hid rfl, Lib.hid (Rw.nil_ _ _), Below.refl _ _⟩
  case round =>
    obtain ⟨j, A', c', rl, hj, rfl, rfl, RL, RWW, b1⟩ := hrel
    by_cases hlt : j < n
    · have d1 : decide ((j : Int) < (n : Int)) = true := decide_eq_true (by omega)
      obtain ⟨g, o, x, rfl, hg, hx, c0, c1, c2⟩ := (C4.out.nx b1).item hlt
      have TK := Lib.hid (takeR (t := last + 1) hx)
      have HM := Lib.hid (List.mem_of_getElem? hx)
      have DX := Lib.hid (C.out.dat x HM.out)
      have OKX := Lib.hid (ok_iff.1 (CX.out x HM.out))
      obtain ⟨kn, hkn⟩ : ∃ kn, x.k.length = kn := ⟨_, rfl⟩
      obtain ⟨vn, hvn⟩ : ∃ vn, x.v.length = vn := ⟨_, rfl⟩
      have k1 : 1 ≤ kn ∧ kn ≤ 40 := by have := OKX.out.1; rw [← hkn]; exact this
      have v1 : vn ≤ 120 := by have := OKX.out.2.1; rw [← hvn]; exact this
      rw [hkn] at c0
      rw [hvn] at c1
      have HKN := Lib.hid hkn
      have HVN := Lib.hid hvn
      clear hx hkn hvn
      obtain ⟨q5, hq5⟩ : ∃ q5, wr.heap.size = q5 := ⟨_, rfl⟩
      obtain ⟨W5, hW5⟩ : ∃ W5, wr.alloc (.cells #[.slice x.A kn x.c, .slice x.B vn x.d, .bool x.del] 45) = W5 := ⟨_, rfl⟩
      have b5 : Below wr.heap.size wr W5 := hW5 ▸ bal _ _
      have U : Hid (Bx W5 q5 [.slice x.A kn x.c, .slice x.B vn x.d, .bool x.del]) := hW5 ▸ Lib.hid (Bx.put _ hq5 #[.slice x.A kn x.c, .slice x.B vn x.d, .bool x.del] 45)
      have TU : Hid (Ty W5 q5 45) := hW5 ▸ hq5 ▸ Lib.hid (Ty.new _ _ _)
      have HW5 := Lib.hid hW5
      clear hW5
      have b15 := b1.trans (b5.mono b1.size)
      have bw5 := bw4.trans (b15.mono bw4.size)
      have Z5 := Lib.hid (Z4.out.nx b15)
      have u0 := U.out.at_ 0 (by simp)
      have u1 := U.out.at_ 1 (by simp)
      have u2 := U.out.at_ 2 (by simp)
      simp only [List.getElem?_cons_succ, List.getElem?_cons_zero] at u0 u1 u2
      have z0 := Z5.out.at_ 0 (by simp)
      have z1 := Z5.out.at_ 1 (by simp)
      have z2 := Z5.out.at_ 2 (by simp)
      have z3 := Z5.out.at_ 3 (by simp)
      have z4 := Z5.out.at_ 4 (by simp)
      simp only [List.getElem?_cons_succ, List.getElem?_cons_zero] at z0 z1 z2 z3 z4
      have RC := record_own (A := x.A) (B := x.B) (n := kn) (c := x.c) (m := vn) (d := x.d) (k := x.k) (v := x.v) (del := x.del) (last + 1) W5 (Lib.hid (by rw [← HKN.out]; exact DX.out.k.nx bw5)) (Lib.hid (by rw [← HVN.out]; exact DX.out.v.nx bw5)) (by omega) (by omega)
      obtain ⟨r, hr⟩ : ∃ r, recC (last + 1) ⟨x.k, x.v, x.del⟩ = r := ⟨_, rfl⟩
      rw [hr] at RC
      have HR : Hid (recC (last + 1) x.ch = r) := Lib.hid hr
      have RC := Lib.hid RC
      clear hr
      go_upto_region 11 with fail
      rw [HW5.out]
      go_wp2_with fail
      go_at_call 47
      refine RC.out.mono ?_
      rintro e w6 ⟨D, c6, rfl, rd6, od6, b6⟩
      obtain ⟨rk, rt, rdd⟩ := r
      dsimp only at rd6 od6 ⊢
      obtain ⟨rn, hrn⟩ : ∃ rn, rdd.length = rn := ⟨_, rfl⟩
      rw [hrn] at rd6 od6 ⊢
      have HRN := Lib.hid hrn
      have b16 := b15.trans (b6.mono b15.size)
      have RW6 := Lib.hid ((RWW.out.nx b5).nx b6)
      have s16 := b16.size
      have OD : Hid (Od w6 W4.heap.size ⟨rk, rt, D, c6, rdd⟩) := Lib.hid ⟨by show Rd w6 1 D rdd.length c6 (bv rdd); rw [HRN.out]; exact rd6.out, by
        rcases od6.out with rfl | ho
        · refine .inl fun g' _ e => ?_
          obtain ⟨g1, o1, e1, hg1, _⟩ := DX.out.k.at_ (by have := HKN.out; omega)
          dsimp only at e
          rw [e1] at e
          simp only [blk, Option.map_some, Option.some.injEq] at e
          have := bw4.size
          omega
        · refine .inr ?_
          dsimp only
          rw [HRN.out]
          exact own_base ho b15.size⟩
      clear rd6 od6 hrn c0 c1 c2 u0 u1 u2 z0 z1 z2 z3 z4
      go_wp2_with (at_builtin; apply hold)
      unfold Hold
      refine wpList_app _ rfl (.tmp 34) (.tmp 39) 62 rfl W4.heap.size 66 i0 (.agg #[.int .i64 0, .int .i64 0, .slice none 0 0]) 3 40 Tryd.underlying62 hi hz0 hz1 hz2 rfl (by omega) (by rfl) (own_below RW6.out.row (bal _ _)) (by rfl) (Rd.lit w6 _ 3 #[.int .i64 rk, .int .i64 rt, .slice D rn c6] 1 (by omega) rfl) (Wl.one3 _ _ _ rfl rfl rfl) (by omega) (by omega) (by simp; omega) ?_
      intro A8 c8 W8 own8 g8
      have b8 : Below W4.heap.size W4 W8 := g8.low (bel_alloc b16 (Nat.le_refl _) _) (by simp; omega) fun q e => (own_blk_le RW6.out.row e).1
      have RW8 : Hid (Rw W8 W4.heap.size A8 (j + 1) c8 (rl ++ [⟨rk, rt, D, c6, rdd⟩])) := Lib.hid ((RW6.out.nx (bal _ _)).push ⟨rk, rt, D, c6, rdd⟩ (OD.out.nx (bal _ _)) (by
        have e : (⟨rk, rt, D, c6, rdd⟩ : RV).cs = [.int .i64 rk, .int .i64 rt, .slice D rn c6] := by unfold RV.cs; dsimp only; rw [HRN.out]
        rw [e]; exact own8) g8)
      have RL8 : Hid ((rl ++ [(⟨rk, rt, D, c6, rdd⟩ : RV)]).map RV.r = ((l.take (j + 1)).map CV.ch).map (recC (last + 1))) := Lib.hid (by
        rw [TK.out, HR.out, List.map_append, RL.out]; rfl)
      clear own8 g8
      go_wp2_with fail
      go_roundw
      case rel => exact ⟨j + 1, A8, c8, _, by omega, by go_num, by first | rfl | go_num, RL8, RW8, b8⟩
      case measure => simp [intOf]; omega
    · obtain rfl : j = n := by omega
      have d1 : decide ((j : Int) < (j : Int)) = false := decide_eq_false (by omega)
      have RL : Hid (rl.map RV.r ++ [(⟨3, last + 1, []⟩ : Rec)] = recT (last + 1) (l.map CV.ch)) := Lib.hid (by
        rw [RL.out, List.take_of_length_le (by have := NL.out; omega)]; rfl)
      have Z1 := Lib.hid (Z4.out.nx b1)
      have Y1 := Lib.hid (Y4.out.nx b1)
      have z0 := Z1.out.at_ 0 (by simp)
      have z1 := Z1.out.at_ 1 (by simp)
      have z2 := Z1.out.at_ 2 (by simp)
      have z3 := Z1.out.at_ 3 (by simp)
      have z4 := Z1.out.at_ 4 (by simp)
      simp only [List.getElem?_cons_succ, List.getElem?_cons_zero] at z0 z1 z2 z3 z4
      have bw1 := bw4.trans (b1.mono bw4.size)
      obtain ⟨wB, rfl⟩ : ∃ u, u = wr := ⟨_, rfl⟩
      have BC := Lib.hid (bclone_any wB (Lib.hid ((H.out.nx bw1).lg)) (bv_one _) (by have := H.out.l2; omega))
      go_wp2_with fail
      go_at_call 44
      refine BC.out.mono ?_
      rintro e w7 ⟨A7, c7, rfl, own7, b7⟩
      have Z7 := Lib.hid (Z1.out.nx b7)
      have RW7 := Lib.hid (RWW.out.nx b7)
      have b17 := b1.trans (b7.mono b1.size)
      have s17 := b17.size
      have s7 := b7.size
      clear z0 z1 z2 z3 z4 BC
      have z0 := Z7.out.at_ 0 (by simp)
      have z1 := Z7.out.at_ 1 (by simp)
      have z2 := Z7.out.at_ 2 (by simp)
      have z3 := Z7.out.at_ 3 (by simp)
      have z4 := Z7.out.at_ 4 (by simp)
      simp only [List.getElem?_cons_succ, List.getElem?_cons_zero] at z0 z1 z2 z3 z4
      go_wp2_with (at_builtin; apply hold)
      unfold Hold
      refine wpList_app _ rfl (.tmp 45) (.tmp 49) 62 rfl W4.heap.size 66 i0 (.agg #[.int .i64 0, .int .i64 0, .slice none 0 0]) 3 40 Tryd.underlying62 hi hz0 hz1 hz2 rfl (by omega) (by rfl) (own_below RW7.out.row (bal _ _)) (by rfl) (Rd.lit w7 _ 3 #[.int .i64 3, .int .i64 (last + 1), .slice none 0 0] 1 (by omega) rfl) (Wl.one3 _ _ _ rfl rfl rfl) (by omega) (by omega) (by simp; omega) ?_
      intro A8 c8 W8 own8 g8
      have bL : Below w7.heap.size w7 (w7.alloc (.cells #[.int .i64 3, .int .i64 (last + 1), .slice none 0 0] 66)) := bal _ _
      have RW8 : Hid (Rw W8 W4.heap.size A8 (j + 1) c8 (rl ++ [⟨3, last + 1, none, 0, []⟩])) := Lib.hid ((RW7.out.nx bL).push ⟨3, last + 1, none, 0, []⟩ ⟨Rd.nil_ _ _, .inr (World.ownsRow_nil _ _ _ _)⟩ own8 g8)
      have OL8 := Lib.hid (own_grew (own_below own7.out bL) g8 (own_ne (own_below own7.out bL) (own_below RW7.out.row bL) (by decide)))
      have b8 : Below W4.heap.size W4 W8 := g8.low (b17.trans (bL.mono b17.size)) (by simp; omega) fun q e => (own_blk_le RW7.out.row e).1
      have DB : Hid (∀ y ∈ rl ++ [(⟨3, last + 1, none, 0, []⟩ : RV)], ∀ g, 0 < y.d.length → blk y.A = some g → g < wB.heap.size) := Lib.hid fun y hy g hn e => by
        rcases List.mem_append.1 hy with hy | hy
        · obtain ⟨g1, o1, e1, hg1, _⟩ := (RWW.out.dat y hy).1.at_ hn
          rw [e1] at e
          simp only [blk, Option.map_some, Option.some.injEq] at e
          omega
        · obtain rfl := List.mem_singleton.1 hy
          simp at hn
      obtain ⟨rl2, hrl2⟩ : ∃ rl2, rl ++ [(⟨3, last + 1, none, 0, []⟩ : RV)] = rl2 := ⟨_, rfl⟩
      have RL2 : Hid (rl2.map RV.r = recT (last + 1) (l.map CV.ch)) := Lib.hid (by rw [← hrl2, List.map_append]; exact RL.out)
      rw [hrl2] at RW8 DB
      have sB : W4.heap.size ≤ wB.heap.size := b1.size
      have sB8 : wB.heap.size ≤ W8.heap.size := Nat.le_trans s7 (Nat.le_trans bL.size g8.by_.size)
      have KO : Hid (∀ y ∈ rl2, Wl.ok y.r) := Lib.hid fun y hy => recT_ok (cs := l.map CV.ch) (t := last + 1) (fun c hc => by obtain ⟨x, hx, rfl⟩ := List.mem_map.1 hc; exact CX.out x hx) (by omega) (by omega) y.r (by rw [← RL2.out]; exact List.mem_map_of_mem hy)
      have N2 : Hid (j + 1 = rl2.length) := Lib.hid (len3 (Rd.of_own RW8.out.row))
      have CML : Hid (cmLog log last l = log ++ encs (rl2.map RV.r)) := Lib.hid (by rw [RL2.out]; rfl)
      have R8 := Lib.hid RW8.out.row
      have D8 : Hid (∀ y ∈ rl2, Rd W8 1 y.A y.d.length y.c (bv y.d)) := Lib.hid fun y hy => (RW8.out.dat y hy).1
      have hlc := hlen.out
      rw [CML.out, List.length_append] at hlc
      have HLC := Lib.hid hlc
      have LLO := LL
      have wln : ln ≤ 1048576 := by rw [LL.out]; omega
      clear hrl2 own8 g8 bL RW8 RW7 RWW z0 z1 z2 z3 z4 own7 hlc Z7 RL
      have rnc := (Rd.of_own R8.out).nc
      have r63 := (Rd.of_own R8.out).c63
      go_wp2_with fail
      go_loopw [8, 52] (fun gv iv wr => ∃ (i : Nat) (LB : Option Addr) (lb cb : Nat), i ≤ j + 1 ∧ iv = .int .i64 i ∧ gv = .slice LB lb cb ∧ lb ≤ 1048576 ∧ Hid (lb = (log ++ encs ((rl2.take i).map RV.r)).length) ∧ Hid (wr.ownsRow wB.heap.size 5 1 (.slice LB lb cb) lb (bv (log ++ encs ((rl2.take i).map RV.r)))) ∧ Hid (wr.ownsRow W4.heap.size 66 3 (.slice A8 (j + 1) c8) (j + 1) (cells rl2)) ∧ Hid (∀ y ∈ rl2, Rd wr 1 y.A y.d.length y.c (bv y.d)) ∧ wB.heap.size ≤ wr.heap.size ∧ Below W4.heap.size W4 wr) (fun _ iv _ => (j + 1 - intOf iv).toNat)
      case atStart => exact ⟨0, A7, ln, c7, by omega, rfl, rfl, wln, Lib.hid (by simp [encs, LL.out]), by simpa [encs] using OL8, R8, D8, sB8, b8⟩
      case round =>
        obtain ⟨i, LB, lb, cb, hi2, rfl, rfl, hlb, HLB, OLB, ROW, DAT, sBr, b9⟩ := hrel
        have bw9 := bw4.trans (b9.mono bw4.size)
        have s9 := b9.size
        by_cases hlt2 : i < j + 1
        · have d2 : decide ((i : Int) < (j : Int) + 1) = true := decide_eq_true (by omega)
          have RRr : Hid (Rr wr A8 (j + 1) c8 rl2) := Lib.hid ⟨Rd.of_own ROW.out, DAT.out⟩
          obtain ⟨g, o, y, rfl, hg, hy, hym, a0, a1, a2⟩ := RRr.out.rec_ (i := i) (by omega)
          have ET := Lib.hid (encs_take hy)
          have KY := Lib.hid (KO.out y hym)
          have DY := Lib.hid (DAT.out y hym)
          have LEt := encs_le rl2 (i + 1)
          rw [ET.out, List.length_append, Wl.enc_len] at LEt
          obtain ⟨yn, hyn⟩ : ∃ yn, y.d.length = yn := ⟨_, rfl⟩
          have hYr : y.r.d.length = yn := hyn
          rw [hYr] at LEt
          have lb2 : lb + (21 + yn) ≤ 1048576 := by have h1 := HLB.out; rw [List.length_append] at h1; have := HLC.out; omega
          rw [hyn] at a2 DY
          have HYN := Lib.hid hyn
          have OV : okV y.k y.t yn = true := decide_eq_true ⟨KY.out.1, KY.out.2.1, KY.out.2.2.1, by rw [← HYN.out]; exact KY.out.2.2.2.2.1, fun e => by have : y.d = [] := KY.out.2.2.2.2.2 e; rw [← HYN.out, this]; rfl⟩
          have t9 : y.t ≤ 9223372036854775807 := by have h : y.t < 9223372036854775808 := KY.out.2.2.2.1; omega
          clear hy hym hyn hYr LEt
          obtain ⟨q6, hq6⟩ : ∃ q6, wr.heap.size = q6 := ⟨_, rfl⟩
          obtain ⟨W9, hW9⟩ : ∃ W9, wr.alloc (.cells #[.int .i64 y.k, .int .i64 y.t, .slice y.A yn y.c] 66) = W9 := ⟨_, rfl⟩
          have b10 : Below wr.heap.size wr W9 := hW9 ▸ bal _ _
          have U : Hid (Bx W9 q6 [.int .i64 y.k, .int .i64 y.t, .slice y.A yn y.c]) := hW9 ▸ Lib.hid (Bx.put _ hq6 #[.int .i64 y.k, .int .i64 y.t, .slice y.A yn y.c] 66)
          have TU : Hid (Ty W9 q6 66) := hW9 ▸ hq6 ▸ Lib.hid (Ty.new _ _ _)
          have HW9 := Lib.hid hW9
          clear hW9
          have u0 := U.out.at_ 0 (by simp)
          have u1 := U.out.at_ 1 (by simp)
          have u2 := U.out.at_ 2 (by simp)
          simp only [List.getElem?_cons_succ, List.getElem?_cons_zero] at u0 u1 u2
          have EN := Lib.hid (Encode_ok y.k y.t W9 (Lib.hid (DY.out.nx b10)) OV t9)
          clear OV
          go_upto_region 17 with fail
          rw [HW9.out]
          go_wp2_with fail
          go_at_call 48
          refine EN.out.mono ?_
          rintro e w11 ⟨A11, c11, rfl, own11, b11⟩
          have b911 := b10.trans (b11.mono b10.size)
          have OLB := Lib.hid (own_below OLB.out b911)
          have ROW := Lib.hid (own_below ROW.out b911)
          have DAT : Hid (∀ y ∈ rl2, Rd w11 1 y.A y.d.length y.c (bv y.d)) := Lib.hid fun y hy => (DAT.out y hy).nx b911
          have b11' := b9.trans (b911.mono b9.size)
          have s11 := b911.size
          have OW11 := Lib.hid own11
          have BB : wB.heap.size ≤ w11.heap.size := Nat.le_trans sBr s11
          clear a0 a1 a2 u0 u1 u2 own11 b11 EN
          go_wp2_with (at_builtin; apply hold)
          unfold Hold
          refine wpList_app _ rfl (.tmp 65) (.tmp 66) 23 rfl wB.heap.size 5 k0 (.int .u8 0) 1 1 Tryd.underlying23 ki kz0 kz1 kz2 rfl (by omega) (by rfl) OLB.out (by rfl) (Rd.of_own OW11.out) (bv_one _) (by omega) (by omega) BB ?_
          intro A12 c12 W12 own12 g12
          have b12 : Below W4.heap.size W4 W12 := g12.low b11' b11'.size fun g e => Nat.le_trans sB (own_blk_le OLB.out e).1
          have ROW12 := Lib.hid (own_grew ROW.out g12 (own_ne ROW.out OLB.out (by decide)))
          have DAT12 : Hid (∀ y ∈ rl2, Rd W12 1 y.A y.d.length y.c (bv y.d)) := Lib.hid fun z hz => (DAT.out z hz).grew g12 fun hn => by
            rcases hB : blk LB with _ | q
            · exact .inl rfl
            · refine .inr fun e => ?_
              have h1 := (own_blk_le OLB.out hB).1
              have h2 := DB.out z hz q hn e.symm
              omega
          have OL12 : Hid (W12.ownsRow wB.heap.size 5 1 (.slice A12 (lb + (21 + yn)) c12) (lb + (21 + yn)) (bv (log ++ encs ((rl2.take (i + 1)).map RV.r)))) := Lib.hid (by
            rw [ET.out, ← List.append_assoc, bv_app]; exact own12)
          have HL12 : Hid (lb + (21 + yn) = (log ++ encs ((rl2.take (i + 1)).map RV.r)).length) := Lib.hid (by
            have h1 := HLB.out
            rw [List.length_append] at h1
            rw [ET.out, List.length_append, List.length_append, Wl.enc_len, show y.r.d.length = yn from HYN.out, h1]; omega)
          have s12 : wB.heap.size ≤ W12.heap.size := Nat.le_trans BB g12.by_.size
          clear own12 g12
          go_wp2_with fail
          go_roundw
          case rel => exact ⟨i + 1, A12, lb + (21 + yn), c12, by omega, by go_num, by first | rfl | go_num, lb2, HL12, OL12, ROW12, DAT12, s12, b12⟩
          case measure => simp [intOf]; omega
        · obtain rfl : i = j + 1 := by omega
          have d2 : decide (((j + 1 : Nat) : Int) < (j : Int) + 1) = false := decide_eq_false (by omega)
          have d2' : decide ((j : Int) + 1 < (j : Int) + 1) = false := decide_eq_false (by omega)
          have d3 : decide ((lb : Int) > 1048576) = false := decide_eq_false (by omega)
          have Z9 := Lib.hid (Z4.out.nx b9)
          have Y9 := Lib.hid (Y4.out.nx b9)
          have EQL : Hid (log ++ encs ((rl2.take (j + 1)).map RV.r) = cmLog log last l) := Lib.hid (by rw [CML.out, List.take_of_length_le (by have := N2.out; omega)])
          have HLB : Hid (lb = (cmLog log last l).length) := by have h := HLB.out; rw [EQL.out] at h; exact Lib.hid h
          have OLB : Hid (wr.ownsRow wB.heap.size 5 1 (.slice LB lb cb) lb (bv (cmLog log last l))) := by have h := OLB.out; rw [EQL.out] at h; exact Lib.hid h
          have zS := Z4.out.lt
          have zR := Y4.out.lt
          have z0 := Z9.out.at_ 0 (by simp)
          have z1 := Z9.out.at_ 1 (by simp)
          have z2 := Z9.out.at_ 2 (by simp)
          have z3 := Z9.out.at_ 3 (by simp)
          have z4 := Z9.out.at_ 4 (by simp)
          simp only [List.getElem?_cons_succ, List.getElem?_cons_zero] at z0 z1 z2 z3 z4
          have g0 := Z9.out.fz 0 (by simp)
          have g1 := Z9.out.fz 1 (by simp)
          have g2 := Z9.out.fz 2 (by simp)
          have g3 := Z9.out.fz 3 (by simp)
          have g4 := Z9.out.fz 4 (by simp)
          go_upto_region 25 with fail
          obtain ⟨W13, hW13⟩ : ∃ u, wr.setCell ⟨S, 3, none⟩ (.slice LB lb cb) = u := ⟨_, rfl⟩
          rw [hW13]
          have Z13 : Hid (Bx W13 S [.slice PA np pc, .int .i64 r0, .slice FA m fc, .slice LB lb cb, .int .i64 (last + 1)]) := hW13 ▸ Lib.hid (Z9.out.set (j := 3) (by simp) (.slice LB lb cb))
          have Y13 : Hid (Bx W13 (p + 1) [.slice none 0 0, .int .i64 0, .slice none 0 0, .slice none 0 0, .int .i64 0]) := hW13 ▸ Lib.hid (Y9.out.other (q := S) (by omega) 3 _)
          have bw13 : Below w.heap.size w W13 := hW13 ▸ bw9.setCell (p := ⟨S, 3, none⟩) hS' _
          have OL13 : Hid (W13.ownsRow wB.heap.size 5 1 (.slice LB lb cb) lb (bv (cmLog log last l))) := hW13 ▸ Lib.hid (own_set OLB.out ⟨S, 3, none⟩ _ fun e => by have := (own_blk_le OLB.out e).1; simp only at this; omega)
          clear hW13 z0 z1 z2 z3 z4 g0 g1 g2 g3 g4 Z9 Y9 OLB ROW DAT
          have z0 := Z13.out.at_ 0 (by simp)
          have z1 := Z13.out.at_ 1 (by simp)
          have z2 := Z13.out.at_ 2 (by simp)
          have z3 := Z13.out.at_ 3 (by simp)
          have z4 := Z13.out.at_ 4 (by simp)
          simp only [List.getElem?_cons_succ, List.getElem?_cons_zero] at z0 z1 z2 z3 z4
          have y0 := Y13.out.at_ 0 (by simp)
          have y1 := Y13.out.at_ 1 (by simp)
          have y2 := Y13.out.at_ 2 (by simp)
          have y3 := Y13.out.at_ 3 (by simp)
          have y4 := Y13.out.at_ 4 (by simp)
          simp only [List.getElem?_cons_succ, List.getElem?_cons_zero] at y0 y1 y2 y3 y4
          have f0 := Y13.out.fz 0 (by simp)
          have f1 := Y13.out.fz 1 (by simp)
          have f2 := Y13.out.fz 2 (by simp)
          have f3 := Y13.out.fz 3 (by simp)
          have f4 := Y13.out.fz 4 (by simp)
          have Q := Lib.hid (res5_cells Y13.out rfl (.slice PA np pc) (.int .i64 r0) (.slice FA m fc) (.slice LB lb cb) (.int .i64 (last + 1)))
          have bF := res5_below (a := .slice PA np pc) (b := .int .i64 r0) (c := .slice FA m fc) (d := .slice LB lb cb) (e := .int .i64 (last + 1)) bw13 hR'
          have OF := Lib.hid (own_res5 (R := p + 1) (a := .slice PA np pc) (b := .int .i64 r0) (d := .slice FA m fc) (e := .slice LB lb cb) (f := .int .i64 (last + 1)) OL13.out (by omega))
          go_wp2_with fail
          obtain ⟨W14, hW14⟩ : ∃ u, (((((W13.setCell ⟨p + 1, 0, none⟩ (.slice PA np pc)).setCell ⟨p + 1, 1, none⟩ (.int .i64 r0)).setCell ⟨p + 1, 2, none⟩ (.slice FA m fc)).setCell ⟨p + 1, 3, none⟩ (.slice LB lb cb)).setCell ⟨p + 1, 4, none⟩ (.int .i64 (last + 1))) = u := ⟨_, rfl⟩
          rw [hW14] at Q bF OF ⊢
          have q0 := Q.out.at_ 0 (by simp)
          have q1 := Q.out.at_ 1 (by simp)
          have q2 := Q.out.at_ 2 (by simp)
          have q3 := Q.out.at_ 3 (by simp)
          have q4 := Q.out.at_ 4 (by simp)
          simp only [List.getElem?_cons_succ, List.getElem?_cons_zero] at q0 q1 q2 q3 q4
          refine bodyPost_ret (v := .tuple #[.agg #[.slice PA np pc, .int .i64 r0, .slice FA m fc, .slice LB lb cb, .int .i64 (last + 1)], .int .i64 0]) (by simp [results, Tryd.results22, go_sem, q0, q1, q2, q3, q4]) rfl ?_
          exact ⟨LB, lb, cb, rfl, HLB, Lib.hid (own_base OF.out bw1.size), bF⟩
end
end Go.Proofs.YtpmkohnljngbhaaDoor.Sr
