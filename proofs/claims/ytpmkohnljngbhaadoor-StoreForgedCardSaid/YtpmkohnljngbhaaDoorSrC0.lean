/- Walk: record once more, and where its bytes lie; the records of a transaction that is written. -/
import Derived.Test.YtpmkohnljngbhaaDoorSrW3
import Derived.Test.YtpmkohnljngbhaaDoorWalB
namespace Go.Proofs.YtpmkohnljngbhaaDoor.Sr
set_option linter.unusedVariables false
set_option linter.unusedSimpArgs false
set_option maxRecDepth 1000000
open Go.RowKit Wl Pg

def RcPost2 (w : World) (A : Option Addr) (r : Rec) (e : Ending) (w' : World) : Prop :=
  ∃ D c, e = .returned (.agg #[.int .i64 r.k, .int .i64 r.t, .slice D r.d.length c]) ∧ Hid (Rd w' 1 D r.d.length c (bv r.d)) ∧ Hid (D = A ∨ w'.ownsRow w.heap.size 5 1 (.slice D r.d.length c) r.d.length (bv r.d)) ∧ Below w.heap.size w w'
set_option maxHeartbeats 1600000 in
theorem record_own {A B : Option Addr} {n c m d : Nat} {k v : List UInt8} {del : Bool} (tx : Int) (w : World) (hk : Hid (Rd w 1 A n c (bv k))) (hv : Hid (Rd w 1 B m d (bv v))) (hn : n ≤ 255) (hm : m ≤ 1000) :
    Calls Tryd.prog 47 #[.agg #[.slice A n c, .slice B m d, .bool del], .int .i64 tx] w (RcPost2 w A (recC tx ⟨k, v, del⟩)) := by
  have KN : Hid (n = k.length) := Lib.hid (by have := hk.out.len; rw [bv_len] at this; omega)
  have VN : Hid (m = v.length) := Lib.hid (by have := hv.out.len; rw [bv_len] at this; omega)
  obtain ⟨p, hp⟩ : ∃ p, w.heap.size = p := ⟨_, rfl⟩
  obtain ⟨W1, hW1⟩ : ∃ W1, w.alloc (.cells #[.slice A n c, .slice B m d, .bool del] 45) = W1 := ⟨_, rfl⟩
  have v1 : Below w.heap.size w W1 := hW1 ▸ bal _ _
  have X : Hid (Bx W1 p [.slice A n c, .slice B m d, .bool del]) := hW1 ▸ Lib.hid (Bx.put _ hp #[.slice A n c, .slice B m d, .bool del] 45)
  have TX : Hid (Ty W1 p 45) := hW1 ▸ hp ▸ Lib.hid (Ty.new _ _ _)
  have HW1 := Lib.hid hW1
  clear hW1
  obtain ⟨R, hR⟩ : ∃ R, W1.heap.size = R := ⟨_, rfl⟩
  obtain ⟨W2, hW2⟩ : ∃ W2, W1.alloc (.cells #[.int .i64 0, .int .i64 0, .slice none 0 0] 66) = W2 := ⟨_, rfl⟩
  have v2 : Below W1.heap.size W1 W2 := hW2 ▸ bal _ _
  have Y : Hid (Bx W2 R [.int .i64 0, .int .i64 0, .slice none 0 0]) := hW2 ▸ Lib.hid (Bx.put _ hR #[.int .i64 0, .int .i64 0, .slice none 0 0] 66)
  have TY : Hid (Ty W2 R 66) := hW2 ▸ hR ▸ Lib.hid (Ty.new _ _ _)
  have HW2 := Lib.hid hW2
  clear hW2
  have v12 := v1.trans (v2.mono v1.size)
  have hR : w.heap.size ≤ R := by rw [← hR]; exact v1.size
  have X := Lib.hid (X.out.nx v2)
  have z0 := X.out.at_ 0 (by simp)
  have z1 := X.out.at_ 1 (by simp)
  have z2 := X.out.at_ 2 (by simp)
  simp only [List.getElem?_cons_succ, List.getElem?_cons_zero] at z0 z1 z2
  have y0 := Y.out.at_ 0 (by simp)
  have y1 := Y.out.at_ 1 (by simp)
  have y2 := Y.out.at_ 2 (by simp)
  simp only [List.getElem?_cons_succ, List.getElem?_cons_zero] at y0 y1 y2
  have f0 := Y.out.fz 0 (by simp)
  have f1 := Y.out.fz 1 (by simp)
  have f2 := Y.out.fz 2 (by simp)
  obtain ⟨C0, C1, C2⟩ := res3_cells Y.out
  have C0 := Lib.hid C0
  have C1 := Lib.hid C1
  have C2 := Lib.hid C2
  have e12 : R = p + 1 := by rw [← ‹W1.heap.size = R›, ← HW1.out, ← hp]; simp
  subst e12
  have hk0 := Lib.hid (KN.out ▸ hk.out)
  cases del with
  | true =>
    have KD := Lib.hid (hk0.out.nx (res3_below (R := p + 1) (a := .int .i64 2) (b := .int .i64 tx) (c := .slice A n c) v12 hR))
    go_enter Tryd.func47, Tryd.ntmps47
    go_upto_region 1 with fail
    rw [HW1.out, HW2.out]
    go_wp2_with fail
    refine bodyPost_ret (v := .agg #[.int .i64 2, .int .i64 tx, .slice A n c]) (by simp [results, Tryd.results47, go_sem, C0.out, C1.out, C2.out]) rfl ?_
    exact ⟨A, c, by rw [KN.out]; rfl, KD, Lib.hid (.inl rfl), res3_below v12 hR⟩
  | false =>
    have xl := X.out.lt
    have yl := Y.out.lt
    have b3 : Below W2.heap.size W2 (W2.alloc (.cells #[.int .u8 (n : Int)] 5)) := bal _ _
    have b4 : Below (W2.alloc (.cells #[.int .u8 (n : Int)] 5)).heap.size (W2.alloc (.cells #[.int .u8 (n : Int)] 5)) ((W2.alloc (.cells #[.int .u8 (n : Int)] 5)).alloc (.cells #[.slice (some ⟨W2.heap.size, 0, none⟩) 1 1, .slice A n c, .slice B m d] 23)) := bal _ _
    have hs3 : (W2.alloc (.cells #[.int .u8 (n : Int)] 5)).heap.size = W2.heap.size + 1 := by simp
    have b34 := b3.trans (b4.mono b3.size)
    have CC : Hid (Calls Tryd.prog 63 #[.slice (some ⟨W2.heap.size + 1, 0, none⟩) 3 3] ((W2.alloc (.cells #[.int .u8 (n : Int)] 5)).alloc (.cells #[.slice (some ⟨W2.heap.size, 0, none⟩) 1 1, .slice A n c, .slice B m d] 23)) fun e w' => ∃ D c', e = .returned (.slice D (recC tx ⟨k, v, false⟩).d.length c') ∧ Hid (w'.ownsRow (W2.heap.size + 2) 5 1 (.slice D (recC tx ⟨k, v, false⟩).d.length c') (recC tx ⟨k, v, false⟩).d.length (bv (recC tx ⟨k, v, false⟩).d)) ∧ Below W2.heap.size W2 w') := by
      refine Lib.hid ?_
      have H := bconc (L := [⟨some ⟨W2.heap.size, 0, none⟩, 1, [UInt8.ofNat n]⟩, ⟨A, c, k⟩, ⟨B, d, v⟩]) (B := some ⟨W2.heap.size + 1, 0, none⟩) (n := 3) (c := 3) ((W2.alloc (.cells #[.int .u8 (n : Int)] 5)).alloc (.cells #[.slice (some ⟨W2.heap.size, 0, none⟩) 1 1, .slice A n c, .slice B m d] 23)) (Lib.hid (by
          have h := rd_lit (W2.alloc (.cells #[.int .u8 (n : Int)] 5)) hs3 23 1 #[.slice (some ⟨W2.heap.size, 0, none⟩) 1 1, .slice A n c, .slice B m d] 3 (by omega) rfl
          rw [KN.out, VN.out] at h ⊢
          exact h)) (Lib.hid (by
          intro x hx
          simp only [List.mem_cons, List.not_mem_nil, or_false] at hx
          rcases hx with rfl | rfl | rfl
          · have h := rd_lit W2 rfl 5 1 #[.int .u8 (n : Int)] 1 (by omega) rfl
            have e : bv [UInt8.ofNat n] = [.int .u8 (n : Int)] := by simp [bv]; omega
            show Rd _ 1 _ 1 1 (bv [UInt8.ofNat n])
            rw [e]
            exact Rd.below h b4
          · exact (hk0.out.nx v12).nx b34
          · have hv0 := VN.out ▸ hv.out
            exact (hv0.nx v12).nx b34)) (by simp [bconc_sum]; have := KN.out; have := VN.out; omega)
      have e1 : bconc_join [⟨some ⟨W2.heap.size, 0, none⟩, 1, [UInt8.ofNat n]⟩, ⟨A, c, k⟩, ⟨B, d, v⟩] = (recC tx ⟨k, v, false⟩).d := by
        simp [bconc_join, recC, KN.out]
      rw [e1, ← bconc_join_len, e1] at H
      refine H.mono ?_
      rintro e w' ⟨D, c', he, own, b⟩
      exact ⟨D, c', he, Lib.hid (own_base own.out (by simp)), b34.trans (b.mono b34.size)⟩
    go_enter Tryd.func47, Tryd.ntmps47
    go_upto_region 1 with fail
    rw [HW1.out, HW2.out]
    clear b3 b4 hs3 b34
    go_wp2_with fail
    go_at_call 63
    refine CC.out.mono ?_
    rintro e w5 ⟨D, c', rfl, own, b5⟩
    obtain ⟨dn, hdn⟩ : ∃ dn, (recC tx ⟨k, v, false⟩).d.length = dn := ⟨_, rfl⟩
    rw [hdn] at own
    rw [hdn]
    have HDN := Lib.hid hdn
    have v15 := v12.trans (b5.mono v12.size)
    have Y5 := Lib.hid (Y.out.nx b5)
    clear hdn C0 C1 C2 y0 y1 y2 f0 f1 f2
    have y0 := Y5.out.at_ 0 (by simp)
    have y1 := Y5.out.at_ 1 (by simp)
    have y2 := Y5.out.at_ 2 (by simp)
    simp only [List.getElem?_cons_succ, List.getElem?_cons_zero] at y0 y1 y2
    have f0 := Y5.out.fz 0 (by simp)
    have f1 := Y5.out.fz 1 (by simp)
    have f2 := Y5.out.fz 2 (by simp)
    obtain ⟨C0, C1, C2⟩ := res3_cells Y5.out
    have C0 := Lib.hid C0
    have C1 := Lib.hid C1
    have C2 := Lib.hid C2
    have ne : ∀ g, blk D = some g → g ≠ p + 1 := fun g e => by have := (own_blk_le own.out e).1; omega
    have OW := Lib.hid (own_set (own_set (own_set own.out ⟨p + 1, 0, none⟩ (.int .i64 1) (fun e => ne _ e rfl)) ⟨p + 1, 1, none⟩ (.int .i64 tx) (fun e => ne _ e rfl)) ⟨p + 1, 2, none⟩ (.slice D dn c') (fun e => ne _ e rfl))
    go_wp2_with fail
    refine bodyPost_ret (v := .agg #[.int .i64 1, .int .i64 tx, .slice D dn c']) (by simp [results, Tryd.results47, go_sem, C0.out, C1.out, C2.out]) rfl ?_
    exact ⟨D, c', by rw [HDN.out]; rfl, by rw [HDN.out]; exact Lib.hid (Rd.of_own OW.out), by rw [HDN.out]; exact Lib.hid (.inr (own_base OW.out (by have := v12.size; omega))), res3_below v15 hR⟩


/-- The bytes of a record that is written: old ones, or a row of the call's own. -/
def Od (w : World) (base : Nat) (y : RV) : Prop :=
  Rd w 1 y.A y.d.length y.c (bv y.d) ∧ ((∀ g, 0 < y.d.length → blk y.A = some g → g < base) ∨ w.ownsRow base 5 1 (.slice y.A y.d.length y.c) y.d.length (bv y.d))
theorem Od.nx {w w' : World} {base : Nat} {y : RV} (h : Od w base y) (b : Below w.heap.size w w') : Od w' base y := ⟨h.1.below b, h.2.imp id fun o => own_below o b⟩
theorem Od.grew {w w' : World} {base base' n c : Nat} {y : RV} {A A' : Option Addr} {xs : List Value} (h : Od w base y) (hb : base ≤ base') (g : Grew w A w' A') (o : w.ownsRow base' 66 3 (.slice A n c) n xs) : Od w' base y := by
  rcases h.2 with h2 | h2
  · refine ⟨h.1.grew g fun hn => ?_, .inl h2⟩
    rcases hA : blk A with _ | q
    · exact .inl rfl
    · refine .inr fun e => ?_
      have := (own_blk_le o hA).1
      have := h2 q hn e.symm
      omega
  · have := own_grew h2 g (own_ne h2 o (by decide))
    exact ⟨Rd.of_own this, .inr this⟩
/-- Records that are being written. -/
structure Rw (w : World) (base : Nat) (A : Option Addr) (n c : Nat) (l : List RV) : Prop where
  row : w.ownsRow base 66 3 (.slice A n c) n (cells l)
  dat : ∀ x ∈ l, Od w base x
theorem Rw.nil_ (w : World) (base : Nat) : Rw w base none 0 0 [] := ⟨World.ownsRow_nil _ _ _ _, by simp⟩
theorem Rw.nx {w w' : World} {base n c : Nat} {A : Option Addr} {l : List RV} (h : Rw w base A n c l) (b : Below w.heap.size w w') : Rw w' base A n c l := ⟨own_below h.row b, fun x hx => (h.dat x hx).nx b⟩
theorem Rw.rr {w : World} {base n c : Nat} {A : Option Addr} {l : List RV} (h : Rw w base A n c l) : Rr w A n c l := ⟨Rd.of_own h.row, fun x hx => (h.dat x hx).1⟩
theorem Rw.push {w w' : World} {base n c : Nat} {A : Option Addr} {l : List RV} (h : Rw w base A n c l) {A' : Option Addr} {c' : Nat} (x : RV) (hx : Od w base x) (row : w'.ownsRow base 66 3 (.slice A' (n + 1) c') (n + 1) (cells l ++ x.cs)) (g : Grew w A w' A') : Rw w' base A' (n + 1) c' (l ++ [x]) := by
  refine ⟨by rw [cells_snoc]; exact row, fun y hy => ?_⟩
  rcases List.mem_append.1 hy with hy | hy
  · exact (h.dat y hy).grew (Nat.le_refl _) g h.row
  · obtain rfl := List.mem_singleton.1 hy
    exact hx.grew (Nat.le_refl _) g h.row
end Go.Proofs.YtpmkohnljngbhaaDoor.Sr
