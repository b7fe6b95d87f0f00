/- Walk: the examples of the chapter hold. -/
import Derived.Test.YtfkeedeiafegiaaWalW17
namespace Go.Proofs.Ytfkeedeiafegiaa.Wl
set_option linter.unusedVariables false
set_option linter.unusedSimpArgs false
open Go.RowKit

def ra : Rec := ⟨1, 1, [97]⟩
def rb : Rec := ⟨1, 2, [98]⟩
def rc (t : Int) : Rec := ⟨3, t, []⟩
def ex4 : List Rec := [ra, rb, rc 2, rc 1]
theorem ex4_ok : ∀ r ∈ ex4, ok r := by
  intro r hr
  simp only [ex4, List.mem_cons, List.not_mem_nil, or_false] at hr
  rcases hr with rfl | rfl | rfl | rfl <;> decide
theorem ex4_len : (encs ex4).length = 86 := by
  simp [ex4, encs_cons, encs_nil, enc_len, ra, rb, rc]
theorem ex3_take : (encs ex4).take 65 = encs [ra, rb, rc 2] := by
  have h : encs ex4 = encs [ra, rb, rc 2] ++ enc (rc 1) := by simp [ex4, encs]
  have hl : (encs [ra, rb, rc 2]).length = 65 := by simp [encs_cons, encs_nil, enc_len, ra, rb, rc]
  rw [h, ← hl, List.take_left]
theorem ex4_com : eqR (com (rd (encs ex4))) [rb, ra] = true := by
  rw [rd_encs ex4_ok]; rfl
theorem ex3_com : eqR (com (rd ((encs ex4).take 65))) [rb] = true := by
  rw [ex3_take, rd_encs (fun r hr => ex4_ok r (by simp only [ex4, List.mem_cons, List.not_mem_nil, or_false] at hr ⊢; rcases hr with h | h | h <;> simp [h]))]; rfl
theorem ex_code : eqB ((enc (rc 1)).take 17) [0, 0, 0, 0, 255, 255, 255, 255, 3, 0, 0, 0, 0, 0, 0, 0, 1] = true := by rfl
theorem Rr.lit {w : World} {l : List RV} {q : Nat} (cs : Array Value) (n : Nat) (hq : w.heap.size = q) (hn : n ≤ 1000) (hs : cs.size = n * 3) (hc : cs.toList = cells l) (hd : ∀ x ∈ l, Rd w 1 x.A x.d.length x.c (bv x.d)) : Rr (w.alloc (.cells cs 24)) (some ⟨q, 0, none⟩) n n l :=
  ⟨hc ▸ Rd.lit' w 24 3 cs n hq (by omega) hs, fun x hx => (hd x hx).alloc _⟩
set_option maxHeartbeats 3200000 in
theorem awake_any (w : World) : Calls Try.prog 13 #[] w fun e w' => e = .returned (.bool true) ∧ Below w.heap.size w w' := by
  go_enter Try.func13, Try.ntmps13
  go_wp2_with fail
  go_at_call 30
  refine (commit_any 1 _).mono ?_
  rintro e w1 ⟨rfl, b1⟩
  go_wp2_with fail
  go_at_call 14
  refine (Encode_ok (data := []) (m := 0) 3 1 _ (Lib.hid (Rd.nil_ _ _)) (by decide) (by decide)).mono ?_
  rintro e w2 ⟨A2, c2, rfl, own2, b2⟩
  have bw2 := b1.trans (b2.mono b1.size)
  have rd2 := Lib.hid (Rd.of_own own2)
  clear b1 b2 own2
  go_wp2_with fail
  go_at_call 41
  refine (put_any 1 ⟨#[97]⟩ _ (by decide)).mono ?_
  rintro e w3 ⟨A3, c3, rfl, rd3, b3⟩
  have bw3 := bw2.trans (b3.mono bw2.size)
  have rd2' := Lib.hid (rd2.out.below b3)
  have R3 := Lib.hid rd3
  clear rd2 b3 rd3 bw2
  go_wp2_with fail
  go_at_call 41
  refine (put_any 2 ⟨#[98]⟩ _ (by decide)).mono ?_
  rintro e w4 ⟨A4, c4, rfl, rd4, b4⟩
  have bw4 := bw3.trans (b4.mono bw3.size)
  have rd2 := Lib.hid (rd2'.out.below b4)
  have R3' := Lib.hid (R3.out.below b4)
  have R4 := Lib.hid rd4
  clear rd2' b4 rd4 R3 bw3
  go_wp2_with fail
  go_at_call 30
  refine (commit_any 2 _).mono ?_
  rintro e w5 ⟨rfl, b5⟩
  have bw5 := bw4.trans (b5.mono bw4.size)
  have rd2' := Lib.hid (rd2.out.below b5)
  have R3 := Lib.hid (R3'.out.below b5)
  have R4' := Lib.hid (R4.out.below b5)
  clear rd2 b5 R4 R3' bw4
  go_wp2_with fail
  go_at_call 30
  refine (commit_any 1 _).mono ?_
  rintro e w6 ⟨rfl, b6⟩
  have bw6 := bw5.trans (b6.mono bw5.size)
  have rd2 := Lib.hid (rd2'.out.below b6)
  have R3' := Lib.hid (R3.out.below b6)
  have R4 := Lib.hid (R4'.out.below b6)
  clear rd2' b6 R3 R4' bw5
  go_wp2_with fail
  go_at_call 40
  refine (build_any (l := [⟨1, 1, A3, c3, [97]⟩, ⟨1, 2, A4, c4, [98]⟩, ⟨3, 2, none, 0, []⟩, ⟨3, 1, none, 0, []⟩]) _ (Lib.hid (Rr.lit #[_, _, _, _, _, _, _, _, _, _, _, _] 4 rfl (by omega) rfl rfl ?_)) (Lib.hid ?_) (Lib.hid ?_)).mono ?_
  · intro x hx
    simp only [List.mem_cons, List.not_mem_nil, or_false] at hx
    rcases hx with rfl | rfl | rfl | rfl
    · exact R3'.out
    · exact R4.out
    · exact Rd.nil_ _ _
    · exact Rd.nil_ _ _
  · intro x hx
    simp only [List.mem_cons, List.not_mem_nil, or_false] at hx
    rcases hx with rfl | rfl | rfl | rfl
    · exact ex4_ok ra (by simp [ex4])
    · exact ex4_ok rb (by simp [ex4])
    · exact ex4_ok (rc 2) (by simp [ex4])
    · exact ex4_ok (rc 1) (by simp [ex4])
  · show (encs ex4).length ≤ _
    rw [ex4_len]; omega
  rintro e w7 ⟨A7, m7, c7, rfl, hm7, own7, b7⟩
  have hm7' : m7 = 86 := hm7.trans ex4_len
  subst hm7'
  have own7' : w7.ownsRow (w6.alloc (.cells #[.int .i64 1, .int .i64 1, .slice A3 1 c3, .int .i64 1, .int .i64 2, .slice A4 1 c4, .int .i64 3, .int .i64 2, .slice none 0 0, .int .i64 3, .int .i64 1, .slice none 0 0] 24)).heap.size 5 1 (.slice A7 86 c7) 86 (bv (encs ex4)) := own7
  have bw7 : Below w.heap.size w w7 := (bel_alloc bw6 (Nat.le_refl _) _).trans (b7.mono (bel_alloc bw6 (Nat.le_refl _) _).size)
  have rd7 := Lib.hid (Rd.of_own own7')
  have rd2' := Lib.hid ((rd2.out.alloc _).below b7)
  obtain ⟨g2, o2, rfl, _, _⟩ := rd2'.out.at_ (by omega)
  have rdp := Lib.hid (rd2'.out.upto1 (k := 17) (by omega))
  have hc2 := rd2'.out.nc
  have hc7 := rd7.out.nc
  clear hm7 own7 own7' b7 rd2 R3' R4 bw6
  have rl : Rd (w7.alloc (.cells #[.int .u8 0, .int .u8 0, .int .u8 0, .int .u8 0, .int .u8 255, .int .u8 255, .int .u8 255, .int .u8 255, .int .u8 3, .int .u8 0, .int .u8 0, .int .u8 0, .int .u8 0, .int .u8 0, .int .u8 0, .int .u8 0, .int .u8 1] 5)) 1 (some ⟨w7.heap.size, 0, none⟩) 17 17 (bv [0, 0, 0, 0, 255, 255, 255, 255, 3, 0, 0, 0, 0, 0, 0, 0, 1]) :=
    Rd.lit' w7 5 1 #[.int .u8 0, .int .u8 0, .int .u8 0, .int .u8 0, .int .u8 255, .int .u8 255, .int .u8 255, .int .u8 255, .int .u8 3, .int .u8 0, .int .u8 0, .int .u8 0, .int .u8 0, .int .u8 0, .int .u8 0, .int .u8 0, .int .u8 1] 17 rfl (by omega) rfl
  have RL := Lib.hid rl
  clear rl
  go_wp2_with fail
  obtain ⟨w8, hw8⟩ : ∃ w8, w7.alloc (.cells #[.int .u8 0, .int .u8 0, .int .u8 0, .int .u8 0, .int .u8 255, .int .u8 255, .int .u8 255, .int .u8 255, .int .u8 3, .int .u8 0, .int .u8 0, .int .u8 0, .int .u8 0, .int .u8 0, .int .u8 0, .int .u8 0, .int .u8 1] 5) = w8 := ⟨_, rfl⟩
  rw [hw8] at RL ⊢
  have rdp8 := Lib.hid (hw8 ▸ rdp.out.alloc _)
  go_at_call 16
  refine (Equal_any _ rdp8 RL).mono ?_
  rintro e w' ⟨rfl, rfl⟩
  rw [show eqB ((enc ⟨3, 1, []⟩).take 17) [0, 0, 0, 0, 255, 255, 255, 255, 3, 0, 0, 0, 0, 0, 0, 0, 1] = true from ex_code]
  have bw8 : Below w.heap.size w w8 := hw8 ▸ bel_alloc bw7 (Nat.le_refl _) _
  have rd8 := Lib.hid (hw8 ▸ rd7.out.alloc _)
  clear hw8 rd7 rd2' rdp bw7 RL rdp8
  go_wp2_with fail
  go_at_call 24
  refine (Committed_any (b := encs ex4) _ (Lib.hid ex4_len.symm) rd8 (by omega)).mono ?_
  rintro e w9 ⟨A9, n9, c9, l9, rfl, rs9, hl9, b9⟩
  have bw9 := bw8.trans (b9.mono bw8.size)
  have rd9 := Lib.hid (rd8.out.below b9)
  have R9 := Lib.hid rs9.rr
  have HL9 := Lib.hid hl9
  clear b9 rs9 rd8 bw8 hl9
  go_wp2_with fail
  go_at_call 41
  refine (put_any 2 ⟨#[98]⟩ _ (by decide)).mono ?_
  rintro e w10 ⟨A10, c10, rfl, rd10, b10⟩
  have bw10 := bw9.trans (b10.mono bw9.size)
  have rd9' := Lib.hid (rd9.out.below b10)
  have R9' := Lib.hid (R9.out.below b10)
  have R10 := Lib.hid rd10
  clear b10 rd9 R9 rd10 bw9
  go_wp2_with fail
  go_at_call 41
  refine (put_any 1 ⟨#[97]⟩ _ (by decide)).mono ?_
  rintro e w11 ⟨A11, c11, rfl, rd11, b11⟩
  have bw11 := bw10.trans (b11.mono bw10.size)
  have rd9 := Lib.hid (rd9'.out.below b11)
  have R9 := Lib.hid (R9'.out.below b11)
  have R10' := Lib.hid (R10.out.below b11)
  have R11 := Lib.hid rd11
  clear b11 rd9' R9' rd11 bw10 R10
  go_wp2_with fail
  go_at_call 21
  refine (equal_any (b := [⟨1, 2, A10, c10, [98]⟩, ⟨1, 1, A11, c11, [97]⟩]) _ (Lib.hid (R9.out.below ((Below.refl _ _).alloc (Nat.le_refl _) _))) (Lib.hid (Rr.lit #[_, _, _, _, _, _] 2 rfl (by omega) rfl rfl ?_))).mono ?_
  · intro x hx
    simp only [List.mem_cons, List.not_mem_nil, or_false] at hx
    rcases hx with rfl | rfl
    · exact R10'.out
    · exact R11.out
  rintro e w12 ⟨rfl, b12⟩
  rw [show eqR (l9.map RV.r) (([⟨1, 2, A10, c10, [98]⟩, ⟨1, 1, A11, c11, [97]⟩] : List RV).map RV.r) = true by rw [HL9.out]; exact ex4_com]
  have bw12 : Below w.heap.size w w12 := bel_step (bel_alloc bw11 (Nat.le_refl _) _) b12 (Nat.le_refl _)
  have rd12 := Lib.hid ((rd9.out.alloc _).below b12)
  clear b12 rd9 R9 bw11 R10' R11 HL9
  go_wp2_with fail
  go_at_call 26
  refine (Cut_any (b := encs ex4) 65 _ (Lib.hid ex4_len.symm) rd12 (by omega) (by decide) (by decide)).mono ?_
  rintro e w13 ⟨A13, c13, rfl, own13, b13⟩
  have hcut : cutN 65 86 = 65 := by decide
  rw [hcut] at own13 ⊢
  have bw13 := bw12.trans (b13.mono bw12.size)
  have rd13 := Lib.hid (Rd.of_own own13)
  clear own13 b13 rd12 bw12
  go_wp2_with fail
  go_at_call 24
  refine (Committed_any (b := (encs ex4).take 65) _ (Lib.hid (by rw [List.length_take, ex4_len]; rfl)) rd13 (by omega)).mono ?_
  rintro e w14 ⟨A14, n14, c14, l14, rfl, rs14, hl14, b14⟩
  have bw14 := bw13.trans (b14.mono bw13.size)
  have R14 := Lib.hid rs14.rr
  have HL14 := Lib.hid hl14
  clear b14 rs14 rd13 bw13 hl14
  go_wp2_with fail
  go_at_call 41
  refine (put_any 2 ⟨#[98]⟩ _ (by decide)).mono ?_
  rintro e w15 ⟨A15, c15, rfl, rd15, b15⟩
  have bw15 := bw14.trans (b15.mono bw14.size)
  have R14' := Lib.hid (R14.out.below b15)
  have R15 := Lib.hid rd15
  clear b15 R14 rd15 bw14
  go_wp2_with fail
  go_at_call 21
  refine (equal_any (b := [⟨1, 2, A15, c15, [98]⟩]) _ (Lib.hid (R14'.out.below ((Below.refl _ _).alloc (Nat.le_refl _) _))) (Lib.hid (Rr.lit #[_, _, _] 1 rfl (by omega) rfl rfl ?_))).mono ?_
  · intro x hx
    obtain rfl : x = _ := by simpa using hx
    exact R15.out
  rintro e w16 ⟨rfl, b16⟩
  rw [show eqR (l14.map RV.r) (([⟨1, 2, A15, c15, [98]⟩] : List RV).map RV.r) = true by rw [HL14.out]; exact ex3_com]
  have bw16 : Below w.heap.size w w16 := bel_step (bel_alloc bw15 (Nat.le_refl _) _) b16 (Nat.le_refl _)
  clear b16 R14' bw15 R15 HL14
  go_wp2_with fail
  go_ret
  exact ⟨rfl, bw16⟩
end Go.Proofs.Ytfkeedeiafegiaa.Wl
