/- The walk of awake. -/
import Derived.Test.YtphiblmkgbkdmaaDoorPgX8
import Derived.Test.YtphiblmkgbkdmaaDoorPgLa
import Derived.Test.YtphiblmkgbkdmaaDoorPgW9
import Derived.Lib.SlBytesConst
import Derived.Lib.SmallJoins
namespace Go.Proofs.YtphiblmkgbkdmaaDoor.Pg
set_option linter.unusedVariables false
set_option linter.unusedSimpArgs false
open Go.RowKit Wl

/-- A file as it is handed on: its cells as letters. -/
structure Fv (f : FV) (PA : Option Addr) (n pc : Nat) (r : Int) (FA : Option Addr) (m fc : Nat) : Prop where
  val : f.val = .agg #[.slice PA n pc, .int .i64 r, .slice FA m fc]
  cs : CsOf f PA n pc r FA m fc
  root : r = f.f.root
  len : n = f.f.pg.length
  free : m = f.f.free.length
theorem fv_of (f : FV) : ∃ PA n pc r FA m fc, Hid (Fv f PA n pc r FA m fc) :=
  ⟨f.PA, f.ps.length, f.pc, f.root, f.FA, f.free.length, f.fc, Lib.hid ⟨rfl, cs_of f, rfl, by simp [FV.f], rfl⟩⟩
def newV : FV := ⟨none, 0, [], -1, none, 0, []⟩
theorem new_cs : CsOf newV none 0 0 (-1) none 0 0 := Lib.hid rfl
theorem new_fl (w : World) : Fl w newV := ⟨⟨Rd.nil_ _ _, by simp [newV]⟩, Rd.nil_ _ _⟩
/-- A literal's bytes. -/
theorem rd_mark (w : World) (l : List UInt8) (q : Nat) (hq : w.heap.size = q) (hl : l.length ≤ 1000) (fr : Nat × Nat) : Rd (w.alloc (.cells (bv l).toArray 5 fr)) 1 (some ⟨q, 0, none⟩) l.length l.length (bv l) := by
  subst hq
  refine ⟨by simp [bv_len], Nat.le_refl _, (fun h => by cases h), by omega, fun hn => ⟨w.heap.size, 0, rfl, by simp, fun j hj => ?_⟩⟩
  rw [Nat.zero_add, World.cell?_alloc_mark]
  simp
theorem rd_nine (w : World) : Rd (w.alloc (.cells #[.int .u8 49, .int .u8 50, .int .u8 51, .int .u8 52, .int .u8 53, .int .u8 54, .int .u8 55, .int .u8 56, .int .u8 57] 5 (9, 10))) 1 (some ⟨w.heap.size, 0, none⟩) 9 9 (bv [49, 50, 51, 52, 53, 54, 55, 56, 57]) := by
  have h := rd_mark w [49, 50, 51, 52, 53, 54, 55, 56, 57] _ rfl (by simp) (9, 10)
  have e : (bv [49, 50, 51, 52, 53, 54, 55, 56, 57]).toArray = #[.int .u8 49, .int .u8 50, .int .u8 51, .int .u8 52, .int .u8 53, .int .u8 54, .int .u8 55, .int .u8 56, .int .u8 57] := by simp [bv]
  rw [e] at h
  exact h
theorem sum_nine (w : World) (A : Option Addr) (c : Nat) (h : Hid (Rd w 1 A 9 c (bv [49, 50, 51, 52, 53, 54, 55, 56, 57]))) :
    Calls Tryd.prog 12 #[.slice A 9 c] w fun e w' => e = .returned (.int .u32 3421780262) ∧ w = w' := by
  have S := Sum_any (n := 9) (l := [49, 50, 51, 52, 53, 54, 55, 56, 57]) w (Lib.hid rfl) h
  rw [awk_sum] at S
  exact S
set_option maxRecDepth 20000 in
set_option maxHeartbeats 800000 in
theorem awake_any (w : World) (G : Hid (Gl w)) : Calls Tryd.prog 11 #[] w fun e w' => e = .returned (.bool true) ∧ Below w.heap.size w w' := by
  have kc := fun (w : World) (C : Array Value) (n c : Nat) => Lib.run_convert_bytes_const (P := Tryd.prog) w 22 5 C n c Tryd.underlying22 Tryd.underlying5
  go_enter Tryd.func11, Tryd.ntmps11
  go_wp2_with fail
  go_at_call 26
  refine (New_any w).mono ?_
  rintro e w1 ⟨rfl, b1⟩
  have kd := fun (w : World) (C : Array Value) (n c g : Nat) (hg : g = w.heap.size) => Joins.run_convert_bytes_const_at (P := Tryd.prog) w 22 5 C n c g hg Tryd.underlying22 Tryd.underlying5
  go_wp2_with fail
  obtain ⟨W2, hW2⟩ : ∃ W2, (w1.alloc (.cells #[.int .u8 97] 5 (1, 2))).alloc (.cells #[.int .u8 120] 5 (1, 2)) = W2 := ⟨_, rfl⟩
  have b2 : Below w1.heap.size w1 W2 := hW2 ▸ bel_alloc (bal _ _) (Nat.le_refl _) _
  have ra : Hid (Rd W2 1 (some ⟨w1.heap.size, 0, none⟩) 1 1 (bv [97])) := hW2 ▸ Lib.hid ((rd_mark w1 [97] _ rfl (by simp) (1, 2)).below (bal _ _))
  have rx : Hid (Rd W2 1 (some ⟨w1.heap.size + 1, 0, none⟩) 1 1 (bv [120])) := hW2 ▸ Lib.hid (rd_mark _ [120] _ (by simp) (by simp) (1, 2))
  rw [hW2]
  have bw2 := b1.trans (b2.mono b1.size)
  have G2 := Lib.hid (G.out.below bw2)
  clear hW2
  go_at_call 19
  refine (Put_cs new_cs W2 G2 (Lib.hid (new_fl W2)) ra rx).mono ?_
  rintro e w3 ⟨f1, er1, hp1, rfl, F3, b3⟩
  have P1 := Lib.hid hp1
  clear hp1 ra rx
  obtain ⟨PA1, n1, pc1, r1, FA1, m1, fc1, V1⟩ := fv_of f1
  rw [V1.out.val]
  have bw3 := bw2.trans (b3.mono bw2.size)
  obtain ⟨p4, hp4⟩ : ∃ p4, w3.heap.size = p4 := ⟨_, rfl⟩
  obtain ⟨W4, hW4⟩ : ∃ W4, w3.alloc (.cells #[.slice PA1 n1 pc1, .int .i64 r1, .slice FA1 m1 fc1] 30) = W4 := ⟨_, rfl⟩
  have b4 : Below w3.heap.size w3 W4 := hW4 ▸ bal _ _
  have X4 : Hid (Bx W4 p4 [.slice PA1 n1 pc1, .int .i64 r1, .slice FA1 m1 fc1]) := hW4 ▸ Lib.hid (Bx.put _ hp4 #[.slice PA1 n1 pc1, .int .i64 r1, .slice FA1 m1 fc1] 30)
  have F4 := Lib.hid (F3.out.fl.below b4)
  have bw4 := bw3.trans (b4.mono bw3.size)
  have HW4 := Lib.hid hW4
  clear hW4
  have x0 := X4.out.at_ 0 (by simp)
  have x1 := X4.out.at_ 1 (by simp)
  have x2 := X4.out.at_ 2 (by simp)
  simp only [List.getElem?_cons_succ, List.getElem?_cons_zero] at x0 x1 x2
  go_upto_region 2 with fail
  rw [HW4.out]
  go_wp2_with fail
  obtain ⟨W5, hW5⟩ : ∃ W5, W4.alloc (.cells #[.int .u8 98] 5 (1, 2)) = W5 := ⟨_, rfl⟩
  have b5 : Below W4.heap.size W4 W5 := hW5 ▸ bal _ _
  have rb : Hid (Rd W5 1 (some ⟨W4.heap.size, 0, none⟩) 1 1 (bv [98])) := hW5 ▸ Lib.hid (rd_mark W4 [98] _ rfl (by simp) (1, 2))
  rw [hW5]
  have bw5 := bw4.trans (b5.mono bw4.size)
  have G5 := Lib.hid (G.out.below bw5)
  have F5 := Lib.hid (F4.out.below b5)
  clear hW5 x0 x1 x2
  go_at_call 19
  refine (Put_cs (value := []) V1.out.cs W5 G5 F5 rb (Lib.hid (Rd.nil_ _ _))).mono ?_
  rintro e w6 ⟨f2, er2, hp2, rfl, F6, b6⟩
  have P2 := Lib.hid hp2
  clear hp2 rb
  obtain ⟨PA2, n2, pc2, r2, FA2, m2, fc2, V2⟩ := fv_of f2
  rw [V2.out.val]
  have bw6 := bw5.trans (b6.mono bw5.size)
  obtain ⟨p7, hp7⟩ : ∃ p7, w6.heap.size = p7 := ⟨_, rfl⟩
  obtain ⟨W7, hW7⟩ : ∃ W7, w6.alloc (.cells #[.slice PA2 n2 pc2, .int .i64 r2, .slice FA2 m2 fc2] 30) = W7 := ⟨_, rfl⟩
  have b7 : Below w6.heap.size w6 W7 := hW7 ▸ bal _ _
  have Y7 : Hid (Bx W7 p7 [.slice PA2 n2 pc2, .int .i64 r2, .slice FA2 m2 fc2]) := hW7 ▸ Lib.hid (Bx.put _ hp7 #[.slice PA2 n2 pc2, .int .i64 r2, .slice FA2 m2 fc2] 30)
  have F7 := Lib.hid (F6.out.fl.below b7)
  have bw7 := bw6.trans (b7.mono bw6.size)
  have X7 := Lib.hid ((X4.out.step b5).step b6 |>.step b7)
  have HW7 := Lib.hid hW7
  clear hW7
  have x1 := X7.out.at_ 1 (by simp)
  have y0 := Y7.out.at_ 0 (by simp)
  have y1 := Y7.out.at_ 1 (by simp)
  have y2 := Y7.out.at_ 2 (by simp)
  simp only [List.getElem?_cons_succ, List.getElem?_cons_zero] at x1 y0 y1 y2
  go_upto_region 3 with fail
  rw [HW7.out]
  go_wp2_with fail
  obtain ⟨W8, hW8⟩ : ∃ W8, W7.alloc (.cells #[.int .u8 97] 5 (1, 2)) = W8 := ⟨_, rfl⟩
  have b8 : Below W7.heap.size W7 W8 := hW8 ▸ bal _ _
  have rc : Hid (Rd W8 1 (some ⟨W7.heap.size, 0, none⟩) 1 1 (bv [97])) := hW8 ▸ Lib.hid (rd_mark W7 [97] _ rfl (by simp) (1, 2))
  rw [hW8]
  have bw8 := bw7.trans (b8.mono bw7.size)
  have G8 := Lib.hid (G.out.below bw8)
  have F8 := Lib.hid (F7.out.below b8)
  clear hW8 x1 y0 y1 y2
  go_at_call 22
  refine (Old_cs V2.out.cs r1 W8 G8 F8 rc).mono ?_
  rintro e w9 ⟨d3, er3, A3, c3, hp3, rfl, D9, b9⟩
  have P3 := Lib.hid hp3
  clear hp3 rc
  obtain ⟨k3, hk3⟩ : ∃ k3, d3.length = k3 := ⟨_, rfl⟩
  rw [hk3] at D9
  rw [hk3]
  have HK3 := Lib.hid hk3
  clear hk3
  have bw9 := bw8.trans (b9.mono bw8.size)
  have X9 := Lib.hid ((X7.out.step b8).step b9)
  have Y9 := Lib.hid ((Y7.out.step b8).step b9)
  have F9 := Lib.hid (F8.out.below b9)
  have x1 := X9.out.at_ 1 (by simp)
  have y0 := Y9.out.at_ 0 (by simp)
  have y1 := Y9.out.at_ 1 (by simp)
  have y2 := Y9.out.at_ 2 (by simp)
  simp only [List.getElem?_cons_succ, List.getElem?_cons_zero] at x1 y0 y1 y2
  go_wp2_with fail
  obtain ⟨W10, hW10⟩ : ∃ W10, w9.alloc (.cells #[.int .u8 98] 5 (1, 2)) = W10 := ⟨_, rfl⟩
  have b10 : Below w9.heap.size w9 W10 := hW10 ▸ bal _ _
  have rd : Hid (Rd W10 1 (some ⟨w9.heap.size, 0, none⟩) 1 1 (bv [98])) := hW10 ▸ Lib.hid (rd_mark w9 [98] _ rfl (by simp) (1, 2))
  rw [hW10]
  have bw10 := bw9.trans (b10.mono bw9.size)
  have G10 := Lib.hid (G.out.below bw10)
  have F10 := Lib.hid (F9.out.below b10)
  clear hW10 x1 y0 y1 y2
  go_at_call 22
  refine (Old_cs V2.out.cs r1 W10 G10 F10 rd).mono ?_
  rintro e w11 ⟨d4, er4, A4, c4, hp4', rfl, _, b11⟩
  have P4 := Lib.hid hp4'
  clear hp4' rd
  have D11 := Lib.hid ((D9.out.below b10).below b11)
  have bw11 := bw10.trans (b11.mono bw10.size)
  have AW := awk_plain P1.out P2.out (by rw [← V1.out.root]; exact P3.out) (by rw [← V1.out.root]; exact P4.out)
  obtain ⟨rfl, rfl, rfl, rfl, rfl⟩ := AW
  have k31 : k3 = 1 := HK3.out.symm
  subst k31
  go_wp2_with fail
  obtain ⟨W12, hW12⟩ : ∃ W12, w11.alloc (.cells #[.int .u8 49, .int .u8 50, .int .u8 51, .int .u8 52, .int .u8 53, .int .u8 54, .int .u8 55, .int .u8 56, .int .u8 57] 5 (9, 10)) = W12 := ⟨_, rfl⟩
  have b12 : Below w11.heap.size w11 W12 := hW12 ▸ bal _ _
  have re : Hid (Rd W12 1 (some ⟨w11.heap.size, 0, none⟩) 9 9 (bv [49, 50, 51, 52, 53, 54, 55, 56, 57])) := by rw [← hW12]; exact Lib.hid (rd_nine w11)
  rw [hW12]
  have bw12 := bw11.trans (b12.mono bw11.size)
  have D12 := Lib.hid (D11.out.below b12)
  clear hW12
  have SN := Lib.hid sum_nine
  go_at_call 12
  refine (SN.out W12 _ _ re).mono ?_
  rintro e w' ⟨rfl, rfl⟩
  have cv : (convert 22 9 (.slice A3 1 c3)).run Tryd.prog W12 = .ok (.string ⟨#[120]⟩) W12 := conv_any D12.out
  clear kd kc
  go_wp2_with fail
  go_ret
  exact ⟨rfl, bw12⟩
end Go.Proofs.YtphiblmkgbkdmaaDoor.Pg
