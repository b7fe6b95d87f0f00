/- Walks: the code of a record. -/
import Derived.Test.YtfkeedeiafegiaaWalW1
namespace Go.Proofs.Ytfkeedeiafegiaa.Wl
set_option linter.unusedVariables false
set_option linter.unusedSimpArgs false
open Go.RowKit

theorem Grew.cell {w w' : World} {A A' : Option Addr} (h : Grew w A w' A') {b o : Nat} (hb : b < w.heap.size) (hne : blk A ≠ some b) : w'.cell? ⟨b, o, none⟩ = w.cell? ⟨b, o, none⟩ :=
  World.cell?_of_block (h.by_.block b hb fun e => hne e.symm)
theorem nat_flip (a : Nat) (h : a < 4294967296) : a ^^^ 4294967295 = 4294967295 - a := by
  have h1 : (BitVec.ofNat 32 a ^^^ BitVec.allOnes 32).toNat = (~~~ BitVec.ofNat 32 a).toNat := by rw [BitVec.xor_allOnes]
  simp only [BitVec.toNat_xor, BitVec.toNat_not, BitVec.toNat_ofNat, BitVec.toNat_allOnes] at h1
  rw [Nat.mod_eq_of_lt (by omega)] at h1
  omega
theorem u32_not (a : Nat) (h : a < 4294967296) : bits .xor .u32 IntKind.u32.max (a : Int) = ((4294967295 - a : Nat) : Int) := by
  have := u32_xor_nat 4294967295 a (by omega) h
  rw [Nat.xor_comm, nat_flip a h] at this
  exact this
theorem u32_flip (a : Nat) (h : a < 4294967296) : bits .xor .u32 (a : Int) 4294967295 = ((4294967295 - a : Nat) : Int) := by
  have := u32_xor_nat a 4294967295 h (by omega)
  rw [nat_flip a h] at this
  exact this
theorem box3 (w : World) (a b c : Value) (T : TypeId) : (w.alloc (.cells #[a, b, c] T)).cell? ⟨w.heap.size, 0, none⟩ = some a ∧ (w.alloc (.cells #[a, b, c] T)).cell? ⟨w.heap.size, 1, none⟩ = some b ∧
    (w.alloc (.cells #[a, b, c] T)).cell? ⟨w.heap.size, 2, none⟩ = some c := by
  unfold World.cell?; rw [heap_alloc_new]; exact ⟨rfl, rfl, rfl⟩
set_option maxHeartbeats 800000 in
theorem code_nat {A B : Option Addr} {n c m d base : Nat} {l data : List UInt8} (k t : Nat) (w : World) (h : Hid (w.ownsRow base 5 1 (.slice A n c) n (bv l))) (hd : Hid (Rd w 1 B m d (bv data)))
    (hne : Hid (0 < m → blk A = none ∨ blk A ≠ blk B)) (k1 : 1 ≤ k) (k2 : k ≤ 3) (t1 : 1 ≤ t) (t2 : t ≤ 9223372036854775807) (hm : m ≤ 4096) (hn : n ≤ 1073741824) (hbase : base ≤ w.heap.size) :
    Calls Try.prog 43 #[.slice A n c, .agg #[.int .i64 k, .int .i64 t, .slice B m d]] w (Ap w base A n l (21 + m) (enc ⟨k, t, data⟩)) := by
  obtain ⟨i0, hi, hz0, hz1, hz2⟩ := info_parts info_u8
  have hs : IntKind.u32.signed = false := rfl
  have hx := u32_not m (by omega)
  have hx2 : 4294967295 - m < 4294967296 := by omega
  obtain ⟨q, hq⟩ : ∃ q, 4294967295 - m = q := ⟨_, rfl⟩
  rw [hq] at hx hx2
  have HQ := Lib.hid hq; clear hq
  have ha : blk A ≠ some w.heap.size := fun e => by have := own_blk_le h.out e; omega
  obtain ⟨x0, x1, x2⟩ := box3 w (.int .i64 k) (.int .i64 t) (.slice B m d) 24
  have X0 := Lib.hid x0
  have X1 := Lib.hid x1
  have X2 := Lib.hid x2
  clear x0 x1 x2
  have hd0 := Lib.hid (hd.out.alloc (.cells #[.int .i64 k, .int .i64 t, .slice B m d] 24))
  go_enter Try.func43, Try.ntmps43
  go_wp2_with fail
  go_at_call 56
  refine (number_any m 4 _ (own_alloc h.out _) (by omega) (by omega) (by omega) (by simp; omega)).mono ?_
  rintro e w1 ⟨A1, c1, rfl, own1, g1⟩
  obtain ⟨W0, hW0⟩ : ∃ W0, w.alloc (.cells #[.int .i64 k, .int .i64 t, .slice B m d] 24) = W0 := ⟨_, rfl⟩
  have hz0' : W0.heap.size = w.heap.size + 1 := by rw [← hW0]; simp
  have gw : Grew w A W0 A := hW0 ▸ (Grew.refl w A).alloc _
  rw [hW0] at X0 X1 X2 g1 hd0
  have hlt : w.heap.size < W0.heap.size := by omega
  have HW0 := Lib.hid hW0
  clear hW0 hz0'
  have s1 := g1.by_.size
  go_wp2_with fail
  go_at_call 56
  refine (number_any q 4 _ own1 (by omega) (by omega) (by omega) (by omega)).mono ?_
  rintro e w2 ⟨A2, c2, rfl, own2, g2'⟩
  have g2 := g1.trans g2'
  clear g2'
  have s2 := g2.by_.size
  have x0 := (g2.cell (o := 0) hlt ha).trans X0.out
  go_wp2_with (at_builtin; refine wpList_app _ rfl (.tmp 22) (.tmp 26) 22 rfl base 5 i0 (.int .u8 0) 1 1 Try.underlying22 hi hz0 hz1 hz2 rfl (by omega) (by rfl) (own_alloc own2 _) (by rfl) (Rd.lit _ _ 1 #[.int .u8 k] 1 (by omega) rfl) (one1 _ rfl) (by omega) (by omega) (by simp; omega) ?_; intro A3 c3 w3 own3 g3'; have g3 := (g2.alloc _).trans g3'; clear g3'; have s3 := g3.by_.size; clear x0; have x1 := (g3.cell (o := 1) hlt ha).trans X1.out)
  go_at_call 56
  refine (number_any (base := base) t 8 _ (l := l ++ be 4 m ++ be 4 q ++ [UInt8.ofNat k]) ?_ (by omega) (by omega) (by omega) (by omega)).mono ?_
  · refine Lib.hid ?_
    rw [bv_app (_ ++ _)]
    have e : bv [UInt8.ofNat k] = (#[Value.int .u8 k] : Array Value).toList := by
      show [Value.int .u8 ((UInt8.ofNat k).toNat : Int)] = [.int .u8 k]
      rw [show (UInt8.ofNat k).toNat = k by simp; omega]
    rw [e]; exact own3
  rintro e w4 ⟨A4, c4, rfl, own4, g4'⟩
  have g4 := g3.trans g4'
  clear g4' x1
  have s4 := g4.by_.size
  have x2 := (g4.cell (o := 2) hlt ha).trans X2.out
  have rd4 : Rd w4 1 B m d (bv data) := hd0.out.grew g4 hne.out
  go_wp2_with (at_builtin; refine wpList_app _ rfl (.tmp 33) (.tmp 35) 22 rfl base 5 i0 (.int .u8 0) 1 1 Try.underlying22 hi hz0 hz1 hz2 rfl (by omega) (by rfl) own4 (by rfl) rd4 (bv_one _) (by omega) (by omega) (by omega) ?_; intro A5 c5 w5 own5 g5'; have g5 := g4.trans g5'; clear g5' x2; have s5 := g5.by_.size; obtain ⟨g, rfl, hc5, hm5⟩ := own_pos own5 (by omega); have hne5 : ¬ c5 = n + 4 + 4 := by omega)
  have hnl : n = l.length := by have := h.out.1; rw [bv_len] at this; omega
  have hml : m = data.length := by have := hd.out.len; rw [bv_len] at this; omega
  have HB : Hid (bv (l ++ be 4 m ++ be 4 q ++ [UInt8.ofNat k] ++ be 8 t) ++ bv data = bv ((l ++ be 4 m ++ be 4 q) ++ body ⟨k, t, data⟩)) := by
    refine Lib.hid ?_
    rw [← bv_app]; simp [body]
  have HL : Hid (n + 4 + 4 = (l ++ be 4 m ++ be 4 q).length) := by refine Lib.hid ?_; simp [be_len]; omega
  have HM : Hid (n + 4 + 4 + 1 + 8 + m - (n + 4 + 4) = (body ⟨k, t, data⟩).length) := by refine Lib.hid ?_; rw [body_len]; show _ = 9 + data.length; omega
  have HN := Lib.hid hml
  clear hnl hml
  go_at_call 57
  refine (check_any (l := body ⟨k, t, data⟩) _ HM ?_).mono ?_
  · refine Lib.hid ?_
    rw [HB.out] at own5
    have := (Rd.of_own own5).cut1 (lo := n + 4 + 4) (hi := n + 4 + 4 + 1 + 8 + m) (by omega) (by omega)
    rw [Nat.zero_add, bv_drop, HL.out, List.drop_left, bv_take, List.take_of_length_le] at this
    · rw [← HL.out] at this; exact this
    · rw [← HL.out, HM.out]; omega
  rintro e w' ⟨rfl, rfl⟩
  have hck := chk_lt (body ⟨k, t, data⟩)
  obtain ⟨ck, hck'⟩ : ∃ ck, chk (body ⟨k, t, data⟩) = ck := ⟨_, rfl⟩
  rw [hck'] at hck ⊢
  have HC := Lib.hid hck'
  clear hck'
  go_wp2_with fail
  go_at_call 56
  refine (number_any (base := base) ck 4 _ (l := (l ++ be 4 m ++ be 4 q) ++ body ⟨k, t, data⟩) (by rw [← HB.out]; exact Lib.hid own5) (by omega) (by omega) (by omega) (by omega)).mono ?_
  rintro e w6 ⟨A6, c6, rfl, own6, g6'⟩
  have g6 := g5.trans g6'
  clear g6'
  go_wp2_with fail
  go_ret
  have e : n + 4 + 4 + 1 + 8 + m + 4 = n + (21 + m) := by omega
  refine ⟨A6, c6, by rw [e]; rfl, ?_, gw.trans g6⟩
  rw [e] at own6
  have : l ++ enc ⟨k, t, data⟩ = l ++ be 4 m ++ be 4 q ++ body ⟨k, t, data⟩ ++ be 4 ck := by
    unfold enc; rw [HC.out]; show l ++ (be 4 data.length ++ (be 4 (4294967295 - data.length) ++ _)) = _
    rw [← HN.out, HQ.out]; simp
  rw [this]; exact own6
theorem code_any {A B : Option Addr} {n c m d base : Nat} {l data : List UInt8} (k t : Int) (w : World) (h : Hid (w.ownsRow base 5 1 (.slice A n c) n (bv l))) (hd : Hid (Rd w 1 B m d (bv data)))
    (hne : Hid (0 < m → blk A = none ∨ blk A ≠ blk B)) (k1 : 1 ≤ k) (k2 : k ≤ 3) (t1 : 1 ≤ t) (t2 : t ≤ 9223372036854775807) (hm : m ≤ 4096) (hn : n ≤ 1073741824) (hbase : base ≤ w.heap.size) :
    Calls Try.prog 43 #[.slice A n c, .agg #[.int .i64 k, .int .i64 t, .slice B m d]] w (Ap w base A n l (21 + m) (enc ⟨k, t, data⟩)) := by
  obtain ⟨k, rfl⟩ := Int.eq_ofNat_of_zero_le (show 0 ≤ k by omega)
  obtain ⟨t, rfl⟩ := Int.eq_ofNat_of_zero_le (show 0 ≤ t by omega)
  exact code_nat k t w h hd hne (by omega) (by omega) (by omega) (by omega) hm hn hbase
end Go.Proofs.Ytfkeedeiafegiaa.Wl
