/- Walk: Committed. -/
import Derived.Test.YtfkeedeiafegiaaWalW14
namespace Go.Proofs.Ytfkeedeiafegiaa.Wl
set_option linter.unusedVariables false
set_option linter.unusedSimpArgs false
open Go.RowKit

theorem sts_le (l : List Rec) : (∀ t, ((sts l).1 t).length ≤ l.length) ∧ (sts l).2.length ≤ l.length ∧ ∀ p ∈ (sts l).2, p.2.length ≤ l.length := by
  suffices h : ∀ n (l : List Rec), l.length = n → (∀ t, ((sts l).1 t).length ≤ l.length) ∧ (sts l).2.length ≤ l.length ∧ ∀ p ∈ (sts l).2, p.2.length ≤ l.length from h _ l rfl
  intro n
  induction n with
  | zero =>
    intro l hl
    obtain rfl := List.eq_nil_of_length_eq_zero hl
    exact ⟨fun _ => Nat.le_refl _, Nat.le_refl _, by simp [sts]⟩
  | succ n ih =>
    intro l hl
    rcases List.eq_nil_or_concat l with rfl | ⟨m, r, rfl⟩
    · simp at hl
    · rw [List.concat_eq_append] at hl ⊢
      have hm : m.length = n := by simpa using hl
      obtain ⟨h1, h2, h3⟩ := ih m hm
      rw [sts_snoc, List.length_append, List.length_singleton]
      unfold stp
      by_cases hk : r.k = 3
      · rw [if_pos hk]
        refine ⟨fun t => ?_, by simp; omega, fun p hp => ?_⟩
        · dsimp only
          by_cases e : t = r.t
          · subst e; rw [upd_same]; simp
          · rw [upd_other _ _ e]; have := h1 t; omega
        · dsimp only at hp
          rcases List.mem_append.1 hp with hp | hp
          · have := h3 p hp; omega
          · obtain rfl : p = (r.t, (sts m).1 r.t) := by simpa using hp
            have := h1 r.t; show ((sts m).1 r.t).length ≤ _; omega
      · rw [if_neg hk]
        refine ⟨fun t => ?_, by show (sts m).2.length ≤ _; omega, fun p hp => ?_⟩
        · dsimp only
          by_cases e : t = r.t
          · subst e; rw [upd_same]; have := h1 r.t; simp; omega
          · rw [upd_other _ _ e]; have := h1 t; omega
        · have := h3 p hp; omega
/-- The committed records. -/
def com (l : List Rec) : List Rec := ((trs l).map (·.2)).flatten
theorem Rd.recs {w : World} {n c : Nat} {A : Option Addr} {l : List RV} {base : Nat} (h : Rs w base A n c l) : Rd w 3 A n c (cells l) := Rd.of_own h.row
theorem Tr.at_ {w : World} {base n c i : Nat} {A : Option Addr} {out : List TV} (h : Tr w base A n c out) (hi : i < n) : ∃ g x, A = some ⟨g, 0, none⟩ ∧ g < w.heap.size ∧ out[i]? = some x ∧ x ∈ out ∧
    w.cell? ⟨g, i * 2, none⟩ = some (.int .i64 x.tx) ∧ w.cell? ⟨g, i * 2 + 1, none⟩ = some (.slice x.g.A x.g.n x.g.c) := by
  obtain ⟨g, o, e, hb, hc⟩ := (Rd.of_own h.row).at_ (by omega)
  obtain ⟨g', e', _⟩ := own_pos h.row (by omega)
  obtain ⟨rfl, rfl⟩ : g' = g ∧ o = 0 := by rw [e'] at e; injection e with e; injection e with e1 e2; exact ⟨e1, e2.symm⟩
  have hl := h.len
  have hx : out[i]? = some (out[i]'(by omega)) := List.getElem?_eq_getElem (by omega)
  obtain ⟨c0, c1⟩ := tcells_get out i _ hx
  refine ⟨g', _, e, hb, hx, List.getElem_mem _, ?_, ?_⟩
  · have := hc (i * 2) (by omega); rw [Nat.zero_add] at this; rw [this]; exact c0
  · have := hc (i * 2 + 1) (by omega); rw [Nat.zero_add] at this; rw [this]; exact c1
theorem ap_lo {A B : Option Addr} {z : Nat} (hA : ∀ q, blk A = some q → z ≤ q) (hB : ∀ q, blk B = some q → q < z) : ap A B := by
  unfold ap
  rcases h : blk A with _ | q
  · exact .inl rfl
  · refine .inr fun e => ?_
    have h1 := hA q h
    have h2 := hB q e.symm
    omega
set_option maxHeartbeats 1600000 in
theorem Committed_any {A : Option Addr} {n c : Nat} {b : List UInt8} (w : World) (hl : Hid (n = b.length)) (h : Hid (Rd w 1 A n c (bv b))) (hn : n ≤ 1048576) :
    Calls Try.prog 24 #[.slice A n c] w fun e w' => ∃ A1 n1 c1 l, e = .returned (.slice A1 n1 c1) ∧ Rs w' w.heap.size A1 n1 c1 l ∧ l.map RV.r = com (rd b) ∧ Below w.heap.size w w' := by
  obtain ⟨i0, hi, hz0, hz1, hz2⟩ := info_parts info_rec
  go_enter Try.func24, Try.ntmps24
  go_wp2_with fail
  go_at_call 53
  refine (transactions_any _ hl h (by omega)).mono ?_
  rintro e w1 ⟨A1, n1, c1, out, rfl, tr, ho, b1⟩
  have TR := Lib.hid tr
  have HO := Lib.hid ho
  have hle := sts_le (rd b)
  have hrl := rd_len b
  have hn1 : n1 ≤ 1048576 := by
    have h1 := congrArg List.length ho
    rw [List.length_map] at h1
    have h2 := tr.len
    have h3 := hle.2.1
    have h4 := hl.out
    have h5 : (trs (rd b)).length = (sts (rd b)).2.length := rfl
    omega
  have hgn : Hid (∀ x ∈ out, x.g.n ≤ 1048576) := Lib.hid fun x hx => by
    have h1 := hle.2.2 (x.tx, x.g.l.map RV.r) (by
      have : (x.tx, x.g.l.map RV.r) ∈ out.map (fun x => (x.tx, x.g.l.map RV.r)) := List.mem_map_of_mem hx
      rw [ho] at this; exact this)
    have h2 := (tr.dat x hx).len
    have h4 := hl.out
    simp at h1
    omega
  have hnc := (Rd.of_own tr.row).nc
  have hc63 := (Rd.of_own tr.row).c63
  clear ho tr hle hrl
  have zw := b1.size
  go_wp2_with fail
  go_loopw [3, 9] (fun v i wr => ∃ (j : Nat) (Ao : Option Addr) (no co : Nat) (ol : List RV), j ≤ n1 ∧ no ≤ j * 1048576 ∧ i = .int .i64 j ∧ v = .slice Ao no co ∧ Hid (Rs wr w.heap.size Ao no co ol) ∧ Hid (ol.map RV.r = ((out.take j).map fun x => x.g.l.map RV.r).flatten) ∧ Hid (∀ q, blk Ao = some q → w1.heap.size ≤ q) ∧ Below w1.heap.size w1 wr) (fun _ i _ => (n1 - intOf i).toNat)
  case atStart => exact ⟨0, none, 0, 0, [], by omega, by omega, rfl, rfl, Lib.hid (Rs.nil_ _ _), Lib.hid rfl, Lib.hid (fun q h => by cases h), Below.refl _ _⟩
  case round =>
    obtain ⟨j, Ao, no, co, ol, hj, hno, rfl, rfl, rs, hol, hlo, bw⟩ := hrel
    have z1 := bw.size
    by_cases hlt : j < n1
    · obtain ⟨g, x, rfl, hg, hx, hxm, a0, a1⟩ := (TR.out.below bw).at_ hlt
      have HX : Hid (out.take (j + 1) = out.take j ++ [x]) := Lib.hid (by rw [List.take_add_one, hx]; rfl)
      have hxd := Lib.hid ((TR.out.dat x hxm).below bw)
      have hap : Hid (ap Ao x.g.A) := Lib.hid (ap_lo hlo.out fun q hq => (own_blk_le (TR.out.dat x hxm).row hq).2)
      have hxn := hgn.out x hxm
      obtain ⟨⟨tx, ⟨gA, gn, gc, gl⟩⟩, hxx⟩ : ∃ y, x = y := ⟨_, rfl⟩
      rw [hxx] at hxd hap hxn a0 a1 HX
      clear hx hxm hxx
      have rsa := Lib.hid (rs.out.alloc (.cells #[.int .i64 tx, .slice gA gn gc] 73))
      have hxa := Lib.hid (hxd.out.alloc (.cells #[.int .i64 tx, .slice gA gn gc] 73))
      have rd1 := Lib.hid (Rd.of_own (hxa.out.row))
      go_wp2_with (at_builtin; refine wpList_app _ rfl (.tmp 13) (.tmp 15) 33 rfl w.heap.size 24 i0 (.agg #[.int .i64 0, .int .i64 0, .slice none 0 0]) 3 40 Try.underlying33 hi hz0 hz1 hz2 rfl (by omega) (by rfl) rsa.out.row (by rfl) rd1.out (cells_one _) (by omega) (by omega) (by simp; omega) ?_; intro A2 c2 w2 own2 g2)
      have hm : (gn : Nat) ≤ 1048576 := hxn
      have RS2 : Hid (Rs w2 w.heap.size A2 (no + gn) c2 (ol ++ gl)) := Lib.hid ⟨by rw [cells_app]; exact own2, fun y hy => by
        rcases List.mem_append.1 hy with hy | hy
        · exact own_grew (rsa.out.dat y hy) g2 (own_ne (rsa.out.dat y hy) rsa.out.row (by decide))
        · exact own_grew (hxa.out.dat y hy) g2 (own_ne (hxa.out.dat y hy) rsa.out.row (by decide))⟩
      have HOL : Hid ((ol ++ gl).map RV.r = ((out.take (j + 1)).map fun x => x.g.l.map RV.r).flatten) := Lib.hid (by
        rw [HX.out, List.map_append, List.map_append, List.flatten_append, hol.out]; simp)
      have HLO : Hid (∀ q, blk A2 = some q → w1.heap.size ≤ q) := Lib.hid fun q hq => by
        rcases g2.at_ with e | ⟨p, e, hp⟩
        · exact hlo.out q (e ▸ hq)
        · have : some p = some q := e ▸ hq
          injection this with this
          have : wr.heap.size ≤ p := Nat.le_trans (by simp) hp
          omega
      have b3 : Below w1.heap.size w1 w2 := g2.low (bel_alloc bw (Nat.le_refl _) _) (by simp; omega) (fun q e => hlo.out q e)
      clear own2 g2
      go_roundw
      case rel => exact ⟨j + 1, A2, no + gn, c2, _, by omega, by omega, by go_num, rfl, RS2, HOL, HLO, b3⟩
      case measure => simp [intOf]; omega
    · obtain rfl : j = n1 := by omega
      have hlj : Hid (out.take j = out) := Lib.hid (List.take_of_length_le (by have := TR.out.len; omega))
      have hbF := b1.trans (bw.mono zw)
      go_wp2_with fail
      go_ret
      refine ⟨Ao, no, co, ol, rfl, rs.out, ?_, hbF⟩
      rw [hol.out, hlj.out]
      unfold com
      rw [← HO.out, List.map_map]; rfl
end Go.Proofs.Ytfkeedeiafegiaa.Wl
