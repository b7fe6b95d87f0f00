/- The walk of page.read. -/
import Derived.Test.YtpmkohnljngbhaaDoorPgW6
import Derived.Carry
import Derived.Laws.EntriesVeiled
namespace Go.Proofs.YtpmkohnljngbhaaDoor.Pg
set_option linter.unusedVariables false
set_option linter.unusedSimpArgs false
set_option maxRecDepth 1000000
open Go.RowKit Wl

def ReadPost (w : World) (f : FV) (root : Int) (e : Ending) (w' : World) : Prop :=
  ((∃ S M A n c L, Rok (f.ps.map PV.d) f.free root (S, its L) ∧ e = .returned (.tuple #[.map (some M), .slice A n c, .bool true]) ∧ Hid (Mb w' M S) ∧ Hid (Iw w' A n c L) ∧ w.heap.size ≤ M) ∨
    ((∀ s, ¬ Rok (f.ps.map PV.d) f.free root s) ∧ e = .returned (.tuple #[.map none, .slice none 0 0, .bool false]))) ∧ Below w.heap.size w w'
/-- The world in which a reading begins. -/
def rdW (w : World) (cs : Array Value) : World :=
  (((((w.alloc (.cells cs 29)).alloc (.map #[] 0)).alloc (.cells #[.map (some (w.heap.size + 1))] 91)).alloc (.cells #[.slice none 0 0] 92)).alloc
    (.cells #[.func (.func 70) #[] #[.pointer (some ⟨w.heap.size, 0, none⟩), .pointer (some ⟨w.heap.size + 1 + 1, 0, none⟩), .pointer (some ⟨w.heap.size + 1 + 1 + 1, 0, none⟩), .pointer (some ⟨w.heap.size + 1 + 1 + 1 + 1, 0, none⟩)]] 111))
theorem rd_vi {w : World} {f : FV} (h : Fl w f) {cs : Array Value} (hc : cs = f.cs.toArray) :
    Vi w (rdW w cs) f w.heap.size (w.heap.size + 1 + 1) (w.heap.size + 1 + 1 + 1) (w.heap.size + 1 + 1 + 1 + 1) (w.heap.size + 1) [] none 0 0 [] ∧ Blks w.heap.size w.heap.size (w.heap.size + 1 + 1) (w.heap.size + 1 + 1 + 1) (w.heap.size + 1 + 1 + 1 + 1) (w.heap.size + 1) := by
  subst hc
  refine ⟨⟨?_, ?_, ?_, ?_, ?_, ?_, World.ownsRow_nil _ _ _ _, by simp, by simp, by simp, by simp [blk]⟩, by constructor <;> omega⟩
  · exact bel_alloc (bel_alloc (bel_alloc (bel_alloc (bal _ _) (Nat.le_refl _) _) (Nat.le_refl _) _) (Nat.le_refl _) _) (Nat.le_refl _) _
  · have b := Bx.new w f.cs.toArray 29
    have := (((b.step (bal _ (.map #[] 0))).step (bal _ (.cells #[.map (some (w.heap.size + 1))] 91))).step (bal _ (.cells #[.slice none 0 0] 92))).step (bal _ (.cells #[.func (.func 70) #[] #[.pointer (some ⟨w.heap.size, 0, none⟩), .pointer (some ⟨w.heap.size + 1 + 1, 0, none⟩), .pointer (some ⟨w.heap.size + 1 + 1 + 1, 0, none⟩), .pointer (some ⟨w.heap.size + 1 + 1 + 1 + 1, 0, none⟩)]] 111))
    exact this
  · exact ((Bx.put _ (by simp) #[.map (some (w.heap.size + 1))] _).step (bal _ _)).step (bal _ _)
  · exact (Bx.put _ (by simp) #[.slice none 0 0] _).step (bal _ _)
  · exact Bx.put _ (by simp) #[_] _
  · have m := Mb.made (w.alloc (.cells f.cs.toArray 29))
    have e : (w.alloc (.cells f.cs.toArray 29)).heap.size = w.heap.size + 1 := by simp
    rw [e] at m
    exact ((m.below (bal _ _)).below (bal _ _)).below (bal _ _)
theorem adj_srt {l : List It} (h : ∀ (i : Nat) (x y : It), l[i]? = some x → l[i + 1]? = some y → cmpB x.k y.k < 0) : Srt l := by
  refine List.pairwise_iff_getElem.2 fun i j hi hj hij => ?_
  obtain ⟨d, rfl⟩ : ∃ d, j = i + 1 + d := ⟨j - i - 1, by omega⟩
  induction d with
  | zero => exact h i _ _ (List.getElem?_eq_getElem hi) (List.getElem?_eq_getElem hj)
  | succ d ih =>
    have h1 := ih (by omega) (by omega)
    exact cmpB_trans h1 (h (i + 1 + d) _ _ (List.getElem?_eq_getElem _) (List.getElem?_eq_getElem hj))
set_option maxRecDepth 1000000 in
set_option maxHeartbeats 6400000 in
theorem read_in {PA FA : Option Addr} {n pc m fc : Nat} {f : FV} (r0 : Int) (root : Int) (w : World) (hcs : Hid (#[.slice PA n pc, .int .i64 r0, .slice FA m fc] = f.cs.toArray))
    (G : Hid (Gl w)) (HF : Hid (Fl w f)) (RY : Hid (Rdy f)) (hr : root ≤ 100000) :
    Calls Tryd.prog 55 #[.agg #[.slice PA n pc, .int .i64 r0, .slice FA m fc], .int .i64 root] w (ReadPost w f root) := by
  have hmm := @run_makeMap Tryd.prog
  obtain ⟨V0, B0⟩ := rd_vi HF.out hcs.out
  have V0 := Lib.hid V0
  have B0 := Lib.hid B0
  by_cases q1 : root < 0
  · have R : Hid (Rok (f.ps.map PV.d) f.free root ([], its [])) := Lib.hid (.no q1)
    go_enter Tryd.func55, Tryd.ntmps55
    go_wp2_with fail
    refine bodyPost_ret (v := .tuple #[.map (some (w.heap.size + 1)), .slice none 0 0, .bool true]) (by simp [results, Tryd.results55, go_sem]) rfl ⟨.inl ⟨[], w.heap.size + 1, none, 0, 0, [], R.out, rfl, Lib.hid V0.out.mp, Lib.hid ⟨Rd.nil_ _ _, by simp⟩, by omega⟩, V0.out.bw⟩
  · obtain ⟨r, rfl⟩ : ∃ r : Nat, root = (r : Int) := ⟨root.toNat, by omega⟩
    have HY : Hid (∀ s, vis (f.ps.map PV.d) f.free (f.ps.length + 1) r ([], its []) = some s → Srt s.2 → Rok (f.ps.map PV.d) f.free (r : Int) s) := Lib.hid fun s h1 h2 => .yes s (by omega) (by rw [List.length_map]; exact h1) h2
    have HN : Hid (∀ s, Rok (f.ps.map PV.d) f.free (r : Int) s → vis (f.ps.map PV.d) f.free (f.ps.length + 1) r ([], its []) = some s ∧ Srt s.2) := Lib.hid fun s h => by
      cases h with
      | no h => omega
      | yes s h hv hs => rw [List.length_map] at hv; exact ⟨hv, hs⟩
    have CV := visit_any G HF RY B0 (f.ps.length + 1) r (rdW w #[.slice PA n pc, .int .i64 r0, .slice FA m fc]) [] none 0 0 [] (by omega) (by simp) V0
    have CV := Lib.hid CV
    obtain ⟨rs, hrs⟩ : ∃ rs, vis (f.ps.map PV.d) f.free (f.ps.length + 1) r ([], its []) = rs := ⟨_, rfl⟩
    rw [hrs] at HY HN CV
    clear hrs V0 B0
    go_enter Tryd.func55, Tryd.ntmps55
    go_wp2_with fail
    go_at_call 70
    refine CV.out.mono ?_
    clear CV
    rintro e w7 (⟨S, A, n7, c7, L, rfl, rfl, V7, K7, N7⟩ | ⟨rfl, rfl, K7⟩)
    · have bw7 := V7.out.bw
      have z7 : w7.cell? ⟨w.heap.size + 1 + 1 + 1, 0, none⟩ = some (.slice A n7 c7) := V7.out.xa.at_ 0 (by simp)
      have zm : w7.cell? ⟨w.heap.size + 1 + 1, 0, none⟩ = some (.map (some (w.heap.size + 1))) := V7.out.xm.at_ 0 (by simp)
      have hL := Lib.hid V7.out.nlen
      have lim := V7.out.lim
      have slt := V7.out.slt
      have n4 := RY.out.n4
      have hn7 : n7 ≤ 344064 := by have := hL.out; omega
      clear lim slt n4
      have olr := Lib.hid (Rd.of_own V7.out.own)
      have hc7 := olr.out.nc
      have hc63 := olr.out.c63
      have DAT := Lib.hid (fun (x : IV) (hx : x ∈ L) => (V7.out.dat x hx).below V7.out.bw)
      go_wp2_with fail
      go_loopw [10] (fun iv wr => ∃ j : Nat, 1 ≤ j ∧ (j ≤ n7 ∨ j = 1) ∧ iv = .int .i64 j ∧ (∃ q : Nat, wr = w7.drewN q) ∧ Hid (∀ (i : Nat) (x y : It), i + 1 < j → (its L)[i]? = some x → (its L)[i + 1]? = some y → cmpB x.k y.k < 0)) (fun iv _ => (n7 - intOf iv).toNat)
      case atStart => exact ⟨1, by omega, by omega, rfl, ⟨0, rfl⟩, Lib.hid fun i x y h => by omega⟩
      case round =>
        obtain ⟨j, hj1, hj, rfl, ⟨q, rfl⟩, hpre⟩ := hrel
        have bq : Below w7.heap.size w7 (w7.drewN q) := bdrewN (Below.refl _ _)
        have z7q : (w7.drewN q).cell? ⟨w.heap.size + 1 + 1 + 1, 0, none⟩ = some (.slice A n7 c7) := z7
        by_cases hlt : j < n7
        · obtain ⟨i, rfl⟩ : ∃ i, j = i + 1 := ⟨j - 1, by omega⟩
          obtain ⟨g, o, x, rfl, hg, hx, a0, _, _⟩ := Rd.item olr.out (show i < n7 by omega)
          obtain ⟨g', o', y, e', _, hy, b0, _, _⟩ := Rd.item olr.out hlt
          injection e' with e'; injection e' with e1 e2; subst e1 e2
          have HX : Hid ((its L)[i]? = some x.it) := Lib.hid (by unfold its; rw [List.getElem?_map, hx]; rfl)
          have HY2 : Hid ((its L)[i + 1]? = some y.it) := Lib.hid (by unfold its; rw [List.getElem?_map, hy]; rfl)
          have dx := Lib.hid (DAT.out x (List.mem_of_getElem? hx)).1
          have dy := Lib.hid (DAT.out y (List.mem_of_getElem? hy)).1
          clear hx hy
          simp only [IV.kv] at a0 b0
          have a0q : (w7.drewN q).cell? ⟨g, o + i * 3, none⟩ = some (.slice x.kA x.k.length x.kc) := a0
          have b0q : (w7.drewN q).cell? ⟨g, o + (i + 1) * 3, none⟩ = some (.slice y.kA y.k.length y.kc) := b0
          have EQ : Hid (∀ q, Calls Tryd.prog 73 #[.slice x.kA x.k.length x.kc, .slice y.kA y.k.length y.kc] (w7.drewN q) fun e w' => e = .returned (.int .i64 (cmpB x.k y.k)) ∧ w7.drewN q = w') := Lib.hid fun q => Compare_any _ (Lib.hid (dx.out.drewN q)) (Lib.hid (dy.out.drewN q))
          by_cases hlt2 : cmpB x.k y.k < 0
          · have hpre2 : Hid (∀ (k : Nat) (x y : It), k + 1 < i + 1 + 1 → (its L)[k]? = some x → (its L)[k + 1]? = some y → cmpB x.k y.k < 0) := Lib.hid fun k a b hk ha hb => by
              rcases Nat.lt_or_ge k i with h | h
              · exact hpre.out k a b (by omega) ha hb
              · obtain rfl : k = i := by omega
                rw [HX.out] at ha; injection ha with ha; subst ha
                rw [HY2.out] at hb; injection hb with hb; subst hb
                exact hlt2
            go_wp2_with fail
            go_quiet (first | (go_at_call 73; exact q_same (EQ.out _)))
            go_wp2_with fail
            go_roundw
            case rel => exact ⟨i + 1 + 1, by omega, by omega, by go_num, ⟨_, rfl⟩, hpre2⟩
            case measure => simp [intOf]; omega
          · have R : Hid (∀ s, ¬ Rok (f.ps.map PV.d) f.free (r : Int) s) := Lib.hid fun s h => by
              obtain ⟨h1, h2⟩ := HN.out s h
              injection h1 with h1; subst h1
              exact hlt2 (h2.at_ HX.out HY2.out (by omega))
            go_wp2_with fail
            go_quiet (first | (go_at_call 73; exact q_same (EQ.out _)))
            go_wp2_with fail
            exact bodyPost_ret (v := .tuple #[.map none, .slice none 0 0, .bool false]) (by simp [results, Tryd.results55, go_sem]) rfl ⟨.inr ⟨R.out, rfl⟩, bdrewN (bdrewN bw7)⟩
        · have SR : Hid (Rok (f.ps.map PV.d) f.free (r : Int) (S, its L)) := Lib.hid (HY.out (S, its L) rfl (adj_srt fun i x y hx hy => hpre.out i x y (by
            have := (List.getElem?_eq_some_iff.1 hy).1
            rw [its_len, ← hL.out] at this; omega) hx hy))
          have zmq : (w7.drewN q).cell? ⟨w.heap.size + 1 + 1, 0, none⟩ = some (.map (some (w.heap.size + 1))) := zm
          go_wp2_with fail
          go_quiet (fail)
          go_wp2_with fail
          exact bodyPost_ret (v := .tuple #[.map (some (w.heap.size + 1)), .slice A n7 c7, .bool true]) (by simp [results, Tryd.results55, go_sem]) rfl ⟨.inl ⟨S, w.heap.size + 1, A, n7, c7, L, SR.out, rfl, Lib.hid ((V7.out.mp.below bq).below (bdrewN (Below.refl _ _))), Lib.hid ((Iw.below ⟨olr.out, DAT.out⟩ bq).below (bdrewN (Below.refl _ _))), by omega⟩, bdrewN (bdrewN bw7)⟩
    · have R : Hid (∀ s, ¬ Rok (f.ps.map PV.d) f.free (r : Int) s) := Lib.hid fun s h => by
        have h1 := (HN.out s h).1
        cases h1
      have B7 : Below w.heap.size w w7 := by
        obtain ⟨V0, B0⟩ := rd_vi HF.out hcs.out
        exact V0.bw.trans (K7.out.low V0.bw.size fun i h => by
          rcases h with h | h | h
          · exact h ▸ B0.M1
          · exact h ▸ B0.a1
          · simp [blk] at h)
      go_wp2_with fail
      exact bodyPost_ret (v := .tuple #[.map none, .slice none 0 0, .bool false]) (by simp [results, Tryd.results55, go_sem]) rfl ⟨.inr ⟨R.out, rfl⟩, B7⟩
theorem read_any (f : FV) (root : Int) (w : World) (G : Hid (Gl w)) (HF : Hid (Fl w f)) (RY : Hid (Rdy f)) (hr : root ≤ 100000) : Calls Tryd.prog 55 #[f.val, .int .i64 root] w (ReadPost w f root) :=
  read_in f.root root w (Lib.hid rfl) G HF RY hr
end Go.Proofs.YtpmkohnljngbhaaDoor.Pg
