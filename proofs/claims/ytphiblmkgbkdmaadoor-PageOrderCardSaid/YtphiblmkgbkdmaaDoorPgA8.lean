/- PageOrder. -/
import Derived.Test.YtphiblmkgbkdmaaDoorPgE2
import Derived.Test.YtphiblmkgbkdmaaDoorPgOr
import Derived.Test.YtphiblmkgbkdmaaDoorPgN1
namespace Go.Proofs.YtphiblmkgbkdmaaDoor.Pg
set_option linter.unusedVariables false
set_option linter.unusedSimpArgs false
open Go.RowKit Wl

theorem rng_nl (es : List It) : rng es [] [] = es := by
  unfold rng
  refine List.filter_eq_self.2 fun x _ => ?_
  unfold inR
  have : 0 ≤ cmpB x.k [] := by
    cases x.k with
    | nil => rw [cmpB_nil]; omega
    | cons a l => rw [cmpB_cn]; omega
  rw [decide_eq_true this]; rfl
/-- A file in a box. -/
structure Sb (wr : World) (p : Nat) (f : FV) (PA FA : Option Addr) (n pc m fc : Nat) (r : Int) : Prop where
  fv : Fv f PA n pc r FA m fc
  bx : Bx wr p [.slice PA n pc, .int .i64 r, .slice FA m fc]
  ty : Ty wr p 30
  fl : FlT wr f
section
variable {w w' : World} {p q : Nat} {f f' : FV} {PA FA PA' FA' : Option Addr} {n pc m fc n' pc' m' fc' : Nat} {r r' : Int}
theorem Sb.nx (S : Sb w p f PA FA n pc m fc r) (b : Below w.heap.size w w') : Sb w' p f PA FA n pc m fc r := ⟨S.fv, S.bx.nx b, S.ty.nx b, S.fl.nx b⟩
theorem Sb.put (S : Sb w p f PA FA n pc m fc r) (F : FlT w f') (V : Fv f' PA' n' pc' r' FA' m' fc') : Sb (((w.setCell ⟨p, 0, none⟩ (.slice PA' n' pc')).setCell ⟨p, 1, none⟩ (.int .i64 r')).setCell ⟨p, 2, none⟩ (.slice FA' m' fc')) p f' PA' FA' n' pc' m' fc' r' :=
  ⟨V, ((S.bx.set (j := 0) (by simp) (.slice PA' n' pc')).set (j := 1) (by simp) (.int .i64 r')).set (j := 2) (by simp) (.slice FA' m' fc'), ((S.ty.set p 0 _).set p 1 _).set p 2 _, F.kp (kp_res (Kp.refl w _)) S.ty⟩
theorem Sb.oth (S : Sb w q f PA FA n pc m fc r) {a b c : Value} (hp : Ty w p 30) (ne : q ≠ p) : Sb (((w.setCell ⟨p, 0, none⟩ a).setCell ⟨p, 1, none⟩ b).setCell ⟨p, 2, none⟩ c) q f PA FA n pc m fc r :=
  ⟨S.fv, S.bx.kp (kp_res (Kp.refl w _)) ne, ((S.ty.set p 0 _).set p 1 _).set p 2 _, S.fl.kp (kp_res (Kp.refl w _)) hp⟩
theorem sb_new (h : Bx w p [.slice none 0 0, .int .i64 (-1), .slice none 0 0]) (t : Ty w p 30) : Sb w p newV none none 0 0 0 0 (-1) :=
  ⟨⟨rfl, Lib.hid rfl, rfl, rfl, rfl⟩, h, t, ⟨new_fl _, fun g e => by simp [newV, blk] at e, by simp [newV], fun g h0 _ => by simp [newV] at h0⟩⟩
end
/-- Puts of keys: the file, and its entries. -/
structure Os (F : Fi) (es : List It) (K : List (List UInt8)) (j : Nat) : Prop where
  ok : Sok F es j
  sl : Slf es K
theorem os_put {F G : Fi} {es : List It} {K : List (List UInt8)} {j : Nat} {k : List UInt8} {er : Int} (h : Os F es K j) (hj : j ≤ 60) (hk : lenK k) (ho : PutO F k k G er) : er = 0 ∧ ∃ fs, Os G fs (k :: K) (j + 1) := by
  obtain ⟨a, b, _⟩ := put_sok h.ok (by omega) ⟨hk.1, hk.2, by have := hk.2; omega⟩ ho
  exact ⟨a, _, b, h.sl.put k⟩
theorem os_oth {F G H : Fi} {es : List It} {K : List (List UInt8)} {j : Nat} {o : List UInt8} {e1 e2 : Int} (h : Os F es K j) (hj : j ≤ 60) (ho : lenK o) (hn : o ∉ K) (p1 : PutO F o [] G e1) (p2 : DelO G o H e2) : e1 = 0 ∧ e2 = 0 ∧ ∃ fs, Os H fs K (j + 2) := by
  obtain ⟨a, b, _⟩ := put_sok h.ok (by omega) ⟨ho.1, ho.2, by simp⟩ p1
  rcases del_sok b (by omega) ho p2 with ⟨h1, _⟩ | ⟨_, h2, h3, _⟩
  · exfalso
    have hf := (lkp_upd b.srt).1 h1
    have : fd (upd es o [⟨o, [], 0⟩]) o = true := by
      unfold fd
      rw [List.any_eq_true]
      exact ⟨⟨o, [], 0⟩, mem_upd.2 (.inl (by simp)), by simp⟩
    rw [this] at hf; cases hf
  · exact ⟨a, h2, _, h3, h.sl.other hn []⟩
theorem ord1s_any_ix {α : Type} (val : α → Value) (p : α → Bool) {A : Option Addr} {n c : Nat} {l : List α}  (w : World) (h : Hid (Rd w 1 A n c (l.map val)))
    (hf : Hid (∀ U, Below w.heap.size w U → ∀ x ∈ l, Calls Tryd.prog 32 #[val x] U fun e w' => e = .returned (.bool (p x)) ∧ Below U.heap.size U w')) :
    Calls Tryd.prog 44 #[.slice A n c, .func (.func 32) #[] #[]] w (Ix w (l.any p)) := by
  have hnc := h.out.nc
  have hc63 := h.out.c63
  go_enter Tryd.func44, Tryd.ntmps44
  go_wp2_with fail
  go_loopw [8] (fun i wr => ∃ j : Nat, j ≤ n ∧ i = .int .i64 j ∧ Below w.heap.size w wr ∧ Hid ((l.take j).any p = false)) (fun i _ => (n - intOf i).toNat)
  case atStart => exact ⟨0, by omega, rfl, Below.refl _ _, Lib.hid rfl⟩
  case round =>
    obtain ⟨j, hj, rfl, bw, hpre⟩ := hrel
    by_cases hlt : j < n
    · obtain ⟨g, o, x, rfl, hg, hx, hc⟩ := Rd.at1 (Rd.below h.out bw) hlt
      have HX := Lib.hid hx
      have HM := Lib.hid (List.mem_of_getElem? hx)
      clear hx
      go_wp2_with fail
      go_at_call 32
      refine (hf.out _ bw x HM.out).mono ?_
      rintro e w1 ⟨rfl, hb1⟩
      have bw1 : Below w.heap.size w w1 := bel_step bw hb1 (Nat.le_refl _)
      clear hb1
      rcases hs : p x with _ | _
      · have hp2 : Hid ((l.take (j + 1)).any p = false) := Lib.hid (by
          rw [List.take_add_one, List.any_append, hpre.out, HX.out, Bool.false_or]; simpa using hs)
        clear hs
        go_wp2_with fail
        go_roundw
        case rel => exact ⟨j + 1, by omega, by go_num, bw1, hp2⟩
        case measure => simp [intOf]; omega
      · have R : Hid (l.any p = true) := Lib.hid (List.any_eq_true.2 ⟨x, HM.out, hs⟩)
        clear hs
        go_wp2_with fail
        go_ret
        exact Ix.t R.out rfl (by omega) bw1
    · obtain rfl : j = n := by omega
      have R : Hid (l.any p = false) := Lib.hid (by
        have h1 := hpre.out
        rwa [List.take_of_length_le (by have := h.out.len; rw [List.length_map] at this; omega)] at h1)
      go_wp2_with fail
      go_ret
      exact Ix.f R.out rfl bw
theorem ord1s_any {α : Type} (val : α → Value) (p : α → Bool) {A : Option Addr} {n c : Nat} {l : List α}  (w : World) (h : Hid (Rd w 1 A n c (l.map val)))
    (hf : Hid (∀ U, Below w.heap.size w U → ∀ x ∈ l, Calls Tryd.prog 32 #[val x] U fun e w' => e = .returned (.bool (p x)) ∧ Below U.heap.size U w')) :
    Calls Tryd.prog 14 #[.slice A n c, .func (.func 32) #[] #[]] w fun e w' => e = .returned (.bool (l.any p)) ∧ Below w.heap.size w w' := by
  go_enter Tryd.func14, Tryd.ntmps14
  go_wp2_with fail
  go_at_call 44
  refine (ord1s_any_ix val p _ h hf).mono ?_
  rintro e w1 ⟨i, rfl, i1, i2, hb1⟩
  rcases hs : l.any p with _ | _
  · have hi : i = -1 := i2 hs
    subst hi
    have HS := Lib.hid hs
    clear hs i1 i2
    go_wp2_with fail
    go_ret
    exact ⟨ret_bool (by rw [HS.out]), hb1⟩
  · have hi : 0 ≤ i := i1 hs
    have HS := Lib.hid hs
    clear hs i1 i2
    go_wp2_with fail
    go_ret
    exact ⟨ret_bool (by rw [HS.out]), hb1⟩
theorem ord1_any {x : PV} (U : World) : Calls Tryd.prog 32 #[x.v] U fun e w' => e = .returned (.bool (!lenB x.d.length 0)) ∧ Below U.heap.size U w' := by
  obtain ⟨X, c, d⟩ := x
  obtain ⟨k, hk⟩ : ∃ k, d.length = k := ⟨_, rfl⟩
  show Calls Tryd.prog 32 #[.slice X d.length c] U fun e w' => e = .returned (.bool (!lenB d.length 0)) ∧ Below U.heap.size U w'
  rw [hk]
  go_enter Tryd.func32, Tryd.ntmps32
  go_wp2_with fail
  go_at_call 24
  refine (rLengths_any _).mono ?_
  rintro e w' ⟨rfl, rfl⟩
  go_wp2_with fail
  go_ret
  exact ⟨by first | done | rfl, Below.refl _ _⟩
theorem ord2s_any_ix {α : Type} (val : α → Value) (p : α → Bool) {A : Option Addr} {n c : Nat} {l : List α} {P : Addr} (w : World) (h : Hid (Rd w 1 A n c (l.map val)))
    (hf : Hid (∀ U, Below w.heap.size w U → ∀ x ∈ l, Calls Tryd.prog 33 #[val x, .pointer (some P)] U fun e w' => e = .returned (.bool (p x)) ∧ Below U.heap.size U w')) :
    Calls Tryd.prog 44 #[.slice A n c, .func (.func 33) #[] #[.pointer (some P)]] w (Ix w (l.any p)) := by
  have hnc := h.out.nc
  have hc63 := h.out.c63
  go_enter Tryd.func44, Tryd.ntmps44
  go_wp2_with fail
  go_loopw [8] (fun i wr => ∃ j : Nat, j ≤ n ∧ i = .int .i64 j ∧ Below w.heap.size w wr ∧ Hid ((l.take j).any p = false)) (fun i _ => (n - intOf i).toNat)
  case atStart => exact ⟨0, by omega, rfl, Below.refl _ _, Lib.hid rfl⟩
  case round =>
    obtain ⟨j, hj, rfl, bw, hpre⟩ := hrel
    by_cases hlt : j < n
    · obtain ⟨g, o, x, rfl, hg, hx, hc⟩ := Rd.at1 (Rd.below h.out bw) hlt
      have HX := Lib.hid hx
      have HM := Lib.hid (List.mem_of_getElem? hx)
      clear hx
      go_wp2_with fail
      go_at_call 33
      refine (hf.out _ bw x HM.out).mono ?_
      rintro e w1 ⟨rfl, hb1⟩
      have bw1 : Below w.heap.size w w1 := bel_step bw hb1 (Nat.le_refl _)
      clear hb1
      rcases hs : p x with _ | _
      · have hp2 : Hid ((l.take (j + 1)).any p = false) := Lib.hid (by
          rw [List.take_add_one, List.any_append, hpre.out, HX.out, Bool.false_or]; simpa using hs)
        clear hs
        go_wp2_with fail
        go_roundw
        case rel => exact ⟨j + 1, by omega, by go_num, bw1, hp2⟩
        case measure => simp [intOf]; omega
      · have R : Hid (l.any p = true) := Lib.hid (List.any_eq_true.2 ⟨x, HM.out, hs⟩)
        clear hs
        go_wp2_with fail
        go_ret
        exact Ix.t R.out rfl (by omega) bw1
    · obtain rfl : j = n := by omega
      have R : Hid (l.any p = false) := Lib.hid (by
        have h1 := hpre.out
        rwa [List.take_of_length_le (by have := h.out.len; rw [List.length_map] at this; omega)] at h1)
      go_wp2_with fail
      go_ret
      exact Ix.f R.out rfl bw
theorem ord2s_any {α : Type} (val : α → Value) (p : α → Bool) {A : Option Addr} {n c : Nat} {l : List α} {P : Addr} (w : World) (h : Hid (Rd w 1 A n c (l.map val)))
    (hf : Hid (∀ U, Below w.heap.size w U → ∀ x ∈ l, Calls Tryd.prog 33 #[val x, .pointer (some P)] U fun e w' => e = .returned (.bool (p x)) ∧ Below U.heap.size U w')) :
    Calls Tryd.prog 14 #[.slice A n c, .func (.func 33) #[] #[.pointer (some P)]] w fun e w' => e = .returned (.bool (l.any p)) ∧ Below w.heap.size w w' := by
  go_enter Tryd.func14, Tryd.ntmps14
  go_wp2_with fail
  go_at_call 44
  refine (ord2s_any_ix val p _ h hf).mono ?_
  rintro e w1 ⟨i, rfl, i1, i2, hb1⟩
  rcases hs : l.any p with _ | _
  · have hi : i = -1 := i2 hs
    subst hi
    have HS := Lib.hid hs
    clear hs i1 i2
    go_wp2_with fail
    go_ret
    exact ⟨ret_bool (by rw [HS.out]), hb1⟩
  · have hi : 0 ≤ i := i1 hs
    have HS := Lib.hid hs
    clear hs i1 i2
    go_wp2_with fail
    go_ret
    exact ⟨ret_bool (by rw [HS.out]), hb1⟩
theorem ord2_any {x : PV} {p on oc : Nat} {OA : Option Addr} {o : List UInt8} (U : World) (X : Hid (Bx U p [.slice OA on oc])) (hx : Hid (Rd U 1 x.A x.d.length x.c (bv x.d))) (ho : Hid (Rd U 1 OA on oc (bv o))) : Calls Tryd.prog 33 #[x.v, .pointer (some ⟨p, 0, none⟩)] U fun e w' => e = .returned (.bool (eqB x.d o)) ∧ Below U.heap.size U w' := by
  obtain ⟨XA, c, d⟩ := x
  have EQ := sEqual_any U hx ho
  show Calls Tryd.prog 33 #[.slice XA d.length c, .pointer (some ⟨p, 0, none⟩)] U fun e w' => e = .returned (.bool (eqB d o)) ∧ Below U.heap.size U w'
  dsimp only at EQ
  obtain ⟨k, hk⟩ : ∃ k, d.length = k := ⟨_, rfl⟩
  obtain ⟨b, hb⟩ : ∃ b, eqB d o = b := ⟨_, rfl⟩
  rw [hk, hb] at EQ
  rw [hk, hb]
  have EQ := Lib.hid EQ
  clear hk hb
  have z0 := X.out.at_ 0 (by simp)
  simp only [List.getElem?_cons_zero] at z0
  go_enter Tryd.func33, Tryd.ntmps33
  go_wp2_with fail
  go_at_call 29
  refine EQ.out.mono ?_
  rintro e w1 ⟨rfl, b1⟩
  go_wp2_with fail
  go_ret
  exact ⟨by first | done | rfl, b1⟩
set_option maxRecDepth 20000 in
set_option maxHeartbeats 6400000 in
theorem PageOrder_walk (A : Option Addr) (N c : Nat) (kys : List PV) (OA : Option Addr) (on oc : Nat) (o : List UInt8) (w : World) (G : Hid (Gl w)) (h : Hid (Pr w A N c kys)) (ho : Hid (Rd w 1 OA on oc (bv o))) :
    Calls Tryd.prog 7 #[.slice A N c, .slice OA on oc] w fun e w' => e = .returned (.bool true) ∧ Below w.heap.size w w' := by
  have NL := Lib.hid h.out.len
  have ON : Hid (lenB on 0 = true ↔ lenK o) := Lib.hid (lenB_key (by have := ho.out.len; rw [bv_len] at this; omega))
  obtain ⟨p3, hp3⟩ : ∃ p3, w.heap.size = p3 := ⟨_, rfl⟩
  obtain ⟨W0, hW0⟩ : ∃ W0, w.alloc (.cells #[.slice OA on oc] 22) = W0 := ⟨_, rfl⟩
  have b0 : Below w.heap.size w W0 := hW0 ▸ bal _ _
  have X3 : Hid (Bx W0 p3 [.slice OA on oc]) := hW0 ▸ Lib.hid (Bx.put _ hp3 #[.slice OA on oc] 22)
  have TX3 : Hid (Ty W0 p3 22) := hW0 ▸ hp3 ▸ Lib.hid (Ty.new _ _ _)
  have HW0 := Lib.hid hW0
  clear hW0
  go_enter Tryd.func7, Tryd.ntmps7
  go_upto_region 1 with fail
  rw [HW0.out]
  go_wp2_with fail
  go_at_call 11
  refine (awake_any W0 (Lib.hid (G.out.below b0))).mono ?_
  rintro e w2 ⟨rfl, b1⟩
  have bw2 := b0.trans (b1.mono b0.size)
  have X3 := Lib.hid (X3.out.nx b1)
  have z0 := X3.out.at_ 0 (by simp)
  simp only [List.getElem?_cons_zero] at z0
  by_cases q1 : 30 < N
  · have e1 : decide ((N : Int) > 30) = true := decide_eq_true (by omega)
    go_wp2_with fail
    go_at_call 11
    refine (awake_any w2 (Lib.hid (G.out.below bw2))).mono ?_
    rintro e w3 ⟨rfl, b3⟩
    go_wp2_with fail
    go_ret
    exact ⟨rfl, bw2.trans (b3.mono bw2.size)⟩
  have e1 : decide ((N : Int) > 30) = false := decide_eq_false (by omega)
  have n30 : N ≤ 30 := by omega
  clear q1
  go_wp2_with fail
  go_at_call 14
  refine (ord1s_any PV.v (fun x => !lenB x.d.length 0) w2 (Lib.hid (h.out.row.below bw2)) (Lib.hid fun U _ x _ => ord1_any U)).mono ?_
  rintro e w3 ⟨rfl, b3⟩
  have bw3 := bw2.trans (b3.mono bw2.size)
  have X3 := Lib.hid (X3.out.nx b3)
  obtain ⟨q, hq⟩ : ∃ q, (kys.any fun x => !lenB x.d.length 0) = q := ⟨_, rfl⟩
  rw [hq]
  have HQ := Lib.hid hq
  clear z0 hq
  obtain ⟨w2, rfl⟩ : ∃ u, u = w3 := ⟨_, rfl⟩
  have bw2 := bw3
  rcases q with _ | _
  case true =>
    go_wp2_with fail
    go_at_call 11
    refine (awake_any w2 (Lib.hid (G.out.below bw2))).mono ?_
    rintro e w3 ⟨rfl, b3⟩
    go_wp2_with fail
    go_ret
    exact ⟨rfl, bw2.trans (b3.mono bw2.size)⟩
  have ALL : Hid (∀ x ∈ kys, lenK x.d) := Lib.hid fun x hx => by
    have := List.any_eq_false.1 HQ.out x hx
    exact (lenB_key rfl).1 (by simpa using this)
  have z0 := X3.out.at_ 0 (by simp)
  simp only [List.getElem?_cons_zero] at z0
  go_wp2_with fail
  go_at_call 24
  refine (rLengths_any _).mono ?_
  rintro e w' ⟨rfl, rfl⟩
  by_cases q2 : lenB on 0 = true
  case neg =>
    rw [show lenB on 0 = false by simpa using q2]
    clear q2 e1
    go_wp2_with fail
    go_at_call 11
    refine (awake_any w2 (Lib.hid (G.out.below bw2))).mono ?_
    rintro e w3 ⟨rfl, b3⟩
    go_wp2_with fail
    go_ret
    exact ⟨rfl, bw2.trans (b3.mono bw2.size)⟩
  rw [q2]
  have OK := Lib.hid (ON.out.1 q2)
  clear q2 z0
  go_wp2_with fail
  go_at_call 26
  refine (New_any w2).mono ?_
  rintro e wa ⟨rfl, ba⟩
  go_wp2_with fail
  go_at_call 26
  refine (New_any wa).mono ?_
  rintro e wb ⟨rfl, bb⟩
  have bwb := bw2.trans ((ba.trans (bb.mono ba.size)).mono bw2.size)
  have X3 := Lib.hid ((X3.out.nx ba).nx bb)
  have h3b := X3.out.lt
  obtain ⟨p5, hp5⟩ : ∃ p5, wb.heap.size = p5 := ⟨_, rfl⟩
  obtain ⟨W5, hW5⟩ : ∃ W5, wb.alloc (.cells #[.slice none 0 0, .int .i64 (-1), .slice none 0 0] 30) = W5 := ⟨_, rfl⟩
  have b5 : Below wb.heap.size wb W5 := hW5 ▸ bal _ _
  have X5 : Hid (Bx W5 p5 [.slice none 0 0, .int .i64 (-1), .slice none 0 0]) := hW5 ▸ Lib.hid (Bx.put _ hp5 #[.slice none 0 0, .int .i64 (-1), .slice none 0 0] 30)
  have TX5 : Hid (Ty W5 p5 30) := hW5 ▸ hp5 ▸ Lib.hid (Ty.new _ _ _)
  have HW5 := Lib.hid hW5
  clear hW5
  obtain ⟨p6, hp6⟩ : ∃ p6, W5.heap.size = p6 := ⟨_, rfl⟩
  obtain ⟨W6, hW6⟩ : ∃ W6, W5.alloc (.cells #[.slice none 0 0, .int .i64 (-1), .slice none 0 0] 30) = W6 := ⟨_, rfl⟩
  have b6 : Below W5.heap.size W5 W6 := hW6 ▸ bal _ _
  have X6 : Hid (Bx W6 p6 [.slice none 0 0, .int .i64 (-1), .slice none 0 0]) := hW6 ▸ Lib.hid (Bx.put _ hp6 #[.slice none 0 0, .int .i64 (-1), .slice none 0 0] 30)
  have TX6 : Hid (Ty W6 p6 30) := hW6 ▸ hp6 ▸ Lib.hid (Ty.new _ _ _)
  have HW6 := Lib.hid hW6
  clear hW6
  have e6 : p6 = p5 + 1 := by rw [← hp6, ← HW5.out, ← hp5]; simp
  subst e6
  have b56 := b5.trans (b6.mono b5.size)
  have bw6 := bwb.trans (b56.mono bwb.size)
  have X3 := Lib.hid (X3.out.nx b56)
  have SF := Lib.hid (sb_new (X5.out.nx b6) (TX5.out.nx b6))
  have SG := Lib.hid (sb_new X6.out TX6.out)
  have h3 : p3 < p5 := by omega
  have hp5w : w.heap.size ≤ p5 := by have := bwb.size; omega
  have hNc := h.out.row.nc
  have hNc2 := h.out.row.c63
  go_upto_region 4 with fail
  rw [HW5.out, HW6.out]
  go_wp2_with fail
  have S0 : ∀ x, x ∈ ([] : List (List UInt8)) ↔ x ∈ ([] : List (List UInt8)) := fun _ => Iff.rfl
  go_loopw [38] (fun zv wr => ∃ (j : Nat) (f : FV) (PA FA : Option Addr) (n pc m fc : Nat) (r : Int) (g : FV) (QA GA : Option Addr) (n' pc' m' fc' : Nat) (r' : Int) (es fs : List It), j ≤ N ∧ zv = .int .i64 j ∧ Hid (Sb wr p5 f PA FA n pc m fc r) ∧ Hid (Sb wr (p5 + 1) g QA GA n' pc' m' fc' r') ∧ Hid (Os f.f es ((kys.take j).map PV.d).reverse j) ∧ Hid (Os g.f fs ((kys.drop (N - j)).map PV.d) j) ∧ Hid (Bx wr p3 [.slice OA on oc]) ∧ Below w.heap.size w wr) (fun zv _ => (N - intOf zv).toNat)
  case atStart => exact ⟨0, newV, none, none, 0, 0, 0, 0, -1, newV, none, none, 0, 0, 0, 0, -1, [], [], by omega, rfl, SF, SG, Lib.hid ⟨sok_new, slf_nil⟩, Lib.hid ⟨sok_new, by rw [List.drop_of_length_le (by have := NL.out; omega)]; exact slf_nil⟩, X3, bw6⟩
  case round =>
    obtain ⟨j, f, PA, FA, n, pc, m, fc, r, g, QA, GA, n', pc', m', fc', r', es, fs, hj, rfl, SF, SG, OF, OG, X3, bw⟩ := hrel
    by_cases hlt : j < N
    · have d1 : decide ((j : Int) < (N : Int)) = true := decide_eq_true (by omega)
      obtain ⟨I, hI⟩ : ∃ I, N - 1 - j = I := ⟨_, rfl⟩
      have hIN : I < N := by omega
      have w1' : IntKind.i64.wrap ((N : Int) - 1) = (N : Int) - 1 := IntWalk.i64_in _ (by omega)
      have w2' : IntKind.i64.wrap ((N : Int) - 1 - (j : Int)) = (I : Int) := by rw [IntWalk.i64_in _ (by omega)]; omega
      have i0 : (0 : Int) ≤ (I : Int) := by omega
      have i1 : (I : Int) < (N : Int) := by omega
      obtain ⟨gK, oK, x, rfl, hgK, hx, hcx0⟩ := Rd.at1 (val := PV.v) h.out.row hlt
      obtain ⟨gK', oK', y, hK', _, hy, hcy⟩ := Rd.at1 (val := PV.v) h.out.row hIN
      have hcx := (World.cell?_of_block (bw.block gK hgK)).trans hcx0
      clear hcx0
      injection hK' with hK'; injection hK' with e1 e2; subst e1 e2
      have hxl := ALL.out x (List.mem_of_getElem? hx)
      have hyl := ALL.out y (List.mem_of_getElem? hy)
      have XR := (h.out.dat x (List.mem_of_getElem? hx)).below bw
      have YR := h.out.dat y (List.mem_of_getElem? hy)
      have KX : ((kys.take (j + 1)).map PV.d).reverse = x.d :: ((kys.take j).map PV.d).reverse := by
        rw [List.take_add_one, hx]; simp
      have KYY : (kys.drop (N - (j + 1))).map PV.d = y.d :: (kys.drop (N - j)).map PV.d := by
        have e : N - (j + 1) = I := by omega
        have e2 : N - j = I + 1 := by omega
        rw [e, e2, List.drop_eq_getElem_cons (show I < kys.length by have := NL.out; omega)]
        rw [List.getElem?_eq_getElem (show I < kys.length by have := NL.out; omega)] at hy
        injection hy with hy
        rw [hy]; rfl
      unfold PV.v at hcx hcy
      obtain ⟨xA, xc, xd⟩ := x
      obtain ⟨yA, yc, yd⟩ := y
      dsimp only at hcx hcy XR YR hxl hyl KX KYY
      obtain ⟨xn, hxn⟩ : ∃ xn, xd.length = xn := ⟨_, rfl⟩
      obtain ⟨yn, hyn⟩ : ∃ yn, yd.length = yn := ⟨_, rfl⟩
      rw [hxn] at hcx XR
      rw [hyn] at hcy YR
      have XR := Lib.hid XR
      have YR := Lib.hid YR
      have KX := Lib.hid KX
      have KYY := Lib.hid KYY
      have XL := Lib.hid hxl
      have YL := Lib.hid hyl
      have HI := Lib.hid hI
      clear hx hy hxl hyl hxn hyn hI
      have z0 := SF.out.bx.at_ 0 (by simp)
      have z1 := SF.out.bx.at_ 1 (by simp)
      have z2 := SF.out.bx.at_ 2 (by simp)
      simp only [List.getElem?_cons_succ, List.getElem?_cons_zero] at z0 z1 z2
      go_wp2_with fail
      go_at_call 19
      refine (Put_cs SF.out.fv.cs wr (Lib.hid (G.out.below bw)) (Lib.hid SF.out.fl.fl) XR XR).mono ?_
      rintro e w7 ⟨f7, er7, ho7, rfl, F7, b7⟩
      obtain ⟨rfl, es7, os7⟩ := os_put OF.out (by omega) XL.out ho7
      have OF7 : Hid (Os f7.f es7 ((kys.take (j + 1)).map PV.d).reverse (j + 1)) := Lib.hid (by rw [KX.out]; exact os7)
      obtain ⟨PA7, n7, pc7, r7, FA7, m7, fc7, V7⟩ := fv_of f7
      rw [V7.out.val]
      obtain ⟨W8, hW8⟩ : ∃ W8, (((w7.setCell ⟨p5, 0, none⟩ (.slice PA7 n7 pc7)).setCell ⟨p5, 1, none⟩ (.int .i64 r7)).setCell ⟨p5, 2, none⟩ (.slice FA7 m7 fc7)) = W8 := ⟨_, rfl⟩
      have SF8 := Lib.hid (hW8 ▸ (SF.out.nx b7).put F7.out V7.out)
      have SG8 := Lib.hid (hW8 ▸ (SG.out.nx b7).oth (a := .slice PA7 n7 pc7) (b := .int .i64 r7) (c := .slice FA7 m7 fc7) (SF.out.ty.nx b7) (show p5 + 1 ≠ p5 by omega))
      have X38 : Hid (Bx W8 p3 [.slice OA on oc]) := Lib.hid (by rw [← hW8]; exact (X3.out.nx b7).kp (kp_res (Kp.refl _ _)) (show p3 ≠ p5 by omega))
      have bw8 : Below w.heap.size w W8 := hW8 ▸ res_below (bw.trans (b7.mono bw.size)) hp5w
      have pb := SF.out.bx.nx b7
      have p0 := pb.at_ 0 (by simp)
      have p1 := pb.at_ 1 (by simp)
      have p2 := pb.at_ 2 (by simp)
      simp only [List.getElem?_cons_succ, List.getElem?_cons_zero] at p0 p1 p2
      have t0 := pb.fz 0 (by simp)
      have t1 := pb.fz 1 (by simp)
      have t2 := pb.fz 2 (by simp)
      have HW8 := Lib.hid hW8
      have hcy8 : W8.cell? ⟨gK, oK + I, none⟩ = some (.slice yA yn yc) := (World.cell?_of_block (bw8.block gK hgK)).trans hcy
      have YR8 := Lib.hid (YR.out.below bw8)
      clear z0 z1 z2 pb hW8 ho7 os7 hcx hcy
      go_upto_region 9 with fail
      rw [HW8.out]
      clear p0 p1 p2 t0 t1 t2
      have z0 := SG8.out.bx.at_ 0 (by simp)
      have z1 := SG8.out.bx.at_ 1 (by simp)
      have z2 := SG8.out.bx.at_ 2 (by simp)
      simp only [List.getElem?_cons_succ, List.getElem?_cons_zero] at z0 z1 z2
      go_wp2_with fail
      go_at_call 19
      refine (Put_cs SG8.out.fv.cs W8 (Lib.hid (G.out.below bw8)) (Lib.hid SG8.out.fl.fl) YR8 YR8).mono ?_
      rintro e w9 ⟨f9, er9, ho9, rfl, F9, b9⟩
      obtain ⟨rfl, es9, os9⟩ := os_put OG.out (by omega) YL.out ho9
      have OG9 : Hid (Os f9.f es9 ((kys.drop (N - (j + 1))).map PV.d) (j + 1)) := Lib.hid (by rw [KYY.out]; exact os9)
      obtain ⟨PA9, n9, pc9, r9, FA9, m9, fc9, V9⟩ := fv_of f9
      rw [V9.out.val]
      obtain ⟨W10, hW10⟩ : ∃ W10, (((w9.setCell ⟨p5 + 1, 0, none⟩ (.slice PA9 n9 pc9)).setCell ⟨p5 + 1, 1, none⟩ (.int .i64 r9)).setCell ⟨p5 + 1, 2, none⟩ (.slice FA9 m9 fc9)) = W10 := ⟨_, rfl⟩
      have SG10 := Lib.hid (hW10 ▸ (SG8.out.nx b9).put F9.out V9.out)
      have SF10 := Lib.hid (hW10 ▸ (SF8.out.nx b9).oth (a := .slice PA9 n9 pc9) (b := .int .i64 r9) (c := .slice FA9 m9 fc9) (SG8.out.ty.nx b9) (show p5 ≠ p5 + 1 by omega))
      have X310 : Hid (Bx W10 p3 [.slice OA on oc]) := Lib.hid (by rw [← hW10]; exact (X38.out.nx b9).kp (kp_res (Kp.refl _ _)) (show p3 ≠ p5 + 1 by omega))
      have bw10 : Below w.heap.size w W10 := hW10 ▸ res_below (bw8.trans (b9.mono bw8.size)) (show w.heap.size ≤ p5 + 1 by omega)
      have pb := SG8.out.bx.nx b9
      have p0 := pb.at_ 0 (by simp)
      have p1 := pb.at_ 1 (by simp)
      have p2 := pb.at_ 2 (by simp)
      simp only [List.getElem?_cons_succ, List.getElem?_cons_zero] at p0 p1 p2
      have t0 := pb.fz 0 (by simp)
      have t1 := pb.fz 1 (by simp)
      have t2 := pb.fz 2 (by simp)
      have HW10 := Lib.hid hW10
      clear z0 z1 z2 pb hW10 ho9 os9 hcy8
      go_upto_region 13 with fail
      rw [HW10.out]
      clear p0 p1 p2 t0 t1 t2
      go_wp2_with fail
      go_roundw
      case rel => exact ⟨j + 1, f7, PA7, FA7, n7, pc7, m7, fc7, r7, f9, PA9, FA9, n9, pc9, m9, fc9, r9, es7, es9, by omega, by first | trivial | go_num, SF10, SG10, OF7, OG9, X310, bw10⟩
      case measure => simp [intOf]; omega
    · obtain rfl : j = N := by omega
      have d1 : decide ((j : Int) < (j : Int)) = false := decide_eq_false (by omega)
      have z0 := X3.out.at_ 0 (by simp)
      simp only [List.getElem?_cons_zero] at z0
      have OFz : Hid (Os f.f es (kys.map PV.d).reverse j) := Lib.hid (by have := OF.out; rwa [List.take_of_length_le (by have := NL.out; omega)] at this)
      have OGz : Hid (Os g.f fs (kys.map PV.d) j) := Lib.hid (by have := OG.out; rwa [Nat.sub_self, List.drop_zero] at this)
      have CF := ord2s_any (P := ⟨p3, 0, none⟩) PV.v (fun x => eqB x.d o) wr (Lib.hid (h.out.row.below bw)) (Lib.hid fun U hU x hx => ord2_any U (Lib.hid (X3.out.nx hU)) (Lib.hid (((h.out.dat x hx).below bw).nx hU)) (Lib.hid ((ho.out.below bw).nx hU)))
      obtain ⟨bq, hbq⟩ : ∃ bq, (kys.any fun x => eqB x.d o) = bq := ⟨_, rfl⟩
      rw [hbq] at CF
      have CF := Lib.hid CF
      have BQ := Lib.hid hbq
      clear hbq
      go_wp2_with fail
      go_at_call 14
      refine CF.out.mono ?_
      rintro e wk ⟨rfl, bk⟩
      have bwk := bw.trans (bk.mono bw.size)
      have SF := Lib.hid (SF.out.nx bk)
      have SG := Lib.hid (SG.out.nx bk)
      have X3 := Lib.hid (X3.out.nx bk)
      clear CF z0
      rcases bq with _ | _
      · have hno : o ∉ kys.map PV.d := fun hm => by
          obtain ⟨x, hx, e⟩ := List.mem_map.1 hm
          have := List.any_eq_false.1 BQ.out x hx
          rw [e, eqB_self] at this; exact this rfl
        have HNO := Lib.hid hno
        clear hno
        have z0 := SG.out.bx.at_ 0 (by simp)
        have z1 := SG.out.bx.at_ 1 (by simp)
        have z2 := SG.out.bx.at_ 2 (by simp)
        have y0 := X3.out.at_ 0 (by simp)
        simp only [List.getElem?_cons_succ, List.getElem?_cons_zero] at z0 z1 z2 y0
        go_wp2_with fail
        go_at_call 19
        refine (Put_cs (value := []) SG.out.fv.cs wk (Lib.hid (G.out.below bwk)) (Lib.hid SG.out.fl.fl) (Lib.hid (ho.out.below bwk)) (Lib.hid (Rd.nil_ _ _))).mono ?_
        rintro e w7 ⟨f7, er7, ho7, rfl, F7, b7⟩
        have P7 := Lib.hid ho7
        obtain ⟨PA7, n7, pc7, r7, FA7, m7, fc7, V7⟩ := fv_of f7
        rw [V7.out.val]
        have hok := put_sok OGz.out.ok (by omega) ⟨OK.out.1, OK.out.2, by simp⟩ ho7
        obtain rfl : er7 = 0 := hok.1
        clear hok
        obtain ⟨W8, hW8⟩ : ∃ W8, (((w7.setCell ⟨p5 + 1, 0, none⟩ (.slice PA7 n7 pc7)).setCell ⟨p5 + 1, 1, none⟩ (.int .i64 r7)).setCell ⟨p5 + 1, 2, none⟩ (.slice FA7 m7 fc7)) = W8 := ⟨_, rfl⟩
        have SG8 := Lib.hid (hW8 ▸ (SG.out.nx b7).put F7.out V7.out)
        have SF8 := Lib.hid (hW8 ▸ (SF.out.nx b7).oth (a := .slice PA7 n7 pc7) (b := .int .i64 r7) (c := .slice FA7 m7 fc7) (SG.out.ty.nx b7) (show p5 ≠ p5 + 1 by omega))
        have X38 : Hid (Bx W8 p3 [.slice OA on oc]) := Lib.hid (by rw [← hW8]; exact (X3.out.nx b7).kp (kp_res (Kp.refl _ _)) (show p3 ≠ p5 + 1 by omega))
        have bw8 : Below w.heap.size w W8 := hW8 ▸ res_below (bwk.trans (b7.mono bwk.size)) (show w.heap.size ≤ p5 + 1 by omega)
        have pb := SG.out.bx.nx b7
        have p0 := pb.at_ 0 (by simp)
        have p1 := pb.at_ 1 (by simp)
        have p2 := pb.at_ 2 (by simp)
        simp only [List.getElem?_cons_succ, List.getElem?_cons_zero] at p0 p1 p2
        have t0 := pb.fz 0 (by simp)
        have t1 := pb.fz 1 (by simp)
        have t2 := pb.fz 2 (by simp)
        have HW8 := Lib.hid hW8
        clear z0 z1 z2 y0 pb hW8 ho7
        go_upto_region 19 with fail
        rw [HW8.out]
        clear p0 p1 p2 t0 t1 t2
        have z0 := SG8.out.bx.at_ 0 (by simp)
        have z1 := SG8.out.bx.at_ 1 (by simp)
        have z2 := SG8.out.bx.at_ 2 (by simp)
        have y0 := X38.out.at_ 0 (by simp)
        simp only [List.getElem?_cons_succ, List.getElem?_cons_zero] at z0 z1 z2 y0
        go_wp2_with fail
        go_at_call 20
        refine (Delete_cs SG8.out.fv.cs W8 (Lib.hid (G.out.below bw8)) (Lib.hid SG8.out.fl.fl) (Lib.hid (ho.out.below bw8))).mono ?_
        rintro e w9 ⟨f9, er9, ho9, rfl, F9, b9⟩
        obtain ⟨PA9, n9, pc9, r9, FA9, m9, fc9, V9⟩ := fv_of f9
        rw [V9.out.val]
        obtain ⟨_, rfl, es9, os9⟩ := os_oth OGz.out (by omega) OK.out HNO.out P7.out ho9
        have OGe := Lib.hid os9
        obtain ⟨W10, hW10⟩ : ∃ W10, (((w9.setCell ⟨p5 + 1, 0, none⟩ (.slice PA9 n9 pc9)).setCell ⟨p5 + 1, 1, none⟩ (.int .i64 r9)).setCell ⟨p5 + 1, 2, none⟩ (.slice FA9 m9 fc9)) = W10 := ⟨_, rfl⟩
        have SG := Lib.hid (hW10 ▸ (SG8.out.nx b9).put F9.out V9.out)
        have SF := Lib.hid (hW10 ▸ (SF8.out.nx b9).oth (a := .slice PA9 n9 pc9) (b := .int .i64 r9) (c := .slice FA9 m9 fc9) (SG8.out.ty.nx b9) (show p5 ≠ p5 + 1 by omega))
        have bw10 : Below w.heap.size w W10 := hW10 ▸ res_below (bw8.trans (b9.mono bw8.size)) (show w.heap.size ≤ p5 + 1 by omega)
        have pb := SG8.out.bx.nx b9
        have p0 := pb.at_ 0 (by simp)
        have p1 := pb.at_ 1 (by simp)
        have p2 := pb.at_ 2 (by simp)
        simp only [List.getElem?_cons_succ, List.getElem?_cons_zero] at p0 p1 p2
        have t0 := pb.fz 0 (by simp)
        have t1 := pb.fz 1 (by simp)
        have t2 := pb.fz 2 (by simp)
        have HW10 := Lib.hid hW10
        clear z0 z1 z2 y0 pb hW10 ho9 os9
        go_upto_region 22 with fail
        rw [HW10.out]
        clear p0 p1 p2 t0 t1 t2
        -- both files are read: SF, SG at world W10, OFz, OGe
        have z0 := SF.out.bx.at_ 0 (by simp)
        have z1 := SF.out.bx.at_ 1 (by simp)
        have z2 := SF.out.bx.at_ 2 (by simp)
        simp only [List.getElem?_cons_succ, List.getElem?_cons_zero] at z0 z1 z2
        go_wp2_with fail
        go_at_call 21
        refine (Range_cs SF.out.fv.cs W10 (Lib.hid (G.out.below bw10)) (Lib.hid SF.out.fl.fl) (Lib.hid (Rd.nil_ _ _)) (Lib.hid (Rd.nil_ _ _)) (ka := []) (kb := [])).mono ?_
        rintro e wr1 ⟨rs1, er1, L1, B1, k1, c1, hr1, hkv1, rfl, HE1, br1⟩
        obtain ⟨rfl, hrs1⟩ := rng_ok OFz.out.ok (by have := OFz.out.ok.n; omega) hr1 (rng_nl _)
        have SG := Lib.hid (SG.out.nx br1)
        have bwr1 := bw10.trans (br1.mono bw10.size)
        have HK1 := Lib.hid (hkv1.trans (by rw [hrs1]))
        clear hr1 hkv1 hrs1 z0 z1 z2
        have z0 := SG.out.bx.at_ 0 (by simp)
        have z1 := SG.out.bx.at_ 1 (by simp)
        have z2 := SG.out.bx.at_ 2 (by simp)
        simp only [List.getElem?_cons_succ, List.getElem?_cons_zero] at z0 z1 z2
        go_wp2_with fail
        go_at_call 21
        refine (Range_cs SG.out.fv.cs wr1 (Lib.hid (G.out.below bwr1)) (Lib.hid SG.out.fl.fl) (Lib.hid (Rd.nil_ _ _)) (Lib.hid (Rd.nil_ _ _)) (ka := []) (kb := [])).mono ?_
        rintro e wr2 ⟨rs2, er2, L2, B2, k2, c2, hr2, hkv2, rfl, HE2, br2⟩
        obtain ⟨rfl, hrs2⟩ := rng_ok OGe.out.ok (by have := OGe.out.ok.n; omega) hr2 (rng_nl _)
        have bwr2 := bwr1.trans (br2.mono bwr1.size)
        have EE := OFz.out.sl.eq OGe.out.sl (fun x => List.mem_reverse)
        have EQ := eqf_order wr2 (Lib.hid (HE1.out.nx br2)) HE2 (Lib.hid (by rw [HK1.out, hkv2, hrs2, EE]))
        have EQ := Lib.hid EQ
        clear hr2 hkv2 hrs2 z0 z1 z2 EE
        go_wp2_with fail
        go_at_call 34
        refine EQ.out.mono ?_
        rintro e wr3 ⟨rfl, br3⟩
        have bwr3 := bwr2.trans (br3.mono bwr2.size)
        go_wp2_with fail
        go_ret
        exact ⟨rfl, bwr3⟩
      · have OGe := OGz
        -- both files are read: SF, SG at world wk, OFz, OGe
        have z0 := SF.out.bx.at_ 0 (by simp)
        have z1 := SF.out.bx.at_ 1 (by simp)
        have z2 := SF.out.bx.at_ 2 (by simp)
        simp only [List.getElem?_cons_succ, List.getElem?_cons_zero] at z0 z1 z2
        go_wp2_with fail
        go_at_call 21
        refine (Range_cs SF.out.fv.cs wk (Lib.hid (G.out.below bwk)) (Lib.hid SF.out.fl.fl) (Lib.hid (Rd.nil_ _ _)) (Lib.hid (Rd.nil_ _ _)) (ka := []) (kb := [])).mono ?_
        rintro e wr1 ⟨rs1, er1, L1, B1, k1, c1, hr1, hkv1, rfl, HE1, br1⟩
        obtain ⟨rfl, hrs1⟩ := rng_ok OFz.out.ok (by have := OFz.out.ok.n; omega) hr1 (rng_nl _)
        have SG := Lib.hid (SG.out.nx br1)
        have bwr1 := bwk.trans (br1.mono bwk.size)
        have HK1 := Lib.hid (hkv1.trans (by rw [hrs1]))
        clear hr1 hkv1 hrs1 z0 z1 z2
        have z0 := SG.out.bx.at_ 0 (by simp)
        have z1 := SG.out.bx.at_ 1 (by simp)
        have z2 := SG.out.bx.at_ 2 (by simp)
        simp only [List.getElem?_cons_succ, List.getElem?_cons_zero] at z0 z1 z2
        go_wp2_with fail
        go_at_call 21
        refine (Range_cs SG.out.fv.cs wr1 (Lib.hid (G.out.below bwr1)) (Lib.hid SG.out.fl.fl) (Lib.hid (Rd.nil_ _ _)) (Lib.hid (Rd.nil_ _ _)) (ka := []) (kb := [])).mono ?_
        rintro e wr2 ⟨rs2, er2, L2, B2, k2, c2, hr2, hkv2, rfl, HE2, br2⟩
        obtain ⟨rfl, hrs2⟩ := rng_ok OGe.out.ok (by have := OGe.out.ok.n; omega) hr2 (rng_nl _)
        have bwr2 := bwr1.trans (br2.mono bwr1.size)
        have EE := OFz.out.sl.eq OGe.out.sl (fun x => List.mem_reverse)
        have EQ := eqf_order wr2 (Lib.hid (HE1.out.nx br2)) HE2 (Lib.hid (by rw [HK1.out, hkv2, hrs2, EE]))
        have EQ := Lib.hid EQ
        clear hr2 hkv2 hrs2 z0 z1 z2 EE
        go_wp2_with fail
        go_at_call 34
        refine EQ.out.mono ?_
        rintro e wr3 ⟨rfl, br3⟩
        have bwr3 := bwr2.trans (br3.mono bwr2.size)
        go_wp2_with fail
        go_ret
        exact ⟨rfl, bwr3⟩
end Go.Proofs.YtphiblmkgbkdmaaDoor.Pg
