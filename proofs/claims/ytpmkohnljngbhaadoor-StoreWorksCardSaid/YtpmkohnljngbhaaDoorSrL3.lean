/- Walks: the law's put, awake. -/
import Derived.Test.YtpmkohnljngbhaaDoorSrL1
import Derived.Test.YtpmkohnljngbhaaDoorSrC2
import Derived.Test.YtpmkohnljngbhaaDoorWalC
import Derived.Lib.SlBytesConst
import Derived.Lib.SmallJoins
namespace Go.Proofs.YtpmkohnljngbhaaDoor.Sr
set_option linter.unusedVariables false
set_option linter.unusedSimpArgs false
set_option maxRecDepth 1000000
open Go.RowKit Wl Pg
section
variable {w w' : World} {f : FV} {b : Ent} {t0 : Int} {Ts : List (List Ch)} {PA FA LA : Option Addr} {np pc m fc ln lc : Nat} {r0 last : Int}
theorem Stt.crash (h : Hid (Stt w f b t0 Ts PA np pc r0 FA m fc LA ln lc last)) (G : Hid (Gl w)) (cut : Int) (k1 : -9223372036854775808 ≤ cut) (k2 : cut ≤ 9223372036854775807) :
    Calls Tryd.prog 28 #[.agg #[.slice PA np pc, .int .i64 r0, .slice FA m fc, .slice LA ln lc, .int .i64 last], .int .i64 cut] w fun e w' => ∃ (LA' : Option Addr) (ln' lc' k : Nat), e = .returned (.tuple #[.agg #[.slice PA np pc, .int .i64 r0, .slice FA m fc, .slice LA' ln' lc', .int .i64 (t0 - 1 + k)], .int .i64 0]) ∧
      Hid (k ≤ Ts.length ∧ (logL t0 (Ts.take k)).length ≤ cutN cut ln ∧ (k < Ts.length → cutN cut ln < (logL t0 (Ts.take (k + 1))).length)) ∧ Hid (Stt w' f b t0 (Ts.take k) PA np pc r0 FA m fc LA' ln' lc' (t0 - 1 + k)) ∧ Below w.heap.size w w' := by
  have ht1 := h.out.t1
  have ht2 := h.out.t2
  have hn := h.out.n
  obtain ⟨k, c1, c2, c3, c4⟩ := crash_log (fun cs hc => (h.out.ok cs hc).1) h.out.t1 (by omega) cut
  have hll : ln = (logL t0 Ts).length := h.out.st.ll
  have H := sCrash_ok cut w G (Lib.hid h.out.st) (Lib.hid h.out.svd) (Lib.hid h.out.tr) k1 k2
  have okk : ∀ cs ∈ Ts.take k, okT cs ∧ cs.length ≤ 12 := fun cs hc => h.out.ok cs (List.mem_of_mem_take hc)
  have lk : (Ts.take k).length = k := by rw [List.length_take]; omega
  have hlast : last - Ts.length + commits (rd (crLog (logL t0 Ts) cut)) = t0 - 1 + k := by
    rw [c2]
    unfold logL
    rw [rd_encs (recL_ok (fun cs hc => (okk cs hc).1) h.out.t1 (by omega)), commits_recL, lk, h.out.la]; omega
  rw [hlast, c2] at H
  refine H.mono ?_
  rintro e w' ⟨LA', ln', lc', he, h1, h2, h3⟩
  have hl2 := logL_len (t := t0) okk
  refine ⟨LA', ln', lc', k, he, Lib.hid ⟨c1, by rw [hll]; exact c3, by rw [hll]; exact c4⟩, Lib.hid ⟨⟨h.out.st.cs, h.out.st.fl.below h3, h1.out, h2.out, by have := h1.out; omega⟩, h.out.e, h.out.t1, h.out.t2, okk, by omega, by rw [lk]⟩, h3⟩
end
theorem lput_any (a s : ByteArray) (w : World) (ha : a.size ≤ 1000000) (hs : s.size ≤ 1000000) : Calls Tryd.prog 29 #[.string a, .string s] w fun e w' =>
    ∃ A c B d, e = .returned (.agg #[.slice A a.size c, .slice B s.size d, .bool false]) ∧ Hid (Rd w' 1 A a.size c (bv a.data.toList)) ∧ Hid (Rd w' 1 B s.size d (bv s.data.toList)) ∧ Below w.heap.size w w' := by
  obtain ⟨p, hp⟩ : ∃ p, w.heap.size = p := ⟨_, rfl⟩
  obtain ⟨W1, hW1⟩ : ∃ W1, w.alloc (.cells #[.slice none 0 0, .slice none 0 0, .bool false] 45) = W1 := ⟨_, rfl⟩
  have v1 : Below w.heap.size w W1 := hW1 ▸ bal _ _
  have Y : Hid (Bx W1 p [.slice none 0 0, .slice none 0 0, .bool false]) := hW1 ▸ Lib.hid (Bx.put _ hp #[.slice none 0 0, .slice none 0 0, .bool false] 45)
  have TY : Hid (Ty W1 p 45) := hW1 ▸ hp ▸ Lib.hid (Ty.new _ _ _)
  have HW1 := Lib.hid hW1
  clear hW1
  obtain ⟨c, W2, hrun, hb, hr⟩ := conv_new W1 a ha
  obtain ⟨d, W3, hrun2, hb2, hr2⟩ := conv_new W2 s hs
  have b13 := hb.trans (hb2.mono hb.size)
  have bw := v1.trans (b13.mono v1.size)
  have yl := Y.out.lt
  have Y := Lib.hid (Y.out.nx b13)
  have s2 := hb.size
  have RA := Lib.hid (hr.below hb2)
  have RB := Lib.hid hr2
  have y0 := Y.out.at_ 0 (by simp)
  have y1 := Y.out.at_ 1 (by simp)
  have y2 := Y.out.at_ 2 (by simp)
  simp only [List.getElem?_cons_succ, List.getElem?_cons_zero] at y0 y1 y2
  have f0 := Y.out.fz 0 (by simp)
  have f1 := Y.out.fz 1 (by simp)
  have f2 := Y.out.fz 2 (by simp)
  obtain ⟨C0, C1, C2⟩ := res3_cells Y.out
  have C0 := Lib.hid C0
  have C1 := Lib.hid C1
  have C2 := Lib.hid C2
  have n1 : blk (some (⟨W1.heap.size, 0, none⟩ : Addr)) ≠ some p := by simp [blk]; omega
  have n2 : blk (some (⟨W2.heap.size, 0, none⟩ : Addr)) ≠ some p := by simp [blk]; omega
  have N1 := Lib.hid n1
  have N2 := Lib.hid n2
  clear n1 n2 hr hr2 hb hb2 s2 yl
  go_enter Tryd.func29, Tryd.ntmps29
  go_upto_region 1 with fail
  rw [HW1.out]
  go_wp2_with fail
  refine bodyPost_ret (v := .agg #[.slice (some ⟨W1.heap.size, 0, none⟩) a.size c, .slice (some ⟨W2.heap.size, 0, none⟩) s.size d, .bool false]) (by simp [results, Tryd.results29, go_sem, C0.out, C1.out, C2.out]) rfl ?_
  exact ⟨_, c, _, d, rfl, Lib.hid (((RA.out.set _ _ fun _ => N1.out).set _ _ fun _ => N1.out).set _ _ fun _ => N1.out), Lib.hid (((RB.out.set _ _ fun _ => N2.out).set _ _ fun _ => N2.out).set _ _ fun _ => N2.out), res3_below bw (by omega)⟩
theorem rd_mark (w : World) (l : List UInt8) (q : Nat) (hq : w.heap.size = q) (hl : l.length ≤ 1000) (fr : Nat × Nat) : Rd (w.alloc (.cells (bv l).toArray 5 fr)) 1 (some ⟨q, 0, none⟩) l.length l.length (bv l) := by
  subst hq
  refine ⟨by simp [bv_len], Nat.le_refl _, (fun h => by cases h), by omega, fun hn => ⟨w.heap.size, 0, rfl, by simp, fun j hj => ?_⟩⟩
  rw [Nat.zero_add, World.cell?_alloc_mark]
  simp
set_option maxHeartbeats 1600000 in
theorem awake_any (w : World) (G : Hid (Gl w)) : Calls Tryd.prog 7 #[] w fun e w' => e = .returned (.bool true) ∧ Below w.heap.size w w' := by
  have kc := fun (w : World) (C : Array Value) (n c : Nat) => Lib.run_convert_bytes_const (P := Tryd.prog) w 23 5 C n c Tryd.underlying23 Tryd.underlying5
  have kd := fun (w : World) (C : Array Value) (n c g : Nat) (hg : g = w.heap.size) => Joins.run_convert_bytes_const_at (P := Tryd.prog) w 23 5 C n c g hg Tryd.underlying23 Tryd.underlying5
  go_enter Tryd.func7, Tryd.ntmps7
  go_wp2_with fail
  go_at_call 29
  refine (lput_any ⟨#[97]⟩ ⟨#[49]⟩ w (by decide) (by decide)).mono ?_
  rintro e w1 ⟨A1, c1, B1, d1, rfl, RA, RB, b1⟩
  go_wp2_with fail
  obtain ⟨q, hq⟩ : ∃ q, w1.heap.size = q := ⟨_, rfl⟩
  rw [hq]
  obtain ⟨V1, hV1⟩ : ∃ u, w1.alloc (.cells #[.slice A1 1 c1, .slice B1 1 d1, .bool false] 45) = u := ⟨_, rfl⟩
  have s1 : V1.heap.size = q + 1 := by rw [← hV1, ← hq]; simp
  have k1 : Below w1.heap.size w1 V1 := hV1 ▸ bal _ _
  have R1 : Rd V1 3 (some ⟨q, 0, none⟩) 1 1 (cvs [(⟨A1, c1, [97], B1, d1, [49], false⟩ : CV)]) := hV1 ▸ rd_lit w1 hq _ 3 #[.slice A1 1 c1, .slice B1 1 d1, .bool false] 1 (by omega) rfl
  rw [hV1]
  obtain ⟨V2, hV2⟩ : ∃ u, V1.alloc (.cells #[.int .u8 97] 5 (1, 2)) = u := ⟨_, rfl⟩
  have s2 : V2.heap.size = q + 1 + 1 := by rw [← hV2, ← s1]; simp
  have k2 : Below V1.heap.size V1 V2 := hV2 ▸ bal _ _
  have R2 : Rd V2 1 (some ⟨q + 1, 0, none⟩) 1 1 (bv [97]) := hV2 ▸ rd_mark V1 [97] (q + 1) s1 (by simp) (1, 2)
  rw [hV2]
  obtain ⟨V3, hV3⟩ : ∃ u, V2.alloc (.cells #[.slice (some ⟨q + 1, 0, none⟩) 1 1, .slice none 0 0, .bool true] 45) = u := ⟨_, rfl⟩
  have s3 : V3.heap.size = q + 1 + 1 + 1 := by rw [← hV3, ← s2]; simp
  have k3 : Below V2.heap.size V2 V3 := hV3 ▸ bal _ _
  have R3 : Rd V3 3 (some ⟨q + 1 + 1, 0, none⟩) 1 1 (cvs [(⟨some ⟨q + 1, 0, none⟩, 1, [97], none, 0, [], true⟩ : CV)]) := hV3 ▸ rd_lit V2 s2 _ 3 #[.slice (some ⟨q + 1, 0, none⟩) 1 1, .slice none 0 0, .bool true] 1 (by omega) rfl
  rw [hV3]
  obtain ⟨V4, hV4⟩ : ∃ u, V3.alloc (.cells #[.slice (some ⟨q, 0, none⟩) 1 1, .slice (some ⟨q + 1 + 1, 0, none⟩) 1 1] 36) = u := ⟨_, rfl⟩
  have k4 : Below V3.heap.size V3 V4 := hV4 ▸ bal _ _
  have R4 : Rd V4 1 (some ⟨q + 1 + 1 + 1, 0, none⟩) 2 2 (xvs [⟨some ⟨q, 0, none⟩, 1, [(⟨A1, c1, [97], B1, d1, [49], false⟩ : CV)]⟩, ⟨some ⟨q + 1 + 1, 0, none⟩, 1, [(⟨some ⟨q + 1, 0, none⟩, 1, [97], none, 0, [], true⟩ : CV)]⟩]) := hV4 ▸ rd_lit V3 s3 _ 1 #[.slice (some ⟨q, 0, none⟩) 1 1, .slice (some ⟨q + 1 + 1, 0, none⟩) 1 1] 2 (by omega) rfl
  rw [hV4]
  have k34 := k3.trans (k4.mono k3.size)
  have k24 := k2.trans (k34.mono k2.size)
  have k14 := k1.trans (k24.mono k1.size)
  have bw := b1.trans (k14.mono b1.size)
  have HX : Hid (Xr V4 (some ⟨q + 1 + 1 + 1, 0, none⟩) 2 2 [⟨some ⟨q, 0, none⟩, 1, [(⟨A1, c1, [97], B1, d1, [49], false⟩ : CV)]⟩, ⟨some ⟨q + 1 + 1, 0, none⟩, 1, [(⟨some ⟨q + 1, 0, none⟩, 1, [97], none, 0, [], true⟩ : CV)]⟩]) := Lib.hid ⟨R4, fun x hx => by
    simp only [List.mem_cons, List.not_mem_nil, or_false] at hx
    rcases hx with rfl | rfl
    · refine ⟨R1.below k24, fun y hy => ?_⟩
      obtain rfl := List.mem_singleton.1 hy
      exact ⟨RA.out.below k14, RB.out.below k14⟩
    · refine ⟨R3.below k4, fun y hy => ?_⟩
      obtain rfl := List.mem_singleton.1 hy
      exact ⟨R2.below k34, Rd.nil_ _ _⟩⟩
  have MD := made_any V4 (Lib.hid (G.out.nx bw)) HX (by omega) (Lib.hid fun x hx => by
    simp only [List.mem_cons, List.not_mem_nil, or_false] at hx
    rcases hx with rfl | rfl
    · refine ⟨by simp, fun y hy => ?_⟩
      obtain rfl := List.mem_singleton.1 hy
      rfl
    · refine ⟨by simp, fun y hy => ?_⟩
      obtain rfl := List.mem_singleton.1 hy
      rfl)
  have hT : effs (fun _ => none) ([⟨some ⟨q, 0, none⟩, 1, [(⟨A1, c1, [97], B1, d1, [49], false⟩ : CV)]⟩, ⟨some ⟨q + 1 + 1, 0, none⟩, 1, [(⟨some ⟨q + 1, 0, none⟩, 1, [97], none, 0, [], true⟩ : CV)]⟩].map XV.t) = [[⟨[97], [49], false⟩], [⟨[97], [], true⟩]] := rfl
  rw [hT] at MD
  have MD := Lib.hid MD
  clear hV1 hV2 hV3 hV4 R1 R2 R3 R4 k1 k2 k3 k4 k34 k24 k14 s1 s2 s3 hT HX
  go_at_call 9
  refine MD.out.mono ?_
  rintro e w5 ⟨LA, ln, lc, rfl, S5, b5⟩
  have hln : ln = 88 := by rw [S5.out.st.ll]; decide +kernel
  subst hln
  dsimp only [List.length_cons, List.length_nil, Nat.reduceAdd] at S5 ⊢
  have e2 : ((2 : Nat) : Int) = 2 := rfl
  rw [e2] at S5 ⊢
  have bw := bw.trans (b5.mono bw.size)
  obtain ⟨q1, hq1⟩ : ∃ q1, w5.heap.size = q1 := ⟨_, rfl⟩
  obtain ⟨W6, hW6⟩ : ∃ W6, w5.alloc (.cells #[.slice none 0 0, .int .i64 (-1), .slice none 0 0, .slice LA 88 lc, .int .i64 2] 31) = W6 := ⟨_, rfl⟩
  have b6 : Below w5.heap.size w5 W6 := hW6 ▸ bal _ _
  have Z : Hid (Bx W6 q1 [.slice none 0 0, .int .i64 (-1), .slice none 0 0, .slice LA 88 lc, .int .i64 2]) := hW6 ▸ Lib.hid (Bx.put _ hq1 #[.slice none 0 0, .int .i64 (-1), .slice none 0 0, .slice LA 88 lc, .int .i64 2] 31)
  have TZ : Hid (Ty W6 q1 31) := hW6 ▸ hq1 ▸ Lib.hid (Ty.new _ _ _)
  have HW6 := Lib.hid hW6
  clear hW6
  have bw := bw.trans (b6.mono bw.size)
  have S6 := Lib.hid (S5.out.nx b6)
  have z0 := Z.out.at_ 0 (by simp)
  have z1 := Z.out.at_ 1 (by simp)
  have z2 := Z.out.at_ 2 (by simp)
  have z3 := Z.out.at_ 3 (by simp)
  have z4 := Z.out.at_ 4 (by simp)
  simp only [List.getElem?_cons_succ, List.getElem?_cons_zero] at z0 z1 z2 z3 z4
  clear MD hq kc
  go_upto_region 2 with fail
  rw [HW6.out]
  have CR := Lib.hid (Stt.crash S6 (Lib.hid (G.out.nx bw)) 87 (by omega) (by omega))
  go_wp2_with fail
  go_at_call 28
  refine CR.out.mono ?_
  rintro e w7 ⟨LA7, ln7, lc7, k, rfl, kp, S7, b7⟩
  obtain rfl : k = 1 := by
    obtain ⟨h1, h2, h3⟩ := kp.out
    have c87 : Wl.cutN 87 88 = 87 := rfl
    rw [c87] at h2 h3
    rcases k with _ | _ | _ | k
    · have := h3 (by simp)
      have l1 : (logL 1 (List.take (0 + 1) [[(⟨[97], [49], false⟩ : Ch)], [⟨[97], [], true⟩]])).length = 45 := by decide +kernel
      omega
    · rfl
    · have l1 : (logL 1 (List.take (0 + 1 + 1) [[(⟨[97], [49], false⟩ : Ch)], [⟨[97], [], true⟩]])).length = 88 := by decide +kernel
      omega
    · simp at h1
  have e7 : (1 : Int) - 1 + ((1 : Nat) : Int) = 1 := by decide
  rw [e7] at S7 ⊢
  clear CR kp z0 z1 z2 z3 z4
  replace bw := bw.trans (b7.mono bw.size)
  replace Z := Lib.hid (Z.out.nx b7)
  replace S6 := Lib.hid (S6.out.nx b7)
  obtain ⟨q3, hq3⟩ : ∃ q3, w7.heap.size = q3 := ⟨_, rfl⟩
  obtain ⟨W8, hW8⟩ : ∃ W8, w7.alloc (.cells #[.slice none 0 0, .int .i64 (-1), .slice none 0 0, .slice LA7 ln7 lc7, .int .i64 1] 31) = W8 := ⟨_, rfl⟩
  have b8 : Below w7.heap.size w7 W8 := hW8 ▸ bal _ _
  have U : Hid (Bx W8 q3 [.slice none 0 0, .int .i64 (-1), .slice none 0 0, .slice LA7 ln7 lc7, .int .i64 1]) := hW8 ▸ Lib.hid (Bx.put _ hq3 #[.slice none 0 0, .int .i64 (-1), .slice none 0 0, .slice LA7 ln7 lc7, .int .i64 1] 31)
  have TU : Hid (Ty W8 q3 31) := hW8 ▸ hq3 ▸ Lib.hid (Ty.new _ _ _)
  have HW8 := Lib.hid hW8
  clear hW8
  replace bw := bw.trans (b8.mono bw.size)
  replace Z := Lib.hid (Z.out.nx b8)
  replace S6 := Lib.hid (S6.out.nx b8)
  replace S7 := Lib.hid (S7.out.nx b8)
  have u0 := U.out.at_ 0 (by simp)
  have u1 := U.out.at_ 1 (by simp)
  have u2 := U.out.at_ 2 (by simp)
  have u3 := U.out.at_ 3 (by simp)
  have u4 := U.out.at_ 4 (by simp)
  simp only [List.getElem?_cons_succ, List.getElem?_cons_zero] at u0 u1 u2 u3 u4
  go_upto_region 5 with fail
  rw [HW8.out]
  go_wp2_with fail
  obtain ⟨W9, hW9⟩ : ∃ u, W8.alloc (.cells #[.int .u8 97] 5 (1, 2)) = u := ⟨_, rfl⟩
  have b9 : Below W8.heap.size W8 W9 := hW9 ▸ bal _ _
  have K9 : Hid (Rd W9 1 (some ⟨W8.heap.size, 0, none⟩) 1 1 (bv [97])) := hW9 ▸ Lib.hid (rd_mark W8 [97] _ rfl (by simp) (1, 2))
  rw [hW9]
  clear hW9 u0 u1 u2 u3 u4
  replace bw := bw.trans (b9.mono bw.size)
  replace Z := Lib.hid (Z.out.nx b9)
  replace S6 := Lib.hid (S6.out.nx b9)
  replace S7 := Lib.hid (S7.out.nx b9)
  replace U := Lib.hid (U.out.nx b9)
  have RD := Stt.read S7 (Lib.hid (G.out.nx bw)) K9
  have hv : app (fun _ => none) (List.take 1 [[(⟨[97], [49], false⟩ : Ch)], [⟨[97], [], true⟩]]).flatten [97] = some [49] := rfl
  rw [hv] at RD
  have RD := Lib.hid RD
  clear hv
  go_at_call 13
  refine RD.out.mono ?_
  rintro e w10 hpost
  rcases hpost with ⟨hno, _⟩ | ⟨_, A10, n10, c10, er, rfl, res, b10⟩
  · exact absurd (show lenK [97] from ⟨by simp, by simp⟩) hno
  rcases res with ⟨_, h, _⟩ | ⟨rfl, d, hd, HN, R10⟩
  · cases h
  obtain rfl : [49] = d := by injection hd
  obtain rfl : n10 = 1 := HN.out
  clear RD hd
  replace bw := bw.trans (b10.mono bw.size)
  replace Z := Lib.hid (Z.out.nx b10)
  replace S6 := Lib.hid (S6.out.nx b10)
  replace U := Lib.hid (U.out.nx b10)
  have z0 := Z.out.at_ 0 (by simp)
  have z1 := Z.out.at_ 1 (by simp)
  have z2 := Z.out.at_ 2 (by simp)
  have z3 := Z.out.at_ 3 (by simp)
  have z4 := Z.out.at_ 4 (by simp)
  simp only [List.getElem?_cons_succ, List.getElem?_cons_zero] at z0 z1 z2 z3 z4
  go_wp2_with fail
  obtain ⟨W11, hW11⟩ : ∃ u, w10.alloc (.cells #[.int .u8 97] 5 (1, 2)) = u := ⟨_, rfl⟩
  have b11 : Below w10.heap.size w10 W11 := hW11 ▸ bal _ _
  have K11 : Hid (Rd W11 1 (some ⟨w10.heap.size, 0, none⟩) 1 1 (bv [97])) := hW11 ▸ Lib.hid (rd_mark w10 [97] _ rfl (by simp) (1, 2))
  rw [hW11]
  clear hW11 z0 z1 z2 z3 z4
  replace bw := bw.trans (b11.mono bw.size)
  replace S6 := Lib.hid (S6.out.nx b11)
  replace U := Lib.hid (U.out.nx b11)
  replace R10 := Lib.hid (R10.out.nx b11)
  have RD := Stt.read S6 (Lib.hid (G.out.nx bw)) K11
  have hv : app (fun _ => none) ([[(⟨[97], [49], false⟩ : Ch)], [⟨[97], [], true⟩]]).flatten [97] = none := rfl
  rw [hv] at RD
  have RD := Lib.hid RD
  clear hv kd
  go_at_call 13
  refine RD.out.mono ?_
  rintro e w12 hpost
  rcases hpost with ⟨hno, _⟩ | ⟨_, A12, n12, c12, er, rfl, res, b12⟩
  · exact absurd (show lenK [97] from ⟨by simp, by simp⟩) hno
  rcases res with ⟨rfl, _, rfl⟩ | ⟨_, d, hd, _⟩
  · clear RD
    replace bw := bw.trans (b12.mono bw.size)
    replace U := Lib.hid (U.out.nx b12)
    replace R10 := Lib.hid (R10.out.nx b12)
    have u0 := U.out.at_ 0 (by simp)
    have u1 := U.out.at_ 1 (by simp)
    have u2 := U.out.at_ 2 (by simp)
    have u3 := U.out.at_ 3 (by simp)
    have u4 := U.out.at_ 4 (by simp)
    simp only [List.getElem?_cons_succ, List.getElem?_cons_zero] at u0 u1 u2 u3 u4
    have cv : (convert 23 9 (.slice A10 1 c10)).run Tryd.prog w12 = .ok (.string ⟨#[49]⟩) w12 := Pg.conv_any R10.out
    go_wp2_with fail
    go_ret
    exact ⟨rfl, bw⟩
  · cases hd
end Go.Proofs.YtpmkohnljngbhaaDoor.Sr
