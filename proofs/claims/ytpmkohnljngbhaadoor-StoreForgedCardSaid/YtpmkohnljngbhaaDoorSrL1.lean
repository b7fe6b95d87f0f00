/- Stores that were made by transactions. -/
import Derived.Test.YtpmkohnljngbhaaDoorSrW11
import Derived.Test.YtpmkohnljngbhaaDoorSrC1
import Derived.Test.YtpmkohnljngbhaaDoorSrCf
set_option linter.all false
namespace Go.Proofs.YtpmkohnljngbhaaDoor.Sr
set_option linter.unusedVariables false
set_option linter.unusedSimpArgs false
set_option maxRecDepth 1000000
open Go.RowKit Wl Pg

/-- A store whose log is that of some transactions, behind a file with entries b. -/
structure Stt (w : World) (f : FV) (b : Ent) (t0 : Int) (Ts : List (List Ch)) (PA : Option Addr) (np pc : Nat) (r0 : Int) (FA : Option Addr) (m fc : Nat) (LA : Option Addr) (ln lc : Nat) (last : Int) : Prop where
  st : Sto w f (logL t0 Ts) PA np pc r0 FA m fc LA ln lc
  e : Fent f.f b
  t1 : 1 ≤ t0
  t2 : t0 ≤ 1000
  ok : ∀ cs ∈ Ts, okT cs ∧ cs.length ≤ 12
  n : Ts.length ≤ 20
  la : last = t0 - 1 + Ts.length
theorem encs_len_le (k : Nat) : ∀ l : List Rec, (∀ r ∈ l, r.d.length ≤ k) → (encs l).length ≤ l.length * (21 + k)
  | [], _ => by simp [encs]
  | r :: l, h => by
    have h1 := encs_len_le k l fun x hx => h x (by simp [hx])
    have h2 := h r (by simp)
    rw [encs_cons, List.length_append, Wl.enc_len, List.length_cons, Nat.add_mul]
    omega
theorem recT_len {t : Int} {cs : List Ch} (h : okT cs) : (encs (recT t cs)).length ≤ (cs.length + 1) * 182 := by
  have := encs_len_le 161 (recT t cs) fun r hr => by
    rcases List.mem_append.1 hr with hr | hr
    · obtain ⟨c, hc, rfl⟩ := List.mem_map.1 hr
      exact recC_len (h c hc)
    · obtain rfl := List.mem_singleton.1 hr
      simp
  simpa [recT] using this
theorem logL_len {t : Int} {Ts : List (List Ch)} : (∀ cs ∈ Ts, okT cs ∧ cs.length ≤ 12) → (logL t Ts).length ≤ Ts.length * 2366 := by
  refine snoc_ind (P := fun Ts => (∀ cs ∈ Ts, okT cs ∧ cs.length ≤ 12) → (logL t Ts).length ≤ Ts.length * 2366) ?_ ?_ Ts
  · intro _; simp [logL, recL, encs]
  · intro L cs ih h
    have h1 := ih fun x hx => h x (by simp [hx])
    have h2 := h cs (by simp)
    have h3 := recT_len (t := t + L.length) h2.1
    rw [logL_snoc, List.length_append, List.length_append, List.length_singleton]
    omega
section
variable {w w' : World} {f : FV} {b : Ent} {t0 : Int} {Ts : List (List Ch)} {PA FA LA A K : Option Addr} {np pc m fc ln lc n c kn kc : Nat} {r0 last : Int} {l : List CV} {key : List UInt8}
theorem Stt.nx (h : Stt w f b t0 Ts PA np pc r0 FA m fc LA ln lc last) (k : Below w.heap.size w w') : Stt w' f b t0 Ts PA np pc r0 FA m fc LA ln lc last := ⟨h.st.nx k, h.e, h.t1, h.t2, h.ok, h.n, h.la⟩
theorem Stt.move (h : Stt w f b t0 Ts PA np pc r0 FA m fc LA ln lc last) (hf : Fl w' f) (hl : Rd w' 1 LA ln lc (bv (logL t0 Ts))) : Stt w' f b t0 Ts PA np pc r0 FA m fc LA ln lc last := ⟨⟨h.st.cs, hf, h.st.ll, hl, h.st.l2⟩, h.e, h.t1, h.t2, h.ok, h.n, h.la⟩
theorem Stt.tr (h : Stt w f b t0 Ts PA np pc r0 FA m fc LA ln lc last) : trx (logL t0 Ts) last = some Ts := by
  have h1 := h.t1
  have h2 := h.t2
  have h3 := h.n
  rw [h.la]; exact trx_log (fun cs hc => (h.ok cs hc).1) h.t1 (by omega)
theorem Stt.l0 (h : Stt w f b t0 Ts PA np pc r0 FA m fc LA ln lc last) : 0 ≤ last ∧ last ≤ 1019 := by
  have h1 := h.t1
  have h2 := h.t2
  have h3 := h.n
  have h4 := h.la
  omega
theorem Stt.svd (h : Stt w f b t0 Ts PA np pc r0 FA m fc LA ln lc last) : Svd f (logL t0 Ts) last := ⟨h.l0.1, by have := h.l0.2; omega, h.e.vld, _, h.tr⟩
theorem Stt.read (h : Hid (Stt w f b t0 Ts PA np pc r0 FA m fc LA ln lc last)) (G : Hid (Gl w)) (hk : Hid (Rd w 1 K kn kc (bv key))) :
    Calls Tryd.prog 13 #[.agg #[.slice PA np pc, .int .i64 r0, .slice FA m fc, .slice LA ln lc, .int .i64 last], .slice K kn kc] w (RdPost w key (app b Ts.flatten key)) :=
  sRead_any w G (Lib.hid h.out.st) (Lib.hid h.out.e) h.out.l0.1 (by have := h.out.l0.2; omega) (Lib.hid h.out.tr) hk
theorem Stt.begin_ (h : Hid (Stt w f b t0 Ts PA np pc r0 FA m fc LA ln lc last)) (G : Hid (Gl w)) :
    Calls Tryd.prog 17 #[.agg #[.slice PA np pc, .int .i64 r0, .slice FA m fc, .slice LA ln lc, .int .i64 last]] w fun e w' => e = .returned (.tuple #[.agg #[.slice PA np pc, .int .i64 r0, .slice FA m fc, .slice LA ln lc, .int .i64 last, .slice none 0 0], .int .i64 0]) ∧ Below w.heap.size w w' :=
  (sBegin_any w G (Lib.hid h.out.st)).mono fun e w' ⟨h1, h2⟩ => by
    rcases h1 with ⟨_, h1⟩ | ⟨h1, _⟩
    · exact ⟨h1, h2⟩
    · exact absurd h.out.svd h1
theorem Stt.wvd (h : Stt w f b t0 Ts PA np pc r0 FA m fc LA ln lc last) (hl : l.length ≤ 100) (ho : ∀ x ∈ l, x.ch.ok = true) : Wvd f (logL t0 Ts) last l := ⟨hl, h.svd, ho⟩
theorem Stt.valid (h : Hid (Stt w f b t0 Ts PA np pc r0 FA m fc LA ln lc last)) (G : Hid (Gl w)) :
    Calls Tryd.prog 10 #[.agg #[.slice PA np pc, .int .i64 r0, .slice FA m fc, .slice LA ln lc, .int .i64 last]] w fun e w' => e = .returned (.bool true) ∧ Below w.heap.size w w' :=
  (sValid_any w G (Lib.hid h.out.st)).mono fun e w' ⟨b, h1, h2, h3⟩ => ⟨by rw [h1, h2.2 h.out.svd], h3⟩
theorem Stt.commit (h : Hid (Stt w f b t0 Ts PA np pc r0 FA m fc LA ln lc last)) (G : Hid (Gl w)) (C : Hid (Cr w A n c l)) (hn : n ≤ 12) (ho : Hid (∀ x ∈ l, x.ch.ok = true)) (hT : Ts.length < 20) :
    Calls Tryd.prog 22 #[.agg #[.slice PA np pc, .int .i64 r0, .slice FA m fc, .slice LA ln lc, .int .i64 last, .slice A n c]] w fun e w' => ∃ (LA' : Option Addr) (ln' lc' : Nat), e = .returned (.tuple #[.agg #[.slice PA np pc, .int .i64 r0, .slice FA m fc, .slice LA' ln' lc', .int .i64 (last + 1)], .int .i64 0]) ∧
      Hid (Stt w' f b t0 (Ts ++ [l.map CV.ch]) PA np pc r0 FA m fc LA' ln' lc' (last + 1)) ∧ Hid (w'.ownsRow w.heap.size 5 1 (.slice LA' ln' lc') ln' (bv (logL t0 (Ts ++ [l.map CV.ch])))) ∧ Below w.heap.size w w' := by
  have NL := C.out.len
  have okC : okT (l.map CV.ch) := fun c hc => by obtain ⟨x, hx, rfl⟩ := List.mem_map.1 hc; exact ho.out x hx
  have hcm : cmLog (logL t0 Ts) last l = logL t0 (Ts ++ [l.map CV.ch]) := by
    unfold cmLog
    rw [logL_snoc, h.out.la]
    congr 3; omega
  have okA : ∀ cs ∈ Ts ++ [l.map CV.ch], okT cs ∧ cs.length ≤ 12 := fun cs hc => by
    rcases List.mem_append.1 hc with hc | hc
    · exact h.out.ok cs hc
    · obtain rfl := List.mem_singleton.1 hc
      exact ⟨okC, by rw [List.length_map]; omega⟩
  have hll := logL_len (t := t0) okA
  have h4 : (Ts ++ [l.map CV.ch]).length ≤ 20 := by rw [List.length_append, List.length_singleton]; omega
  have V := Lib.hid (h.out.wvd (l := l) (by omega) ho.out)
  have H := sCommit_ok w G (Lib.hid h.out.st) C V (by have := h.out.l0.2; omega) (Lib.hid (by rw [hcm]; omega))
  refine H.mono ?_
  rintro e w' ⟨LA', ln', lc', he, h1, h2, h3⟩
  rw [hcm] at h1 h2
  refine ⟨LA', ln', lc', he, Lib.hid ⟨⟨h.out.st.cs, h.out.st.fl.below h3, h1.out, Rd.of_own h2.out, by have := h1.out; omega⟩, h.out.e, h.out.t1, h.out.t2, okA, h4, ?_⟩, h2, h3⟩
  rw [h.out.la, List.length_append, List.length_singleton]; omega
end
end Go.Proofs.YtpmkohnljngbhaaDoor.Sr
/- Walks: the law's more, made. -/
namespace Go.Proofs.YtpmkohnljngbhaaDoor.Sr
set_option maxRecDepth 1000000
open Go.RowKit Wl Pg

def MmPost (w : World) (f : FV) (b : Ent) (t0 : Int) (Ts : List (List Ch)) (PA : Option Addr) (np pc : Nat) (r0 : Int) (FA : Option Addr) (m fc : Nat) (last : Int) (LO : Option Addr) (lo : Nat) (e : Ending) (w' : World) : Prop :=
  ∃ (LA : Option Addr) (ln lc : Nat), e = .returned (.tuple #[.agg #[.slice PA np pc, .int .i64 r0, .slice FA m fc, .slice LA ln lc, .int .i64 last], .bool true]) ∧ Hid (Stt w' f b t0 Ts PA np pc r0 FA m fc LA ln lc last) ∧ Hid ((LA = LO ∧ ln = lo) ∨ ∀ g, blk LA = some g → w.heap.size ≤ g) ∧ Below w.heap.size w w'
theorem effs_take {b : Ent} {X : List XV} {j : Nat} {x : XV} (h : X[j]? = some x) : effs b ((X.take (j + 1)).map XV.t) = effs b ((X.take j).map XV.t) ++ [eff (app b ((X.take j).map XV.t).flatten) x.t] := by
  rw [List.take_add_one, h]
  simp only [Option.toList_some, List.map_append, List.map_cons, List.map_nil]
  rw [effs_snoc]
theorem eff_take {b : Ent} {l : List CV} {j : Nat} {x : CV} (h : l[j]? = some x) : eff b ((l.take (j + 1)).map CV.ch) = estp b (eff b ((l.take j).map CV.ch)) x.ch := by
  rw [List.take_add_one, h]
  simp only [Option.toList_some, List.map_append, List.map_cons, List.map_nil]
  rw [eff_snoc]
theorem eff_ok {b : Ent} {l : List CV} {j : Nat} (h : ∀ y ∈ l, y.ch.ok = true) : ∀ c ∈ eff b ((l.take j).map CV.ch), c.ok = true := fun c hc => by
  have := eff_mem b _ c hc
  obtain ⟨x, hx, rfl⟩ := List.mem_map.1 this
  exact h x (List.mem_of_mem_take hx)
theorem map_ok {l : List CV} {M : List Ch} (h : l.map CV.ch = M) (hM : ∀ c ∈ M, c.ok = true) : ∀ x ∈ l, x.ch.ok = true := fun x hx => hM _ (h ▸ List.mem_map_of_mem hx)
theorem dt_res6 {W : World} {R : Nat} {a b d e f g : Value} {x : CV} (h : Dt W x) (hx : ∀ g, blk x.A = some g ∨ blk x.B = some g → g ≠ R) :
    Dt ((((((W.setCell ⟨R, 0, none⟩ a).setCell ⟨R, 1, none⟩ b).setCell ⟨R, 2, none⟩ d).setCell ⟨R, 3, none⟩ e).setCell ⟨R, 4, none⟩ f).setCell ⟨R, 5, none⟩ g) x := by
  have hA : blk x.A ≠ some R := fun e => hx R (.inl e) rfl
  have hB : blk x.B ≠ some R := fun e => hx R (.inr e) rfl
  constructor
  · exact Rd.set (Rd.set (Rd.set (Rd.set (Rd.set (Rd.set h.k ⟨R, 0, none⟩ a fun _ => hA) ⟨R, 1, none⟩ b fun _ => hA) ⟨R, 2, none⟩ d fun _ => hA) ⟨R, 3, none⟩ e fun _ => hA) ⟨R, 4, none⟩ f fun _ => hA) ⟨R, 5, none⟩ g fun _ => hA
  · exact Rd.set (Rd.set (Rd.set (Rd.set (Rd.set (Rd.set h.v ⟨R, 0, none⟩ a fun _ => hB) ⟨R, 1, none⟩ b fun _ => hB) ⟨R, 2, none⟩ d fun _ => hB) ⟨R, 3, none⟩ e fun _ => hB) ⟨R, 4, none⟩ f fun _ => hB) ⟨R, 5, none⟩ g fun _ => hB
theorem bx_res6 {W : World} {R p : Nat} {a b d e f g : Value} {l : List Value} (h : Bx W p l) (hx : R ≠ p) :
    Bx ((((((W.setCell ⟨R, 0, none⟩ a).setCell ⟨R, 1, none⟩ b).setCell ⟨R, 2, none⟩ d).setCell ⟨R, 3, none⟩ e).setCell ⟨R, 4, none⟩ f).setCell ⟨R, 5, none⟩ g) p l :=
  (((((h.other hx 0 a).other hx 1 b).other hx 2 d).other hx 3 e).other hx 4 f).other hx 5 g
theorem rd_res5 {W : World} {R s n c : Nat} {A : Option Addr} {xs : List Value} {a b d e f : Value} (h : Rd W s A n c xs) (hx : 0 < n → blk A ≠ some R) :
    Rd (((((W.setCell ⟨R, 0, none⟩ a).setCell ⟨R, 1, none⟩ b).setCell ⟨R, 2, none⟩ d).setCell ⟨R, 3, none⟩ e).setCell ⟨R, 4, none⟩ f) s A n c xs :=
  Rd.set (Rd.set (Rd.set (Rd.set (Rd.set h ⟨R, 0, none⟩ a hx) ⟨R, 1, none⟩ b hx) ⟨R, 2, none⟩ d hx) ⟨R, 3, none⟩ e hx) ⟨R, 4, none⟩ f hx
theorem bx_res5 {W : World} {R p : Nat} {a b d e f : Value} {l : List Value} (h : Bx W p l) (hx : R ≠ p) :
    Bx (((((W.setCell ⟨R, 0, none⟩ a).setCell ⟨R, 1, none⟩ b).setCell ⟨R, 2, none⟩ d).setCell ⟨R, 3, none⟩ e).setCell ⟨R, 4, none⟩ f) p l :=
  ((((h.other hx 0 a).other hx 1 b).other hx 2 d).other hx 3 e).other hx 4 f
theorem rd_blk {W : World} {s n c : Nat} {A : Option Addr} {xs : List Value} (h : Rd W s A n c xs) (hn : 0 < n) {g : Nat} (e : blk A = some g) : g < W.heap.size := by
  obtain ⟨g1, o1, e1, hg1, _⟩ := h.at_ hn
  rw [e1] at e
  simp only [blk, Option.map_some, Option.some.injEq] at e
  omega
set_option maxHeartbeats 6400000 in
theorem lmore_any {f : FV} {b : Ent} {t0 : Int} {Ts : List (List Ch)} {PA FA LA A : Option Addr} {np pc m fc ln lc n c : Nat} {r0 last : Int} {X : List XV} (w : World) (G : Hid (Gl w)) (H : Hid (Stt w f b t0 Ts PA np pc r0 FA m fc LA ln lc last))
    (HX : Hid (Xr w A n c X)) (hn : n + Ts.length ≤ 20) (SM : Hid (∀ x ∈ X, x.l.length ≤ 12 ∧ ∀ y ∈ x.l, y.ch.ok = true)) :
    Calls Tryd.prog 35 #[.agg #[.slice PA np pc, .int .i64 r0, .slice FA m fc, .slice LA ln lc, .int .i64 last], .slice A n c] w (MmPost w f b t0 (Ts ++ effs (app b Ts.flatten) (X.map XV.t)) PA np pc r0 FA m fc (last + n) LA ln) := by
  have NX := Lib.hid HX.out.len
  have hnc := HX.out.row.nc
  have hc63 := HX.out.row.c63
  obtain ⟨p, hp⟩ : ∃ p, w.heap.size = p := ⟨_, rfl⟩
  obtain ⟨W1, hW1⟩ : ∃ W1, w.alloc (.cells #[.slice PA np pc, .int .i64 r0, .slice FA m fc, .slice LA ln lc, .int .i64 last] 31) = W1 := ⟨_, rfl⟩
  have bw : Below w.heap.size w W1 := hW1 ▸ bal _ _
  have Z : Hid (Bx W1 p [.slice PA np pc, .int .i64 r0, .slice FA m fc, .slice LA ln lc, .int .i64 last]) := hW1 ▸ Lib.hid (Bx.put _ hp #[.slice PA np pc, .int .i64 r0, .slice FA m fc, .slice LA ln lc, .int .i64 last] 31)
  have TZ : Hid (Ty W1 p 31) := hW1 ▸ hp ▸ Lib.hid (Ty.new _ _ _)
  have HW1 := Lib.hid hW1
  clear hW1
  obtain ⟨R, hR⟩ : ∃ R, W1.heap.size = R := ⟨_, rfl⟩
  obtain ⟨W2, hW2⟩ : ∃ W2, W1.alloc (.cells #[.slice none 0 0, .int .i64 0, .slice none 0 0, .slice none 0 0, .int .i64 0] 31) = W2 := ⟨_, rfl⟩
  have v2 : Below W1.heap.size W1 W2 := hW2 ▸ bal _ _
  have Y : Hid (Bx W2 R [.slice none 0 0, .int .i64 0, .slice none 0 0, .slice none 0 0, .int .i64 0]) := hW2 ▸ Lib.hid (Bx.put _ hR #[.slice none 0 0, .int .i64 0, .slice none 0 0, .slice none 0 0, .int .i64 0] 31)
  have TY : Hid (Ty W2 R 31) := hW2 ▸ hR ▸ Lib.hid (Ty.new _ _ _)
  have HW2 := Lib.hid hW2
  clear hW2
  have hR' : w.heap.size ≤ R := by rw [← hR]; exact bw.size
  have eR : R = p + 1 := by rw [← hR, ← HW1.out, ← hp]; simp
  subst eR
  have Z := Lib.hid (Z.out.nx v2)
  have bw := bw.trans (v2.mono bw.size)
  have hp' : w.heap.size ≤ p := by omega
  have H2 := Lib.hid (H.out.nx bw)
  go_enter Tryd.func35, Tryd.ntmps35
  go_upto_region 1 with fail
  rw [HW1.out, HW2.out]
  go_wp2_with fail
  go_loopw [16] (fun iv wr => ∃ (j : Nat) (LA' : Option Addr) (ln' lc' : Nat), j ≤ n ∧ iv = .int .i64 j ∧ Hid (Bx wr p [.slice PA np pc, .int .i64 r0, .slice FA m fc, .slice LA' ln' lc', .int .i64 (last + j)]) ∧ Hid (Bx wr (p + 1) [.slice none 0 0, .int .i64 0, .slice none 0 0, .slice none 0 0, .int .i64 0]) ∧
      Hid (Stt wr f b t0 (Ts ++ effs (app b Ts.flatten) ((X.take j).map XV.t)) PA np pc r0 FA m fc LA' ln' lc' (last + j)) ∧ Hid ((LA' = LA ∧ ln' = ln) ∨ ∀ g, blk LA' = some g → p + 1 < g) ∧ Below w.heap.size w wr) (fun iv _ => (n - intOf iv).toNat)
  case atStart => exact ⟨0, LA, ln, lc, by omega, rfl, by simpa using Z, Y, by simpa [effs] using H2, Lib.hid (.inl ⟨rfl, rfl⟩), bw⟩
  case round =>
    obtain ⟨j, LA', ln', lc', hj, rfl, Z3, Y3, S3, NA, bw3⟩ := hrel
    have NB : Hid (0 < ln' → blk LA' ≠ some (p + 1)) := Lib.hid fun hn e => by
      rcases NA.out with ⟨h1, h2⟩ | h
      · rw [h1] at e; rw [h2] at hn
        have := rd_blk H.out.st.lg hn e; omega
      · have := h _ e; omega
    clear Z Y H2
    obtain ⟨lj, hlj⟩ : ∃ lj : Int, last + (j : Int) = lj := ⟨_, rfl⟩
    rw [hlj] at Z3 S3
    have HLJ := Lib.hid hlj
    clear hlj
    obtain ⟨wo, rfl⟩ : ∃ u, u = wr := ⟨_, rfl⟩
    by_cases hlt : j < n
    · have d1 : decide ((j : Int) < (n : Int)) = true := decide_eq_true (by omega)
      obtain ⟨g, o, x, rfl, hg, hx, c0⟩ := (HX.out.nx bw3).item hlt
      have ET := Lib.hid (effs_take (b := app b Ts.flatten) hx)
      have SMX := Lib.hid (SM.out x (List.mem_of_getElem? hx))
      have CX := Lib.hid ((HX.out.dat x (List.mem_of_getElem? hx)))
      obtain ⟨xn, hxn⟩ : ∃ xn, x.l.length = xn := ⟨_, rfl⟩
      obtain ⟨XA, hXA⟩ : ∃ XA, x.A = XA := ⟨_, rfl⟩
      obtain ⟨xc, hxc⟩ : ∃ xc, x.c = xc := ⟨_, rfl⟩
      rw [hxn, hXA, hxc] at c0 CX
      clear hXA hxc
      have xn12 : xn ≤ 12 := by rw [← hxn]; exact SMX.out.1
      have HXN := Lib.hid hxn
      obtain ⟨Tj, hTj⟩ : ∃ Tj, Ts ++ effs (app b Ts.flatten) ((X.take j).map XV.t) = Tj := ⟨_, rfl⟩
      rw [hTj] at S3
      have TL : Hid (Tj.length = Ts.length + j) := Lib.hid (by rw [← hTj, List.length_append, effs_len, List.length_map, List.length_take]; have := NX.out; omega)
      have TF : Hid (app b Tj.flatten = app (app b Ts.flatten) ((X.take j).map XV.t).flatten) := Lib.hid (by rw [← hTj, List.flatten_append, app_app, app_effs])
      have HTJ := Lib.hid hTj
      clear hTj hx hxn
      have z0 := Z3.out.at_ 0 (by simp)
      have z1 := Z3.out.at_ 1 (by simp)
      have z2 := Z3.out.at_ 2 (by simp)
      have z3 := Z3.out.at_ 3 (by simp)
      have z4 := Z3.out.at_ 4 (by simp)
      simp only [List.getElem?_cons_succ, List.getElem?_cons_zero] at z0 z1 z2 z3 z4
      have BG := Lib.hid (Stt.begin_ S3 (Lib.hid (G.out.nx bw3)))
      go_wp2_with fail
      go_at_call 17
      refine BG.out.mono ?_
      rintro e w4 ⟨rfl, b4⟩
      have bw4 := bw3.trans (b4.mono bw3.size)
      obtain ⟨q8, hq8⟩ : ∃ q8, w4.heap.size = q8 := ⟨_, rfl⟩
      obtain ⟨W5, hW5⟩ : ∃ W5, w4.alloc (.cells #[.slice PA np pc, .int .i64 r0, .slice FA m fc, .slice LA' ln' lc', .int .i64 lj, .slice none 0 0] 48) = W5 := ⟨_, rfl⟩
      have b5 : Below w4.heap.size w4 W5 := hW5 ▸ bal _ _
      have U : Hid (Bx W5 q8 [.slice PA np pc, .int .i64 r0, .slice FA m fc, .slice LA' ln' lc', .int .i64 lj, .slice none 0 0]) := hW5 ▸ Lib.hid (Bx.put _ hq8 #[.slice PA np pc, .int .i64 r0, .slice FA m fc, .slice LA' ln' lc', .int .i64 lj, .slice none 0 0] 48)
      have TU : Hid (Ty W5 q8 48) := hW5 ▸ hq8 ▸ Lib.hid (Ty.new _ _ _)
      have HW5 := Lib.hid hW5
      clear hW5
      go_upto_region 5 with fail
      rw [HW5.out]
      have b45 := b4.trans (b5.mono b4.size)
      have bw5 := bw3.trans (b45.mono bw3.size)
      have Z4 := Lib.hid (Z3.out.nx b4)
      have Y4 := Lib.hid (Y3.out.nx b4)
      have S4 := Lib.hid (S3.out.nx b4)
      have h48 : w4.heap.size ≤ q8 := by omega
      have C5 := Lib.hid (CX.out.nx bw5)
      have pq : p + 1 < q8 := by have := Y3.out.lt; have := b4.size; omega
      have cnc := C5.out.row.nc
      have c63 := C5.out.row.c63
      have CN := Lib.hid C5.out.len
      clear BG z0 z1 z2 z3 z4 c0 Z3 Y3 S3
      go_wp2_with fail
      go_loopw [30] (fun iv wr => ∃ (i : Nat) (WA : Option Addr) (wn wc : Nat) (wl : List CV), i ≤ xn ∧ iv = .int .i64 i ∧ wn ≤ i ∧ Hid (Bx wr q8 [.slice PA np pc, .int .i64 r0, .slice FA m fc, .slice LA' ln' lc', .int .i64 lj, .slice WA wn wc]) ∧ Hid (Cr wr WA wn wc wl) ∧ Hid (wl.map CV.ch = eff (app b Tj.flatten) ((x.l.take i).map CV.ch)) ∧ Hid (∀ y ∈ wl, ∀ g, blk y.A = some g ∨ blk y.B = some g → q8 < g) ∧ Below w4.heap.size w4 wr) (fun iv _ => (xn - intOf iv).toNat)
      case atStart => exact ⟨0, none, 0, 0, [], by omega, rfl, by omega, U, Lib.hid (Cr.nil_ _), Lib.hid rfl, Lib.hid (by simp), b5⟩
      case round =>
        obtain ⟨i, WA, wn, wc, wl, hi, rfl, hwn, U6, C6, WL, Fr6, b6⟩ := hrel
        clear U
        have Z6 := Lib.hid (Z4.out.nx b6)
        have Y6 := Lib.hid (Y4.out.nx b6)
        have S6 := Lib.hid (S4.out.nx b6)
        have bw6 := bw4.trans (b6.mono bw4.size)
        by_cases hlt2 : i < xn
        · have d2 : decide ((i : Int) < (xn : Int)) = true := decide_eq_true (by omega)
          obtain ⟨g', o', y, rfl, hg', hy, a0, a1, a2⟩ := (CX.out.nx bw6).item hlt2
          have ES := Lib.hid (eff_take (b := app b Tj.flatten) hy)
          have OKY := Lib.hid (ok_iff.1 (SMX.out.2 y (List.mem_of_getElem? hy)))
          have DY := Lib.hid ((CX.out.dat y (List.mem_of_getElem? hy)))
          obtain ⟨kn, hkn⟩ : ∃ kn, y.k.length = kn := ⟨_, rfl⟩
          obtain ⟨vn, hvn⟩ : ∃ vn, y.v.length = vn := ⟨_, rfl⟩
          have KV : Hid (keyN kn = true ∧ valN vn = true) := Lib.hid ⟨decide_eq_true (by rw [← hkn]; exact OKY.out.1), decide_eq_true (by rw [← hvn]; exact OKY.out.2.1)⟩
          rw [hkn] at a0
          rw [hvn] at a1
          have HKN := Lib.hid hkn
          have HVN := Lib.hid hvn
          clear hy hkn hvn
          obtain ⟨q11, hq11⟩ : ∃ q11, wr.heap.size = q11 := ⟨_, rfl⟩
          obtain ⟨W7, hW7⟩ : ∃ W7, wr.alloc (.cells #[.slice y.A kn y.c, .slice y.B vn y.d, .bool y.del] 45) = W7 := ⟨_, rfl⟩
          have v7 : Below wr.heap.size wr W7 := hW7 ▸ bal _ _
          have V : Hid (Bx W7 q11 [.slice y.A kn y.c, .slice y.B vn y.d, .bool y.del]) := hW7 ▸ Lib.hid (Bx.put _ hq11 #[.slice y.A kn y.c, .slice y.B vn y.d, .bool y.del] 45)
          have TV : Hid (Ty W7 q11 45) := hW7 ▸ hq11 ▸ Lib.hid (Ty.new _ _ _)
          have HW7 := Lib.hid hW7
          clear hW7
          obtain ⟨q13, hq13⟩ : ∃ q13, W7.heap.size = q13 := ⟨_, rfl⟩
          obtain ⟨W8, hW8⟩ : ∃ W8, W7.alloc (.cells #[.slice PA np pc, .int .i64 r0, .slice FA m fc, .slice LA' ln' lc', .int .i64 lj, .slice WA wn wc] 48) = W8 := ⟨_, rfl⟩
          have v8 : Below W7.heap.size W7 W8 := hW8 ▸ bal _ _
          have T : Hid (Bx W8 q13 [.slice PA np pc, .int .i64 r0, .slice FA m fc, .slice LA' ln' lc', .int .i64 lj, .slice WA wn wc]) := hW8 ▸ Lib.hid (Bx.put _ hq13 #[.slice PA np pc, .int .i64 r0, .slice FA m fc, .slice LA' ln' lc', .int .i64 lj, .slice WA wn wc] 48)
          have TT : Hid (Ty W8 q13 48) := hW8 ▸ hq13 ▸ Lib.hid (Ty.new _ _ _)
          have HW8 := Lib.hid hW8
          clear hW8
          have v78 := v7.trans (v8.mono v7.size)
          have bw8 := bw6.trans (v78.mono bw6.size)
          have vlt := V.out.lt
          have ulq := U6.out.lt
          have q811 : q8 < q11 := by omega
          have q1113 : q11 < q13 := by omega
          have V := Lib.hid (V.out.nx v8)
          have U8 := Lib.hid (U6.out.nx v78)
          have Z8 := Lib.hid (Z6.out.nx v78)
          have Y8 := Lib.hid (Y6.out.nx v78)
          have S8 := Lib.hid (S6.out.nx v78)
          have C8 := Lib.hid (C6.out.nx v78)
          have tlt := T.out.lt
          have WV := Lib.hid (S8.out.wvd (l := wl) (by have := C6.out.len; omega) (map_ok WL.out (eff_ok SMX.out.2)))
          have G8 := Lib.hid (G.out.nx bw8)
          have K8 : Hid (Rd W8 1 y.A kn y.c (bv y.k)) := Lib.hid (by rw [← HKN.out]; exact (DY.out.nx bw8).k)
          have V8 : Hid (Rd W8 1 y.B vn y.d (bv y.v)) := Lib.hid (by rw [← HVN.out]; exact (DY.out.nx bw8).v)
          have U7 := Lib.hid (U6.out.nx v7)
          go_upto_region 11 with fail
          rw [HW7.out]
          have u0 := U7.out.at_ 0 (by simp)
          have u1 := U7.out.at_ 1 (by simp)
          have u2 := U7.out.at_ 2 (by simp)
          have u3 := U7.out.at_ 3 (by simp)
          have u4 := U7.out.at_ 4 (by simp)
          have u5 := U7.out.at_ 5 (by simp)
          simp only [List.getElem?_cons_succ, List.getElem?_cons_zero] at u0 u1 u2 u3 u4 u5
          go_upto_region 12 with fail
          rw [HW8.out]
          clear u0 u1 u2 u3 u4 u5
          have u0 := U8.out.at_ 0 (by simp)
          have u1 := U8.out.at_ 1 (by simp)
          have u2 := U8.out.at_ 2 (by simp)
          have u3 := U8.out.at_ 3 (by simp)
          have u4 := U8.out.at_ 4 (by simp)
          have u5 := U8.out.at_ 5 (by simp)
          simp only [List.getElem?_cons_succ, List.getElem?_cons_zero] at u0 u1 u2 u3 u4 u5
          have v0 := V.out.at_ 0 (by simp)
          have v1 := V.out.at_ 1 (by simp)
          have v2 := V.out.at_ 2 (by simp)
          simp only [List.getElem?_cons_succ, List.getElem?_cons_zero] at v0 v1 v2
          have t0 := T.out.at_ 0 (by simp)
          have t1 := T.out.at_ 1 (by simp)
          have t2 := T.out.at_ 2 (by simp)
          have t3 := T.out.at_ 3 (by simp)
          have t4 := T.out.at_ 4 (by simp)
          have t5 := T.out.at_ 5 (by simp)
          simp only [List.getElem?_cons_succ, List.getElem?_cons_zero] at t0 t1 t2 t3 t4 t5
          cases hdel : y.del with
          | true =>
            have VN : Hid (y.v = []) := Lib.hid (OKY.out.2.2 hdel)
            rw [hdel] at v2
            obtain ⟨o, ho⟩ : ∃ o, app b (Tj.flatten ++ wl.map CV.ch) y.k = o := ⟨_, rfl⟩
            have HO : Hid (app (app b Tj.flatten) (eff (app b Tj.flatten) ((x.l.take i).map CV.ch)) y.k = o) := Lib.hid (by rw [← ho, app_app, WL.out])
            have DL := sDel_ok (last := lj) W8 G8 (Lib.hid S8.out.st) (Lib.hid S8.out.e) (Lib.hid S8.out.tr) C8 WV K8 KV.out.1
            rw [ho] at DL
            have DL := Lib.hid DL
            have HDEL : Hid (y.ch.del = true) := Lib.hid hdel
            clear ho hdel
            go_wp2_with fail
            go_at_call 18
            refine DL.out.mono ?_
            rintro e w9 hpost
            rcases hpost with ⟨hno, rfl, b9⟩ | ⟨hne, ⟨⟨h100, _⟩ | ⟨h100, A9, c9, x9, rfl, xch, co9, fr9⟩, b9⟩⟩
            · skip
              have T9 := Lib.hid (T.out.nx b9)
              have v9 := v78.trans (b9.mono v78.size)
              have b10 : Below wr.heap.size wr ((((((w9.setCell ⟨q13, 0, none⟩ (.slice none 0 0)).setCell ⟨q13, 1, none⟩ (.int .i64 0)).setCell ⟨q13, 2, none⟩ (.slice none 0 0)).setCell ⟨q13, 3, none⟩ (.slice none 0 0)).setCell ⟨q13, 4, none⟩ (.int .i64 0)).setCell ⟨q13, 5, none⟩ (.slice none 0 0)) := res6_below v9 (by omega)
              clear u0 u1 u2 u3 u4 u5 v0 v1 v2 t0 t1 t2 t3 t4 t5
              have t0 := T9.out.at_ 0 (by simp)
              have t1 := T9.out.at_ 1 (by simp)
              have t2 := T9.out.at_ 2 (by simp)
              have t3 := T9.out.at_ 3 (by simp)
              have t4 := T9.out.at_ 4 (by simp)
              have t5 := T9.out.at_ 5 (by simp)
              simp only [List.getElem?_cons_succ, List.getElem?_cons_zero] at t0 t1 t2 t3 t4 t5
              have f0 := T9.out.fz 0 (by simp)
              have f1 := T9.out.fz 1 (by simp)
              have f2 := T9.out.fz 2 (by simp)
              have f3 := T9.out.fz 3 (by simp)
              have f4 := T9.out.fz 4 (by simp)
              have f5 := T9.out.fz 5 (by simp)
              obtain ⟨W10, hW10⟩ : ∃ u, ((((((w9.setCell ⟨q13, 0, none⟩ (.slice none 0 0)).setCell ⟨q13, 1, none⟩ (.int .i64 0)).setCell ⟨q13, 2, none⟩ (.slice none 0 0)).setCell ⟨q13, 3, none⟩ (.slice none 0 0)).setCell ⟨q13, 4, none⟩ (.int .i64 0)).setCell ⟨q13, 5, none⟩ (.slice none 0 0)) = u := ⟨_, rfl⟩
              rw [hW10] at b10
              have U10 := Lib.hid (U6.out.nx b10)
              have C10 := Lib.hid (C6.out.nx b10)
              have R : Hid (wl.map CV.ch = eff (app b Tj.flatten) ((x.l.take (i + 1)).map CV.ch)) := Lib.hid (by
                rw [ES.out]; unfold estp; rw [if_pos ⟨HDEL.out, by rw [← hno]; exact HO.out⟩]; exact WL.out)
              clear hno
              go_wp2_with fail
              go_roundw
              case rel => exact ⟨i + 1, WA, wn, wc, wl, by omega, by go_num, by omega, U10, C10, R, Fr6, b6.trans (b10.mono b6.size)⟩
              case measure => simp [intOf]; omega
            · omega
            · have R : Hid ((wl ++ [x9]).map CV.ch = eff (app b Tj.flatten) ((x.l.take (i + 1)).map CV.ch)) := Lib.hid (by
                rw [ES.out]; unfold estp; rw [if_neg (fun h => hne (by rw [← HO.out]; exact h.2)), List.map_append, WL.out]
                congr 1
                show [x9.ch] = [y.ch]
                rw [xch.out]
                exact congrArg (· :: []) (Ch.ext' rfl VN.out.symm HDEL.out.symm))
              clear hne
              have T9 := Lib.hid (T.out.nx b9)
              have v9 := v78.trans (b9.mono v78.size)
              have b10 : Below wr.heap.size wr ((((((w9.setCell ⟨q13, 0, none⟩ (.slice PA np pc)).setCell ⟨q13, 1, none⟩ (.int .i64 r0)).setCell ⟨q13, 2, none⟩ (.slice FA m fc)).setCell ⟨q13, 3, none⟩ (.slice LA' ln' lc')).setCell ⟨q13, 4, none⟩ (.int .i64 lj)).setCell ⟨q13, 5, none⟩ (.slice A9 (wn + 1) c9)) := res6_below v9 (by omega)
              have Q := Lib.hid (res6_cells T9.out rfl (.slice PA np pc) (.int .i64 r0) (.slice FA m fc) (.slice LA' ln' lc') (.int .i64 lj) (.slice A9 (wn + 1) c9))
              have O10 := Lib.hid (own_res6 (R := q13) (a := .slice PA np pc) (b := .int .i64 r0) (d := .slice FA m fc) (e := .slice LA' ln' lc') (f := .int .i64 lj) (g := .slice A9 (wn + 1) c9) co9.out.own tlt)
              have D10 := Lib.hid (dt_res6 (R := q13) (a := .slice PA np pc) (b := .int .i64 r0) (d := .slice FA m fc) (e := .slice LA' ln' lc') (f := .int .i64 lj) (g := .slice A9 (wn + 1) c9) (co9.out.dat x9 (by simp)) fun g e => by have := fr9.out g e; omega)
              clear u0 u1 u2 u3 u4 u5 v0 v1 v2 t0 t1 t2 t3 t4 t5
              have t0 := T9.out.at_ 0 (by simp)
              have t1 := T9.out.at_ 1 (by simp)
              have t2 := T9.out.at_ 2 (by simp)
              have t3 := T9.out.at_ 3 (by simp)
              have t4 := T9.out.at_ 4 (by simp)
              have t5 := T9.out.at_ 5 (by simp)
              simp only [List.getElem?_cons_succ, List.getElem?_cons_zero] at t0 t1 t2 t3 t4 t5
              have f0 := T9.out.fz 0 (by simp)
              have f1 := T9.out.fz 1 (by simp)
              have f2 := T9.out.fz 2 (by simp)
              have f3 := T9.out.fz 3 (by simp)
              have f4 := T9.out.fz 4 (by simp)
              have f5 := T9.out.fz 5 (by simp)
              go_upto_region 18 with fail
              obtain ⟨W10, hW10⟩ : ∃ u, ((((((w9.setCell ⟨q13, 0, none⟩ (.slice PA np pc)).setCell ⟨q13, 1, none⟩ (.int .i64 r0)).setCell ⟨q13, 2, none⟩ (.slice FA m fc)).setCell ⟨q13, 3, none⟩ (.slice LA' ln' lc')).setCell ⟨q13, 4, none⟩ (.int .i64 lj)).setCell ⟨q13, 5, none⟩ (.slice A9 (wn + 1) c9)) = u := ⟨_, rfl⟩
              rw [hW10] at b10 Q O10 D10 ⊢
              clear hW10 t0 t1 t2 t3 t4 t5 f0 f1 f2 f3 f4 f5
              have U10 := Lib.hid (U6.out.nx b10)
              have C10 := Lib.hid (C6.out.nx b10)
              have b410 := b6.trans (b10.mono b6.size)
              have q0 := Q.out.at_ 0 (by simp)
              have q1 := Q.out.at_ 1 (by simp)
              have q2 := Q.out.at_ 2 (by simp)
              have q3 := Q.out.at_ 3 (by simp)
              have q4 := Q.out.at_ 4 (by simp)
              have q5 := Q.out.at_ 5 (by simp)
              simp only [List.getElem?_cons_succ, List.getElem?_cons_zero] at q0 q1 q2 q3 q4 q5
              have u0 := U10.out.at_ 0 (by simp)
              have u1 := U10.out.at_ 1 (by simp)
              have u2 := U10.out.at_ 2 (by simp)
              have u3 := U10.out.at_ 3 (by simp)
              have u4 := U10.out.at_ 4 (by simp)
              have u5 := U10.out.at_ 5 (by simp)
              simp only [List.getElem?_cons_succ, List.getElem?_cons_zero] at u0 u1 u2 u3 u4 u5
              have f0 := U10.out.fz 0 (by simp)
              have f1 := U10.out.fz 1 (by simp)
              have f2 := U10.out.fz 2 (by simp)
              have f3 := U10.out.fz 3 (by simp)
              have f4 := U10.out.fz 4 (by simp)
              have f5 := U10.out.fz 5 (by simp)
              have U12 := Lib.hid (res6_cells U10.out rfl (.slice PA np pc) (.int .i64 r0) (.slice FA m fc) (.slice LA' ln' lc') (.int .i64 lj) (.slice A9 (wn + 1) c9))
              have b412 := res6_below (a := .slice PA np pc) (b := .int .i64 r0) (c := .slice FA m fc) (d := .slice LA' ln' lc') (e := .int .i64 lj) (g := .slice A9 (wn + 1) c9) b410 h48
              have O12 := Lib.hid (own_res6 (R := q8) (a := .slice PA np pc) (b := .int .i64 r0) (d := .slice FA m fc) (e := .slice LA' ln' lc') (f := .int .i64 lj) (g := .slice A9 (wn + 1) c9) O10.out (by omega))
              have Fr12 : Hid (∀ y ∈ wl ++ [x9], ∀ g, blk y.A = some g ∨ blk y.B = some g → q8 < g) := Lib.hid fun y hy g e => by
                rcases List.mem_append.1 hy with hy | hy
                · exact Fr6.out y hy g e
                · obtain rfl := List.mem_singleton.1 hy
                  have := fr9.out g e; omega
              have D12 : Hid (∀ y ∈ wl ++ [x9], Dt ((((((W10.setCell ⟨q8, 0, none⟩ (.slice PA np pc)).setCell ⟨q8, 1, none⟩ (.int .i64 r0)).setCell ⟨q8, 2, none⟩ (.slice FA m fc)).setCell ⟨q8, 3, none⟩ (.slice LA' ln' lc')).setCell ⟨q8, 4, none⟩ (.int .i64 lj)).setCell ⟨q8, 5, none⟩ (.slice A9 (wn + 1) c9)) y) := Lib.hid fun y hy => by
                refine dt_res6 ?_ fun g e => by have := Fr12.out y hy g e; omega
                rcases List.mem_append.1 hy with hy | hy
                · exact C10.out.dat y hy
                · obtain rfl := List.mem_singleton.1 hy
                  exact D10.out
              go_wp2_with fail
              obtain ⟨W12, hW12⟩ : ∃ u, ((((((W10.setCell ⟨q8, 0, none⟩ (.slice PA np pc)).setCell ⟨q8, 1, none⟩ (.int .i64 r0)).setCell ⟨q8, 2, none⟩ (.slice FA m fc)).setCell ⟨q8, 3, none⟩ (.slice LA' ln' lc')).setCell ⟨q8, 4, none⟩ (.int .i64 lj)).setCell ⟨q8, 5, none⟩ (.slice A9 (wn + 1) c9)) = u := ⟨_, rfl⟩
              rw [hW12] at U12 b412 O12 D12 ⊢
              go_roundw
              case rel => exact ⟨i + 1, A9, wn + 1, c9, wl ++ [x9], by omega, by go_num, by omega, U12, Lib.hid ⟨Rd.of_own O12.out, D12.out⟩, R, Fr12, b412⟩
              case measure => simp [intOf]; omega
          | false =>
            rw [hdel] at v2
            have PT := Lib.hid (sPut_ok (last := lj) W8 G8 (Lib.hid S8.out.st) C8 WV K8 V8 KV)
            have HDEL : Hid (y.ch.del = false) := Lib.hid hdel
            clear hdel
            go_wp2_with fail
            go_at_call 19
            refine PT.out.mono ?_
            rintro e w9 hpost
            rcases hpost with ⟨⟨h100, _⟩ | ⟨h100, A9, c9, x9, rfl, xch, co9, fr9⟩, b9⟩
            · omega
            · have R : Hid ((wl ++ [x9]).map CV.ch = eff (app b Tj.flatten) ((x.l.take (i + 1)).map CV.ch)) := Lib.hid (by
                rw [ES.out]; unfold estp; rw [if_neg (fun h => by have := h.1; rw [HDEL.out] at this; cases this), List.map_append, WL.out]
                congr 1
                show [x9.ch] = [y.ch]
                rw [xch.out]
                exact congrArg (· :: []) (Ch.ext' rfl rfl HDEL.out.symm))
              have T9 := Lib.hid (T.out.nx b9)
              have v9 := v78.trans (b9.mono v78.size)
              have b10 : Below wr.heap.size wr ((((((w9.setCell ⟨q13, 0, none⟩ (.slice PA np pc)).setCell ⟨q13, 1, none⟩ (.int .i64 r0)).setCell ⟨q13, 2, none⟩ (.slice FA m fc)).setCell ⟨q13, 3, none⟩ (.slice LA' ln' lc')).setCell ⟨q13, 4, none⟩ (.int .i64 lj)).setCell ⟨q13, 5, none⟩ (.slice A9 (wn + 1) c9)) := res6_below v9 (by omega)
              have Q := Lib.hid (res6_cells T9.out rfl (.slice PA np pc) (.int .i64 r0) (.slice FA m fc) (.slice LA' ln' lc') (.int .i64 lj) (.slice A9 (wn + 1) c9))
              have O10 := Lib.hid (own_res6 (R := q13) (a := .slice PA np pc) (b := .int .i64 r0) (d := .slice FA m fc) (e := .slice LA' ln' lc') (f := .int .i64 lj) (g := .slice A9 (wn + 1) c9) co9.out.own tlt)
              have D10 := Lib.hid (dt_res6 (R := q13) (a := .slice PA np pc) (b := .int .i64 r0) (d := .slice FA m fc) (e := .slice LA' ln' lc') (f := .int .i64 lj) (g := .slice A9 (wn + 1) c9) (co9.out.dat x9 (by simp)) fun g e => by have := fr9.out g e; omega)
              clear u0 u1 u2 u3 u4 u5 v0 v1 v2 t0 t1 t2 t3 t4 t5
              have t0 := T9.out.at_ 0 (by simp)
              have t1 := T9.out.at_ 1 (by simp)
              have t2 := T9.out.at_ 2 (by simp)
              have t3 := T9.out.at_ 3 (by simp)
              have t4 := T9.out.at_ 4 (by simp)
              have t5 := T9.out.at_ 5 (by simp)
              simp only [List.getElem?_cons_succ, List.getElem?_cons_zero] at t0 t1 t2 t3 t4 t5
              have f0 := T9.out.fz 0 (by simp)
              have f1 := T9.out.fz 1 (by simp)
              have f2 := T9.out.fz 2 (by simp)
              have f3 := T9.out.fz 3 (by simp)
              have f4 := T9.out.fz 4 (by simp)
              have f5 := T9.out.fz 5 (by simp)
              go_upto_region 18 with fail
              obtain ⟨W10, hW10⟩ : ∃ u, ((((((w9.setCell ⟨q13, 0, none⟩ (.slice PA np pc)).setCell ⟨q13, 1, none⟩ (.int .i64 r0)).setCell ⟨q13, 2, none⟩ (.slice FA m fc)).setCell ⟨q13, 3, none⟩ (.slice LA' ln' lc')).setCell ⟨q13, 4, none⟩ (.int .i64 lj)).setCell ⟨q13, 5, none⟩ (.slice A9 (wn + 1) c9)) = u := ⟨_, rfl⟩
              rw [hW10] at b10 Q O10 D10 ⊢
              clear hW10 t0 t1 t2 t3 t4 t5 f0 f1 f2 f3 f4 f5
              have U10 := Lib.hid (U6.out.nx b10)
              have C10 := Lib.hid (C6.out.nx b10)
              have b410 := b6.trans (b10.mono b6.size)
              have q0 := Q.out.at_ 0 (by simp)
              have q1 := Q.out.at_ 1 (by simp)
              have q2 := Q.out.at_ 2 (by simp)
              have q3 := Q.out.at_ 3 (by simp)
              have q4 := Q.out.at_ 4 (by simp)
              have q5 := Q.out.at_ 5 (by simp)
              simp only [List.getElem?_cons_succ, List.getElem?_cons_zero] at q0 q1 q2 q3 q4 q5
              have u0 := U10.out.at_ 0 (by simp)
              have u1 := U10.out.at_ 1 (by simp)
              have u2 := U10.out.at_ 2 (by simp)
              have u3 := U10.out.at_ 3 (by simp)
              have u4 := U10.out.at_ 4 (by simp)
              have u5 := U10.out.at_ 5 (by simp)
              simp only [List.getElem?_cons_succ, List.getElem?_cons_zero] at u0 u1 u2 u3 u4 u5
              have f0 := U10.out.fz 0 (by simp)
              have f1 := U10.out.fz 1 (by simp)
              have f2 := U10.out.fz 2 (by simp)
              have f3 := U10.out.fz 3 (by simp)
              have f4 := U10.out.fz 4 (by simp)
              have f5 := U10.out.fz 5 (by simp)
              have U12 := Lib.hid (res6_cells U10.out rfl (.slice PA np pc) (.int .i64 r0) (.slice FA m fc) (.slice LA' ln' lc') (.int .i64 lj) (.slice A9 (wn + 1) c9))
              have b412 := res6_below (a := .slice PA np pc) (b := .int .i64 r0) (c := .slice FA m fc) (d := .slice LA' ln' lc') (e := .int .i64 lj) (g := .slice A9 (wn + 1) c9) b410 h48
              have O12 := Lib.hid (own_res6 (R := q8) (a := .slice PA np pc) (b := .int .i64 r0) (d := .slice FA m fc) (e := .slice LA' ln' lc') (f := .int .i64 lj) (g := .slice A9 (wn + 1) c9) O10.out (by omega))
              have Fr12 : Hid (∀ y ∈ wl ++ [x9], ∀ g, blk y.A = some g ∨ blk y.B = some g → q8 < g) := Lib.hid fun y hy g e => by
                rcases List.mem_append.1 hy with hy | hy
                · exact Fr6.out y hy g e
                · obtain rfl := List.mem_singleton.1 hy
                  have := fr9.out g e; omega
              have D12 : Hid (∀ y ∈ wl ++ [x9], Dt ((((((W10.setCell ⟨q8, 0, none⟩ (.slice PA np pc)).setCell ⟨q8, 1, none⟩ (.int .i64 r0)).setCell ⟨q8, 2, none⟩ (.slice FA m fc)).setCell ⟨q8, 3, none⟩ (.slice LA' ln' lc')).setCell ⟨q8, 4, none⟩ (.int .i64 lj)).setCell ⟨q8, 5, none⟩ (.slice A9 (wn + 1) c9)) y) := Lib.hid fun y hy => by
                refine dt_res6 ?_ fun g e => by have := Fr12.out y hy g e; omega
                rcases List.mem_append.1 hy with hy | hy
                · exact C10.out.dat y hy
                · obtain rfl := List.mem_singleton.1 hy
                  exact D10.out
              go_wp2_with fail
              obtain ⟨W12, hW12⟩ : ∃ u, ((((((W10.setCell ⟨q8, 0, none⟩ (.slice PA np pc)).setCell ⟨q8, 1, none⟩ (.int .i64 r0)).setCell ⟨q8, 2, none⟩ (.slice FA m fc)).setCell ⟨q8, 3, none⟩ (.slice LA' ln' lc')).setCell ⟨q8, 4, none⟩ (.int .i64 lj)).setCell ⟨q8, 5, none⟩ (.slice A9 (wn + 1) c9)) = u := ⟨_, rfl⟩
              rw [hW12] at U12 b412 O12 D12 ⊢
              go_roundw
              case rel => exact ⟨i + 1, A9, wn + 1, c9, wl ++ [x9], by omega, by go_num, by omega, U12, Lib.hid ⟨Rd.of_own O12.out, D12.out⟩, R, Fr12, b412⟩
              case measure => simp [intOf]; omega
        · obtain rfl : i = xn := by omega
          have d2 : decide ((i : Int) < (i : Int)) = false := decide_eq_false (by omega)
          have WL : Hid (wl.map CV.ch = eff (app b Tj.flatten) x.t) := by have h := WL.out; rw [List.take_of_length_le (by have := HXN.out; omega)] at h; exact Lib.hid h
          have ho : Hid (∀ y ∈ wl, y.ch.ok = true) := Lib.hid (map_ok WL.out fun c hc => by
            have := eff_mem _ _ c hc
            obtain ⟨y, hy, rfl⟩ := List.mem_map.1 this
            exact SMX.out.2 y hy)
          have CM := Lib.hid (Stt.commit S6 (Lib.hid (G.out.nx bw6)) C6 (by omega) ho (by have := TL.out; omega))
          have u0 := U6.out.at_ 0 (by simp)
          have u1 := U6.out.at_ 1 (by simp)
          have u2 := U6.out.at_ 2 (by simp)
          have u3 := U6.out.at_ 3 (by simp)
          have u4 := U6.out.at_ 4 (by simp)
          have u5 := U6.out.at_ 5 (by simp)
          simp only [List.getElem?_cons_succ, List.getElem?_cons_zero] at u0 u1 u2 u3 u4 u5
          go_wp2_with fail
          go_at_call 22
          refine CM.out.mono ?_
          rintro e w7 ⟨LA2, ln2, lc2, rfl, S7, O7, b7⟩
          have b47 := b6.trans (b7.mono b6.size)
          have Z7 := Lib.hid (Z4.out.nx b47)
          have Y7 := Lib.hid (Y4.out.nx b47)
          have bw7 := bw4.trans (b47.mono bw4.size)
          have y6l := Y6.out.lt
          clear u0 u1 u2 u3 u4 u5 CM
          have z0 := Z7.out.at_ 0 (by simp)
          have z1 := Z7.out.at_ 1 (by simp)
          have z2 := Z7.out.at_ 2 (by simp)
          have z3 := Z7.out.at_ 3 (by simp)
          have z4 := Z7.out.at_ 4 (by simp)
          simp only [List.getElem?_cons_succ, List.getElem?_cons_zero] at z0 z1 z2 z3 z4
          have f0 := Z7.out.fz 0 (by simp)
          have f1 := Z7.out.fz 1 (by simp)
          have f2 := Z7.out.fz 2 (by simp)
          have f3 := Z7.out.fz 3 (by simp)
          have f4 := Z7.out.fz 4 (by simp)
          have Q := Lib.hid (res5_cells Z7.out rfl (.slice PA np pc) (.int .i64 r0) (.slice FA m fc) (.slice LA2 ln2 lc2) (.int .i64 (lj + 1)))
          have Q2 := Lib.hid (bx_res5 (R := p) (a := .slice PA np pc) (b := .int .i64 r0) (d := .slice FA m fc) (e := .slice LA2 ln2 lc2) (f := .int .i64 (lj + 1)) Y7.out (by omega))
          have bF := res5_below (a := .slice PA np pc) (b := .int .i64 r0) (c := .slice FA m fc) (d := .slice LA2 ln2 lc2) (e := .int .i64 (lj + 1)) bw7 hp'
          have OF := Lib.hid (own_res5 (R := p) (a := .slice PA np pc) (b := .int .i64 r0) (d := .slice FA m fc) (e := .slice LA2 ln2 lc2) (f := .int .i64 (lj + 1)) O7.out (by omega))
          have NB2 : Hid ((LA2 = LA ∧ ln2 = ln) ∨ ∀ g, blk LA2 = some g → p + 1 < g) := Lib.hid (.inr fun g e => by have := (own_blk_le O7.out e).1; omega)
          have TE : Hid (Tj ++ [wl.map CV.ch] = Ts ++ effs (app b Ts.flatten) ((X.take (j + 1)).map XV.t)) := Lib.hid (by rw [ET.out, WL.out, TF.out, ← HTJ.out, List.append_assoc])
          rw [TE.out] at S7 OF
          go_wp2_with fail
          obtain ⟨W9, hW9⟩ : ∃ u, (((((w7.setCell ⟨p, 0, none⟩ (.slice PA np pc)).setCell ⟨p, 1, none⟩ (.int .i64 r0)).setCell ⟨p, 2, none⟩ (.slice FA m fc)).setCell ⟨p, 3, none⟩ (.slice LA2 ln2 lc2)).setCell ⟨p, 4, none⟩ (.int .i64 (lj + 1))) = u := ⟨_, rfl⟩
          rw [hW9] at Q Q2 bF OF
          have S9 := Lib.hid (S7.out.move (H.out.st.fl.below bF) (Rd.of_own OF.out))
          have eL : lj + 1 = last + ((j + 1 : Nat) : Int) := by rw [← HLJ.out]; omega
          rw [eL] at Q S9
          subst hW9
          go_roundw
          case rel => exact ⟨j + 1, LA2, ln2, lc2, by omega, by go_num, Q, Q2, S9, NB2, bF⟩
          case measure => simp [intOf]; omega
    · obtain rfl : j = n := by omega
      have d1 : decide ((j : Int) < (j : Int)) = false := decide_eq_false (by omega)
      have z0 := Z3.out.at_ 0 (by simp)
      have z1 := Z3.out.at_ 1 (by simp)
      have z2 := Z3.out.at_ 2 (by simp)
      have z3 := Z3.out.at_ 3 (by simp)
      have z4 := Z3.out.at_ 4 (by simp)
      simp only [List.getElem?_cons_succ, List.getElem?_cons_zero] at z0 z1 z2 z3 z4
      have y0 := Y3.out.at_ 0 (by simp)
      have y1 := Y3.out.at_ 1 (by simp)
      have y2 := Y3.out.at_ 2 (by simp)
      have y3 := Y3.out.at_ 3 (by simp)
      have y4 := Y3.out.at_ 4 (by simp)
      simp only [List.getElem?_cons_succ, List.getElem?_cons_zero] at y0 y1 y2 y3 y4
      have f0 := Y3.out.fz 0 (by simp)
      have f1 := Y3.out.fz 1 (by simp)
      have f2 := Y3.out.fz 2 (by simp)
      have f3 := Y3.out.fz 3 (by simp)
      have f4 := Y3.out.fz 4 (by simp)
      have Q := Lib.hid (res5_cells Y3.out rfl (.slice PA np pc) (.int .i64 r0) (.slice FA m fc) (.slice LA' ln' lc') (.int .i64 lj))
      have bF := res5_below (a := .slice PA np pc) (b := .int .i64 r0) (c := .slice FA m fc) (d := .slice LA' ln' lc') (e := .int .i64 lj) bw3 hR'
      have RF := Lib.hid (rd_res5 (R := p + 1) (a := .slice PA np pc) (b := .int .i64 r0) (d := .slice FA m fc) (e := .slice LA' ln' lc') (f := .int .i64 lj) S3.out.st.lg NB.out)
      have eT : Hid (X.take j = X) := Lib.hid (List.take_of_length_le (by have := NX.out; omega))
      rw [eT.out] at S3 RF
      rw [HLJ.out]
      go_wp2_with fail
      obtain ⟨W9, hW9⟩ : ∃ u, (((((wo.setCell ⟨p + 1, 0, none⟩ (.slice PA np pc)).setCell ⟨p + 1, 1, none⟩ (.int .i64 r0)).setCell ⟨p + 1, 2, none⟩ (.slice FA m fc)).setCell ⟨p + 1, 3, none⟩ (.slice LA' ln' lc')).setCell ⟨p + 1, 4, none⟩ (.int .i64 lj)) = u := ⟨_, rfl⟩
      rw [hW9] at Q bF RF ⊢
      have q0 := Q.out.at_ 0 (by simp)
      have q1 := Q.out.at_ 1 (by simp)
      have q2 := Q.out.at_ 2 (by simp)
      have q3 := Q.out.at_ 3 (by simp)
      have q4 := Q.out.at_ 4 (by simp)
      simp only [List.getElem?_cons_succ, List.getElem?_cons_zero] at q0 q1 q2 q3 q4
      refine bodyPost_ret (v := .tuple #[.agg #[.slice PA np pc, .int .i64 r0, .slice FA m fc, .slice LA' ln' lc', .int .i64 lj], .bool true]) (by simp [results, Tryd.results35, go_sem, q0, q1, q2, q3, q4]) rfl ?_
      have SF := Lib.hid (S3.out.move (H.out.st.fl.below bF) RF.out)
      rw [← HLJ.out] at SF ⊢
      exact ⟨LA', ln', lc', rfl, SF, Lib.hid (NA.out.imp id fun h g e => by have := h g e; omega), bF⟩
/-- What made answers. -/
def MdPost (w : World) (Ts : List (List Ch)) (e : Ending) (w' : World) : Prop :=
  ∃ (LA : Option Addr) (ln lc : Nat), e = .returned (.tuple #[.agg #[.slice none 0 0, .int .i64 (-1), .slice none 0 0, .slice LA ln lc, .int .i64 (Ts.length : Int)], .bool true]) ∧ Hid (Stt w' nil0 (fun _ => none) 1 Ts none 0 0 (-1) none 0 0 LA ln lc Ts.length) ∧ Below w.heap.size w w'
theorem sNew_any (w : World) : Calls Tryd.prog 36 #[] w fun e w' => e = .returned (.agg #[.slice none 0 0, .int .i64 (-1), .slice none 0 0, .slice none 0 0, .int .i64 0]) ∧ Below w.heap.size w w' := by
  obtain ⟨p, hp⟩ : ∃ p, w.heap.size = p := ⟨_, rfl⟩
  obtain ⟨W1, hW1⟩ : ∃ W1, w.alloc (.cells #[.slice none 0 0, .int .i64 0, .slice none 0 0, .slice none 0 0, .int .i64 0] 31) = W1 := ⟨_, rfl⟩
  have bw : Below w.heap.size w W1 := hW1 ▸ bal _ _
  have Y : Hid (Bx W1 p [.slice none 0 0, .int .i64 0, .slice none 0 0, .slice none 0 0, .int .i64 0]) := hW1 ▸ Lib.hid (Bx.put _ hp #[.slice none 0 0, .int .i64 0, .slice none 0 0, .slice none 0 0, .int .i64 0] 31)
  have TY : Hid (Ty W1 p 31) := hW1 ▸ hp ▸ Lib.hid (Ty.new _ _ _)
  have HW1 := Lib.hid hW1
  clear hW1
  go_enter Tryd.func36, Tryd.ntmps36
  go_upto_region 1 with fail
  rw [HW1.out]
  go_wp2_with fail
  go_at_call 53
  refine (Pg.New_any W1).mono ?_
  rintro e w2 ⟨rfl, b2⟩
  replace bw := bw.trans (b2.mono bw.size)
  replace Y := Lib.hid (Y.out.nx b2)
  have y0 := Y.out.at_ 0 (by simp)
  have y1 := Y.out.at_ 1 (by simp)
  have y2 := Y.out.at_ 2 (by simp)
  have y3 := Y.out.at_ 3 (by simp)
  have y4 := Y.out.at_ 4 (by simp)
  simp only [List.getElem?_cons_succ, List.getElem?_cons_zero] at y0 y1 y2 y3 y4
  have f0 := Y.out.fz 0 (by simp)
  have f1 := Y.out.fz 1 (by simp)
  have f2 := Y.out.fz 2 (by simp)
  have f3 := Y.out.fz 3 (by simp)
  have f4 := Y.out.fz 4 (by simp)
  have Q := Lib.hid (res5_cells Y.out rfl (.slice none 0 0) (.int .i64 (-1)) (.slice none 0 0) (.slice none 0 0) (.int .i64 0))
  have bF := res5_below (a := .slice none 0 0) (b := .int .i64 (-1)) (c := .slice none 0 0) (d := .slice none 0 0) (e := .int .i64 0) bw (by omega : w.heap.size ≤ p)
  go_wp2_with fail
  obtain ⟨W9, hW9⟩ : ∃ u, (((((w2.setCell ⟨p, 0, none⟩ (.slice none 0 0)).setCell ⟨p, 1, none⟩ (.int .i64 (-1))).setCell ⟨p, 2, none⟩ (.slice none 0 0)).setCell ⟨p, 3, none⟩ (.slice none 0 0)).setCell ⟨p, 4, none⟩ (.int .i64 0)) = u := ⟨_, rfl⟩
  rw [hW9] at Q bF ⊢
  have q0 := Q.out.at_ 0 (by simp)
  have q1 := Q.out.at_ 1 (by simp)
  have q2 := Q.out.at_ 2 (by simp)
  have q3 := Q.out.at_ 3 (by simp)
  have q4 := Q.out.at_ 4 (by simp)
  simp only [List.getElem?_cons_succ, List.getElem?_cons_zero] at q0 q1 q2 q3 q4
  refine bodyPost_ret (v := .agg #[.slice none 0 0, .int .i64 (-1), .slice none 0 0, .slice none 0 0, .int .i64 0]) (by simp [results, Tryd.results36, go_sem, q0, q1, q2, q3, q4]) rfl ?_
  exact ⟨rfl, bF⟩
theorem stt0 (w : World) : Stt w nil0 (fun _ => none) 1 [] none 0 0 (-1) none 0 0 none 0 0 0 :=
  ⟨⟨Lib.hid rfl, fl0 w, rfl, Rd.nil_ _ _, by omega⟩, fent0, by omega, by omega, by simp, by simp, by simp⟩
set_option maxHeartbeats 1600000 in
theorem made_any {A : Option Addr} {n c : Nat} {X : List XV} (w : World) (G : Hid (Gl w)) (HX : Hid (Xr w A n c X)) (hn : n ≤ 20) (SM : Hid (∀ x ∈ X, x.l.length ≤ 12 ∧ ∀ y ∈ x.l, y.ch.ok = true)) :
    Calls Tryd.prog 9 #[.slice A n c] w (MdPost w (effs (fun _ => none) (X.map XV.t))) := by
  have NX := Lib.hid HX.out.len
  obtain ⟨p, hp⟩ : ∃ p, w.heap.size = p := ⟨_, rfl⟩
  obtain ⟨W1, hW1⟩ : ∃ W1, w.alloc (.cells #[.slice none 0 0, .int .i64 0, .slice none 0 0, .slice none 0 0, .int .i64 0] 31) = W1 := ⟨_, rfl⟩
  have bw : Below w.heap.size w W1 := hW1 ▸ bal _ _
  have Y : Hid (Bx W1 p [.slice none 0 0, .int .i64 0, .slice none 0 0, .slice none 0 0, .int .i64 0]) := hW1 ▸ Lib.hid (Bx.put _ hp #[.slice none 0 0, .int .i64 0, .slice none 0 0, .slice none 0 0, .int .i64 0] 31)
  have TY : Hid (Ty W1 p 31) := hW1 ▸ hp ▸ Lib.hid (Ty.new _ _ _)
  have HW1 := Lib.hid hW1
  clear hW1
  go_enter Tryd.func9, Tryd.ntmps9
  go_upto_region 1 with fail
  rw [HW1.out]
  go_wp2_with fail
  go_at_call 36
  refine (sNew_any W1).mono ?_
  rintro e w2 ⟨rfl, b2⟩
  replace bw := bw.trans (b2.mono bw.size)
  replace Y := Lib.hid (Y.out.nx b2)
  have LM := lmore_any (last := 0) w2 (Lib.hid (G.out.nx bw)) (Lib.hid (stt0 w2)) (Lib.hid (HX.out.nx bw)) (by simpa using hn) SM
  have LM := Lib.hid LM
  have yl := Y.out.lt
  go_wp2_with fail
  go_at_call 35
  refine LM.out.mono ?_
  rintro e w3 ⟨LA, ln, lc, rfl, S3, NA, b3⟩
  replace bw := bw.trans (b3.mono bw.size)
  replace Y := Lib.hid (Y.out.nx b3)
  have y0 := Y.out.at_ 0 (by simp)
  have y1 := Y.out.at_ 1 (by simp)
  have y2 := Y.out.at_ 2 (by simp)
  have y3 := Y.out.at_ 3 (by simp)
  have y4 := Y.out.at_ 4 (by simp)
  simp only [List.getElem?_cons_succ, List.getElem?_cons_zero] at y0 y1 y2 y3 y4
  have f0 := Y.out.fz 0 (by simp)
  have f1 := Y.out.fz 1 (by simp)
  have f2 := Y.out.fz 2 (by simp)
  have f3 := Y.out.fz 3 (by simp)
  have f4 := Y.out.fz 4 (by simp)
  have e1 : (0 : Int) + n = n := by omega
  rw [e1] at S3 ⊢
  have Q := Lib.hid (res5_cells Y.out rfl (.slice none 0 0) (.int .i64 (-1)) (.slice none 0 0) (.slice LA ln lc) (.int .i64 (n : Int)))
  have bF := res5_below (a := .slice none 0 0) (b := .int .i64 (-1)) (c := .slice none 0 0) (d := .slice LA ln lc) (e := .int .i64 (n : Int)) bw (by omega : w.heap.size ≤ p)
  have RF := Lib.hid (rd_res5 (R := p) (a := .slice none 0 0) (b := .int .i64 (-1)) (d := .slice none 0 0) (e := .slice LA ln lc) (f := .int .i64 (n : Int)) S3.out.st.lg fun hn e => by
    rcases NA.out with ⟨h1, _⟩ | h
    · rw [h1] at e; cases e
    · have := h _ e; have := yl; omega)
  go_wp2_with fail
  obtain ⟨W9, hW9⟩ : ∃ u, (((((w3.setCell ⟨p, 0, none⟩ (.slice none 0 0)).setCell ⟨p, 1, none⟩ (.int .i64 (-1))).setCell ⟨p, 2, none⟩ (.slice none 0 0)).setCell ⟨p, 3, none⟩ (.slice LA ln lc)).setCell ⟨p, 4, none⟩ (.int .i64 (n : Int))) = u := ⟨_, rfl⟩
  rw [hW9] at Q bF RF ⊢
  have q0 := Q.out.at_ 0 (by simp)
  have q1 := Q.out.at_ 1 (by simp)
  have q2 := Q.out.at_ 2 (by simp)
  have q3 := Q.out.at_ 3 (by simp)
  have q4 := Q.out.at_ 4 (by simp)
  simp only [List.getElem?_cons_succ, List.getElem?_cons_zero] at q0 q1 q2 q3 q4
  have SF := Lib.hid (S3.out.move (fl0 W9) RF.out)
  have eN : Hid ((effs (fun _ => none) (X.map XV.t)).length = n) := Lib.hid (by rw [effs_len, List.length_map]; have := NX.out; omega)
  refine bodyPost_ret (v := .tuple #[.agg #[.slice none 0 0, .int .i64 (-1), .slice none 0 0, .slice LA ln lc, .int .i64 (n : Int)], .bool true]) (by simp [results, Tryd.results9, go_sem, q0, q1, q2, q3, q4]) rfl ?_
  refine ⟨LA, ln, lc, by rw [eN.out], by rw [eN.out]; exact SF, bF⟩
end Go.Proofs.YtpmkohnljngbhaaDoor.Sr
