/- Stores that were made by transactions. -/
import Derived.Test.YtpmkohnljngbhaaDoorSrW11
import Derived.Test.YtpmkohnljngbhaaDoorSrC1
namespace Go.Proofs.YtpmkohnljngbhaaDoor.Sr
set_option linter.unusedVariables false
set_option linter.unusedSimpArgs false
set_option maxRecDepth 1000000
open Go.RowKit Wl Pg

/-- A store whose log is that of some transactions, behind a file with entries b. -/
structure Stt (w : World) (f : FV) (b : Ent) (t0 : Int) (Ts : List (List Ch)) (PA : Option Addr) (np pc : Nat) (r0 : Int) (FA : Option Addr) (m fc : Nat) (LA : Option Addr) (ln lc : Nat) (last : Int) : Prop where
  st : Sto w f (logL t0 Ts) PA np pc r0 FA m fc LA ln lc
  e : Fent f.f b
  t1 : 1 ≤ t0
  t2 : t0 ≤ 1000
  ok : ∀ cs ∈ Ts, okT cs ∧ cs.length ≤ 12
  n : Ts.length ≤ 20
  la : last = t0 - 1 + Ts.length
theorem encs_len_le (k : Nat) : ∀ l : List Rec, (∀ r ∈ l, r.d.length ≤ k) → (encs l).length ≤ l.length * (21 + k)
  | [], _ => by simp [encs]
  | r :: l, h => by
    have h1 := encs_len_le k l fun x hx => h x (by simp [hx])
    have h2 := h r (by simp)
    rw [encs_cons, List.length_append, Wl.enc_len, List.length_cons, Nat.add_mul]
    omega
theorem recT_len {t : Int} {cs : List Ch} (h : okT cs) : (encs (recT t cs)).length ≤ (cs.length + 1) * 182 := by
  have := encs_len_le 161 (recT t cs) fun r hr => by
    rcases List.mem_append.1 hr with hr | hr
    · obtain ⟨c, hc, rfl⟩ := List.mem_map.1 hr
      exact recC_len (h c hc)
    · obtain rfl := List.mem_singleton.1 hr
      simp
  simpa [recT] using this
theorem logL_len {t : Int} {Ts : List (List Ch)} : (∀ cs ∈ Ts, okT cs ∧ cs.length ≤ 12) → (logL t Ts).length ≤ Ts.length * 2366 := by
  refine snoc_ind (P := fun Ts => (∀ cs ∈ Ts, okT cs ∧ cs.length ≤ 12) → (logL t Ts).length ≤ Ts.length * 2366) ?_ ?_ Ts
  · intro _; simp [logL, recL, encs]
  · intro L cs ih h
    have h1 := ih fun x hx => h x (by simp [hx])
    have h2 := h cs (by simp)
    have h3 := recT_len (t := t + L.length) h2.1
    rw [logL_snoc, List.length_append, List.length_append, List.length_singleton]
    omega
section
variable {w w' : World} {f : FV} {b : Ent} {t0 : Int} {Ts : List (List Ch)} {PA FA LA A K : Option Addr} {np pc m fc ln lc n c kn kc : Nat} {r0 last : Int} {l : List CV} {key : List UInt8}
theorem Stt.nx (h : Stt w f b t0 Ts PA np pc r0 FA m fc LA ln lc last) (k : Below w.heap.size w w') : Stt w' f b t0 Ts PA np pc r0 FA m fc LA ln lc last := ⟨h.st.nx k, h.e, h.t1, h.t2, h.ok, h.n, h.la⟩
theorem Stt.move (h : Stt w f b t0 Ts PA np pc r0 FA m fc LA ln lc last) (hf : Fl w' f) (hl : Rd w' 1 LA ln lc (bv (logL t0 Ts))) : Stt w' f b t0 Ts PA np pc r0 FA m fc LA ln lc last := ⟨⟨h.st.cs, hf, h.st.ll, hl, h.st.l2⟩, h.e, h.t1, h.t2, h.ok, h.n, h.la⟩
theorem Stt.tr (h : Stt w f b t0 Ts PA np pc r0 FA m fc LA ln lc last) : trx (logL t0 Ts) last = some Ts := by
  have h1 := h.t1
  have h2 := h.t2
  have h3 := h.n
  rw [h.la]; exact trx_log (fun cs hc => (h.ok cs hc).1) h.t1 (by omega)
theorem Stt.l0 (h : Stt w f b t0 Ts PA np pc r0 FA m fc LA ln lc last) : 0 ≤ last ∧ last ≤ 1019 := by
  have h1 := h.t1
  have h2 := h.t2
  have h3 := h.n
  have h4 := h.la
  omega
theorem Stt.svd (h : Stt w f b t0 Ts PA np pc r0 FA m fc LA ln lc last) : Svd f (logL t0 Ts) last := ⟨h.l0.1, by have := h.l0.2; omega, h.e.vld, _, h.tr⟩
theorem Stt.read (h : Hid (Stt w f b t0 Ts PA np pc r0 FA m fc LA ln lc last)) (G : Hid (Gl w)) (hk : Hid (Rd w 1 K kn kc (bv key))) :
    Calls Tryd.prog 13 #[.agg #[.slice PA np pc, .int .i64 r0, .slice FA m fc, .slice LA ln lc, .int .i64 last], .slice K kn kc] w (RdPost w key (app b Ts.flatten key)) :=
  sRead_any w G (Lib.hid h.out.st) (Lib.hid h.out.e) h.out.l0.1 (by have := h.out.l0.2; omega) (Lib.hid h.out.tr) hk
theorem Stt.begin_ (h : Hid (Stt w f b t0 Ts PA np pc r0 FA m fc LA ln lc last)) (G : Hid (Gl w)) :
    Calls Tryd.prog 17 #[.agg #[.slice PA np pc, .int .i64 r0, .slice FA m fc, .slice LA ln lc, .int .i64 last]] w fun e w' => e = .returned (.tuple #[.agg #[.slice PA np pc, .int .i64 r0, .slice FA m fc, .slice LA ln lc, .int .i64 last, .slice none 0 0], .int .i64 0]) ∧ Below w.heap.size w w' :=
  (sBegin_any w G (Lib.hid h.out.st)).mono fun e w' ⟨h1, h2⟩ => by
    rcases h1 with ⟨_, h1⟩ | ⟨h1, _⟩
    · exact ⟨h1, h2⟩
    · exact absurd h.out.svd h1
theorem Stt.wvd (h : Stt w f b t0 Ts PA np pc r0 FA m fc LA ln lc last) (hl : l.length ≤ 100) (ho : ∀ x ∈ l, x.ch.ok = true) : Wvd f (logL t0 Ts) last l := ⟨hl, h.svd, ho⟩
theorem Stt.valid (h : Hid (Stt w f b t0 Ts PA np pc r0 FA m fc LA ln lc last)) (G : Hid (Gl w)) :
    Calls Tryd.prog 10 #[.agg #[.slice PA np pc, .int .i64 r0, .slice FA m fc, .slice LA ln lc, .int .i64 last]] w fun e w' => e = .returned (.bool true) ∧ Below w.heap.size w w' :=
  (sValid_any w G (Lib.hid h.out.st)).mono fun e w' ⟨b, h1, h2, h3⟩ => ⟨by rw [h1, h2.2 h.out.svd], h3⟩
theorem Stt.commit (h : Hid (Stt w f b t0 Ts PA np pc r0 FA m fc LA ln lc last)) (G : Hid (Gl w)) (C : Hid (Cr w A n c l)) (hn : n ≤ 12) (ho : Hid (∀ x ∈ l, x.ch.ok = true)) (hT : Ts.length < 20) :
    Calls Tryd.prog 22 #[.agg #[.slice PA np pc, .int .i64 r0, .slice FA m fc, .slice LA ln lc, .int .i64 last, .slice A n c]] w fun e w' => ∃ (LA' : Option Addr) (ln' lc' : Nat), e = .returned (.tuple #[.agg #[.slice PA np pc, .int .i64 r0, .slice FA m fc, .slice LA' ln' lc', .int .i64 (last + 1)], .int .i64 0]) ∧
      Hid (Stt w' f b t0 (Ts ++ [l.map CV.ch]) PA np pc r0 FA m fc LA' ln' lc' (last + 1)) ∧ Hid (w'.ownsRow w.heap.size 5 1 (.slice LA' ln' lc') ln' (bv (logL t0 (Ts ++ [l.map CV.ch])))) ∧ Below w.heap.size w w' := by
  have NL := C.out.len
  have okC : okT (l.map CV.ch) := fun c hc => by obtain ⟨x, hx, rfl⟩ := List.mem_map.1 hc; exact ho.out x hx
  have hcm : cmLog (logL t0 Ts) last l = logL t0 (Ts ++ [l.map CV.ch]) := by
    unfold cmLog
    rw [logL_snoc, h.out.la]
    congr 3; omega
  have okA : ∀ cs ∈ Ts ++ [l.map CV.ch], okT cs ∧ cs.length ≤ 12 := fun cs hc => by
    rcases List.mem_append.1 hc with hc | hc
    · exact h.out.ok cs hc
    · obtain rfl := List.mem_singleton.1 hc
      exact ⟨okC, by rw [List.length_map]; omega⟩
  have hll := logL_len (t := t0) okA
  have h4 : (Ts ++ [l.map CV.ch]).length ≤ 20 := by rw [List.length_append, List.length_singleton]; omega
  have V := Lib.hid (h.out.wvd (l := l) (by omega) ho.out)
  have H := sCommit_ok w G (Lib.hid h.out.st) C V (by have := h.out.l0.2; omega) (Lib.hid (by rw [hcm]; omega))
  refine H.mono ?_
  rintro e w' ⟨LA', ln', lc', he, h1, h2, h3⟩
  rw [hcm] at h1 h2
  refine ⟨LA', ln', lc', he, Lib.hid ⟨⟨h.out.st.cs, h.out.st.fl.below h3, h1.out, Rd.of_own h2.out, by have := h1.out; omega⟩, h.out.e, h.out.t1, h.out.t2, okA, h4, ?_⟩, h2, h3⟩
  rw [h.out.la, List.length_append, List.length_singleton]; omega
end
end Go.Proofs.YtpmkohnljngbhaaDoor.Sr
