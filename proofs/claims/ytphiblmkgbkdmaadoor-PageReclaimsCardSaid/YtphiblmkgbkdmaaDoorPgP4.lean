/- What Put and Delete answer. -/
import Derived.Test.YtphiblmkgbkdmaaDoorPgP3
import Derived.Test.YtphiblmkgbkdmaaDoorPgT2
namespace Go.Proofs.YtphiblmkgbkdmaaDoor.Pg
set_option linter.unusedVariables false
set_option linter.unusedSimpArgs false

theorem Srt.left {a b : List It} (h : Srt (a ++ b)) : Srt a := (List.pairwise_append.1 h).1
theorem Srt.right {a b : List It} (h : Srt (a ++ b)) : Srt b := (List.pairwise_append.1 h).2.1
theorem visL_at {v : Nat → St → Option St} (hm : ∀ n s s', v n s = some s' → s.2.length < s'.2.length) (hp : ∀ n s s', v n s = some s' → s.2 <+: s'.2) {l : List It} : ∀ {s s' : St}, visL v l s = some s' → s.2 <+: s'.2 ∧ ∀ y ∈ l, ∃ j z, s.2.length ≤ j ∧ s'.2[j]? = some z ∧ z.k = y.k := by
  induction l with
  | nil =>
    intro s s' h
    have : s = s' := by simpa [visL] using h
    subst this
    exact ⟨List.prefix_refl _, by simp⟩
  | cons x l ih =>
    intro s s' h
    simp only [visL] at h
    rcases hy : v x.ch s with _ | t
    · rw [hy] at h; cases h
    · rw [hy] at h
      dsimp only at h
      split at h
      · rename_i hk
        have h1 := hp _ _ _ hy
        have h2 := hm _ _ _ hy
        obtain ⟨h3, h4⟩ := ih h
        refine ⟨h1.trans h3, fun y hy => ?_⟩
        rcases List.mem_cons.1 hy with rfl | hy
        · have hz : t.2[s.2.length]? = some (t.2[s.2.length]'h2) := List.getElem?_eq_getElem h2
          refine ⟨s.2.length, _, Nat.le_refl _, (?_ : s'.2[s.2.length]? = some (t.2[s.2.length]'h2)), ?_⟩
          · obtain ⟨m, hm'⟩ := h3
            rw [← hm', List.getElem?_append_left h2]; exact hz
          · rw [hz] at hk; injection hk
        · obtain ⟨j, z, a, b, c⟩ := h4 y hy
          exact ⟨j, z, by omega, b, c⟩
      · cases h
theorem visL_srt {v : Nat → St → Option St} (hm : ∀ n s s', v n s = some s' → s.2.length < s'.2.length) (hp : ∀ n s s', v n s = some s' → s.2 <+: s'.2) {l : List It} : ∀ {s s' : St}, visL v l s = some s' → Srt s'.2 → Srt l ∧ ∀ x ∈ l, ∃ t t', v x.ch t = some t' ∧ Srt t'.2 := by
  induction l with
  | nil => intro s s' _ _; exact ⟨List.Pairwise.nil, by simp⟩
  | cons x l ih =>
    intro s s' h hs
    simp only [visL] at h
    rcases hy : v x.ch s with _ | t
    · rw [hy] at h; cases h
    · rw [hy] at h
      dsimp only at h
      split at h
      · rename_i hk
        have h2 := hm _ _ _ hy
        obtain ⟨a, b⟩ := ih h hs
        obtain ⟨c, d⟩ := visL_at hm hp h
        have hz : t.2[s.2.length]? = some (t.2[s.2.length]'h2) := List.getElem?_eq_getElem h2
        have hz2 : s'.2[s.2.length]? = some (t.2[s.2.length]'h2) := by
          obtain ⟨m, hm'⟩ := c
          rw [← hm', List.getElem?_append_left h2]; exact hz
        have hzk : (t.2[s.2.length]'h2).k = x.k := by rw [hz] at hk; injection hk
        refine ⟨List.pairwise_cons.2 ⟨fun y hy => ?_, a⟩, fun y hy => ?_⟩
        · obtain ⟨j, z, e1, e2, e3⟩ := d y hy
          have := hs.at_ hz2 e2 (by omega)
          rwa [hzk, e3] at this
        · rcases List.mem_cons.1 hy with rfl | hy
          · obtain ⟨m, hm'⟩ := c
            exact ⟨s, t, by assumption, by rw [← hm'] at hs; exact hs.left⟩
          · exact b y hy
      · cases h
theorem vis_pre {pg : List (List UInt8)} {fr : List Int} : ∀ {k n : Nat} {s s' : St}, vis pg fr k n s = some s' → s.2 <+: s'.2
  | 0, n, s, s', h => by cases h
  | k + 1, n, s, s', h => by
    unfold vis at h
    split at h
    · rcases hd : dec (pg.getD n []) with _ | ⟨kd, l⟩
      · rw [hd] at h; cases h
      · rw [hd] at h
        dsimp only at h
        split at h
        · injection h with h; subst h; exact List.prefix_append _ _
        · have := (visL_at (fun n s s' h => vis_more h) (fun n s s' h => vis_pre h) h).1
          exact this
    · cases h
theorem vis_pok {pg : List (List UInt8)} {fr : List Int} (h256 : ∀ p ∈ pg, p.length = 256) (key : List UInt8) : ∀ {k n : Nat} {s s' : St}, vis pg fr k n s = some s' → Srt s'.2 → Pok pg key k n
  | 0, n, s, s', h, _ => by cases h
  | k + 1, n, s, s', h, hs => by
    unfold vis at h
    split at h
    · rename_i hc
      have hg : pg.getD n [] = pg[n]'hc.1 := by rw [List.getD_eq_getElem?_getD, List.getElem?_eq_getElem hc.1]; rfl
      rcases hd : dec (pg.getD n []) with _ | ⟨kd, l⟩
      · rw [hd] at h; cases h
      · rw [hd] at h
        dsimp only at h
        have ok := dec_ok (h256 _ (hg ▸ List.getElem_mem hc.1)) hd
        split at h
        · rename_i hk
          injection h with h; subst h
          exact ⟨hc.1, kd, l, hd, ok, hs.right, fun e => by omega⟩
        · obtain ⟨a, b⟩ := visL_srt (fun n s s' h => vis_more h) (fun n s s' h => vis_pre h) h hs
          refine ⟨hc.1, kd, l, hd, ok, a, fun _ x hx => ?_⟩
          obtain ⟨t, t', h1, h2⟩ := b x (List.mem_of_getElem? hx)
          exact vis_pok h256 key h1 h2
    · cases h
def zeroF : Fi := ⟨[], 0, []⟩
def nat_int (fr : List Nat) : List Int := fr.map fun (x : Nat) => (x : Int)
def putA (F : Fi) (fr : List Nat) (key value : List UInt8) : List It × Ws :=
  if F.root < 0 then stoF 1 [⟨key, value, 0⟩] ⟨F.pg, fr, false⟩ else chg key [⟨key, value, 0⟩] (F.pg.length + 1) F.root.toNat ⟨F.pg, fr, false⟩
def delA (F : Fi) (fr : List Nat) (key : List UInt8) : List It × Ws := chg key [] (F.pg.length + 1) F.root.toNat ⟨F.pg, fr, false⟩
def lenKV (key value : List UInt8) : Prop := 1 ≤ key.length ∧ key.length ≤ 40 ∧ value.length ≤ 120
/-- The file behind a change. -/
def outF (a : List It × Ws) : Fi := ⟨(dnF 1000 a.1 a.2).2.pg, rootOf (dnF 1000 a.1 a.2).1, nat_int (dnF 1000 a.1 a.2).2.fr⟩
inductive PutO (F : Fi) (key value : List UInt8) : Fi → Int → Prop
  | arg (h : ¬ lenKV key value) : PutO F key value zeroF 1
  | log (h : lenKV key value) (hv : ¬ Vld F) : PutO F key value zeroF 16
  | full (fr : List Nat) (hfr : F.free = nat_int fr) (h : lenKV key value) (hv : Vld F) (hf : (dnF 1000 (putA F fr key value).1 (putA F fr key value).2).2.full = true) : PutO F key value zeroF 5
  | ok (fr : List Nat) (hfr : F.free = nat_int fr) (h : lenKV key value) (hv : Vld F) (hf : (dnF 1000 (putA F fr key value).1 (putA F fr key value).2).2.full = false) : PutO F key value (outF (putA F fr key value)) 0
inductive DelO (F : Fi) (key : List UInt8) : Fi → Int → Prop
  | err (d : List UInt8) (er : Int) (h : GetO F key d er) (he : er ≠ 0) : DelO F key zeroF er
  | full (fr : List Nat) (hfr : F.free = nat_int fr) (d : List UInt8) (h : GetO F key d 0) (hf : (dnF 1000 (delA F fr key).1 (delA F fr key).2).2.full = true) : DelO F key zeroF 5
  | ok (fr : List Nat) (hfr : F.free = nat_int fr) (d : List UInt8) (h : GetO F key d 0) (hf : (dnF 1000 (delA F fr key).1 (delA F fr key).2).2.full = false) : DelO F key (outF (delA F fr key)) 0
end Go.Proofs.YtphiblmkgbkdmaaDoor.Pg
