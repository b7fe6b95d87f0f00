/- What the functions answer at a file that is sound. -/
import Derived.Test.YtphiblmkgbkdmaaDoorPgL3
namespace Go.Proofs.YtphiblmkgbkdmaaDoor.Pg
set_option linter.unusedVariables false
set_option linter.unusedSimpArgs false

/-- A file that is sound, with its pages in use and its entries. -/
structure Fok (F : Fi) (ps : List Nat) (es : List It) : Prop where
  shp : Shp F
  tr : Trt F.pg F.root ps es
  nd : ps.Nodup
  dj : ∀ m ∈ ps, (m : Int) ∉ F.free
  srt : Srt es
theorem Fok.rok {F : Fi} {ps : List Nat} {es : List It} (h : Fok F ps es) : ∃ s : St, Rok F.pg F.free F.root s ∧ s.2 = es ∧ s.1.Perm ps := rok_of h.tr h.nd h.dj h.srt
theorem Fok.vld {F : Fi} {ps : List Nat} {es : List It} (h : Fok F ps es) : Vld F := ⟨h.shp, by obtain ⟨s, a, _⟩ := h.rok; exact ⟨s, a⟩⟩
theorem Fok.at_ {F : Fi} {ps : List Nat} {es : List It} (h : Fok F ps es) {s : St} (k : Rok F.pg F.free F.root s) : s.2 = es ∧ s.1.Perm ps := by
  obtain ⟨t, a, b, c⟩ := h.rok
  rw [k.uniq a]; exact ⟨b, c⟩
theorem vld_fok {F : Fi} (h : Vld F) : ∃ ps es, Fok F ps es := by
  obtain ⟨hs, s, hr⟩ := h
  obtain ⟨ps, a, b, c, d, _⟩ := rok_iff hs.p256 hr
  exact ⟨ps, s.2, hs, a, b, c, d⟩
theorem Fok.items {F : Fi} {ps : List Nat} {es : List It} (h : Fok F ps es) : ∀ x ∈ es, ItOk 1 x := by
  obtain ⟨s, a, b, _⟩ := h.rok
  rw [← b]; exact (a.items h.shp.p256).ok
theorem fok_new : Fok ⟨[], -1, []⟩ [] [] := ⟨⟨by simp, by simp, by simp, by simp, frok_nil _ _⟩, .no (by decide), List.nodup_nil, by simp, List.Pairwise.nil⟩
theorem frok_nn {n : Nat} {root : Int} {l : List Int} (h : FrOk n root l) : ∃ fr : List Nat, l = nat_int fr ∧ (∀ x ∈ fr, x < n) ∧ fr.Pairwise (· < ·) := by
  refine ⟨l.map Int.toNat, ?_, fun x hx => ?_, ?_⟩
  · unfold nat_int
    rw [List.map_map]
    conv => lhs; rw [← List.map_id l]
    refine List.map_congr_left fun x hx => ?_
    obtain ⟨i, hi⟩ := List.mem_iff_getElem?.1 hx
    have := (h i x hi).1
    simp; omega
  · obtain ⟨y, hy, rfl⟩ := List.mem_map.1 hx
    obtain ⟨i, hi⟩ := List.mem_iff_getElem?.1 hy
    have := h i y hi
    omega
  · rw [List.pairwise_map]
    refine (frok_srt h).imp_of_mem fun {a b} ha hb hab => ?_
    obtain ⟨i, hi⟩ := List.mem_iff_getElem?.1 ha
    have := (h i a hi).1
    omega
theorem mem_ni {m : Nat} {fr : List Nat} : (m : Int) ∈ nat_int fr ↔ m ∈ fr := by
  unfold nat_int
  rw [List.mem_map]
  exact ⟨fun ⟨a, h1, h2⟩ => by obtain rfl : a = m := by omega
                               exact h1, fun h => ⟨m, h, rfl⟩⟩
theorem ni_frok {n : Nat} {root : Int} {fr : List Nat} (hl : ∀ x ∈ fr, x < n) (hs : fr.Pairwise (· < ·)) (hr : ∀ x ∈ fr, (x : Int) ≠ root) : FrOk n root (nat_int fr) := by
  intro i x hx
  unfold nat_int at hx ⊢
  rw [List.getElem?_map] at hx
  obtain ⟨a, ha, rfl⟩ := Option.map_eq_some_iff.1 hx
  have hm := List.mem_of_getElem? ha
  refine ⟨by omega, by have := hl a hm; omega, fun y h0 hy => ?_, hr a hm⟩
  rw [List.getElem?_map] at hy
  obtain ⟨b, hb, rfl⟩ := Option.map_eq_some_iff.1 hy
  obtain ⟨h1, rfl⟩ := List.getElem?_eq_some_iff.1 ha
  obtain ⟨h2, rfl⟩ := List.getElem?_eq_some_iff.1 hb
  have := List.pairwise_iff_getElem.1 hs (i - 1) i h2 h1 (by omega)
  omega
theorem Fok.inv {F : Fi} {ps : List Nat} {es : List It} (h : Fok F ps es) {fr : List Nat} (hf : F.free = nat_int fr) : Inv ⟨F.pg, fr, false⟩ ps := by
  have hlt : ∀ m ∈ ps, m < F.pg.length := by
    intro m hm
    cases h.tr with
    | no => simp at hm
    | yes _ _ _ ht => exact ht.lt m hm
  obtain ⟨fr', hf', h1, h2⟩ := frok_nn h.shp.fr
  obtain rfl : fr = fr' := by
    rw [hf] at hf'
    unfold nat_int at hf'
    exact (List.map_inj_right (fun a b h => by omega)).1 hf'
  exact ⟨h.shp.n4, h.shp.p256, h.nd, fun m hm => ⟨hlt m hm, fun h2 => h.dj m hm (by rw [hf]; exact mem_ni.2 h2)⟩, h2, h1, rfl⟩
/-- What a change leaves. -/
structure Chd (F G : Fi) (n : Nat) : Prop where
  le : F.pg.length ≤ G.pg.length
  up : G.pg.length ≤ F.pg.length + 2 * n
  pg : ∀ m, m < F.pg.length → (m : Int) ∉ F.free → G.pg.getD m [] = F.pg.getD m []
  fr : ∀ x ∈ G.free, x ∈ F.free
theorem out_law {F : Fi} {fr : List Nat} {es : List It} {a : List It × Ws} {ps : List Nat} (hf : F.free = nat_int fr) (ha : StoT ⟨F.pg, fr, false⟩ [] [] es a ps) (hk : ∀ x ∈ a.1, ItOk 2 x) (hl : a.1.length ≤ 1001) (hs : Srt es) (he : Ext ⟨F.pg, fr, false⟩ a.2)
    (hr : F.pg.length + 2 * es.length ≤ 4096) : (dnF 1000 a.1 a.2).2.full = false ∧ (∃ qs, Fok (outF a) qs es) ∧ Chd F (outF a) es.length := by
  have up := ha.up
  simp only [List.length_nil] at up
  obtain ⟨qs, b, c⟩ := dnF_tr (f := 1000) (l := a.1) (s := a.2) (R := []) (ps := ps) hl hk ha.inv ha.tr (by omega)
  have up2 := b.up
  have cnt := b.tr.cnt
  have ext := he.trans (dnF_ext (f := 1000) (l := a.1) (s := a.2))
  have hi := b.inv
  rw [List.append_nil] at hi
  refine ⟨hi.ff, ⟨qs, ?_⟩, ext.le, by show (dnF 1000 a.1 a.2).2.pg.length ≤ _; omega, fun m h1 h2 => ext.pg m h1 (fun h3 => h2 (by rw [hf]; exact mem_ni.2 h3)), fun x hx => ?_⟩
  · have htr : Trt (dnF 1000 a.1 a.2).2.pg (rootOf (dnF 1000 a.1 a.2).1) qs es ∧ -1 ≤ rootOf (dnF 1000 a.1 a.2).1 ∧ rootOf (dnF 1000 a.1 a.2).1 < (dnF 1000 a.1 a.2).2.pg.length ∧ (∀ m : Nat, rootOf (dnF 1000 a.1 a.2).1 = (m : Int) → m ∈ qs) := by
      have ht := b.tr
      rcases hd : (dnF 1000 a.1 a.2).1 with _ | ⟨x, _ | ⟨y, l⟩⟩
      · rw [hd] at ht
        cases ht
        exact ⟨.no (by decide), by decide, by simp only [rootOf]; omega, fun m h => by simp only [rootOf] at h; omega⟩
      · rw [hd] at ht
        have ht := ht.one.1
        have := ht.lt _ ht.ps_pos
        refine ⟨.yes _ _ (by simp [rootOf]) (by simpa [rootOf] using ht), by simp only [rootOf]; omega, by simp only [rootOf]; omega, fun m h => ?_⟩
        simp only [rootOf] at h
        obtain rfl : x.ch = m := by omega
        exact ht.ps_pos
      · rw [hd] at c; simp at c
    obtain ⟨t1, t2, t3, t4⟩ := htr
    exact ⟨⟨hi.n4, t2, t3, hi.p256, ni_frok hi.fl hi.fs fun x hx e => (hi.ul x (t4 x e.symm)).2 hx⟩, t1, hi.nd, fun m hm h2 => (hi.ul m hm).2 (mem_ni.1 h2), hs⟩
  · unfold outF nat_int at hx
    obtain ⟨y, hy, rfl⟩ := List.mem_map.1 hx
    rw [hf]
    exact mem_ni.2 (ext.fr y hy)
theorem fok_pok {F : Fi} (h : Vld F) (hr : ¬ F.root < 0) (key : List UInt8) : Pok F.pg key (F.pg.length + 1) F.root.toNat := by
  obtain ⟨hs, s, hr2⟩ := h
  cases hr2 with
  | no h => exact absurd h hr
  | yes _ _ hv hs2 => exact vis_pok hs.p256 key hv hs2
theorem item_ok {key value : List UInt8} (h : lenKV key value) : ItOk 1 (⟨key, value, 0⟩ : It) := ⟨h.1, h.2.1, h.2.2, fun _ => rfl, fun e => absurd rfl e⟩
theorem put_law {F G : Fi} {ps : List Nat} {es : List It} {key value : List UInt8} {er : Int} (h : Fok F ps es) (hl : lenKV key value) (hr : F.pg.length + 2 * (upd es key [⟨key, value, 0⟩]).length ≤ 4096) (ho : PutO F key value G er) :
    er = 0 ∧ (∃ qs, Fok G qs (upd es key [⟨key, value, 0⟩])) ∧ Chd F G (upd es key [⟨key, value, 0⟩]).length := by
  have hb : ∀ x ∈ [(⟨key, value, 0⟩ : It)], ItOk 1 x := fun x hx => by obtain rfl : x = _ := by simpa using hx
                                                                       exact item_ok hl
  have main : ∀ fr : List Nat, F.free = nat_int fr → (dnF 1000 (putA F fr key value).1 (putA F fr key value).2).2.full = false ∧ (∃ qs, Fok (outF (putA F fr key value)) qs (upd es key [⟨key, value, 0⟩])) ∧ Chd F (outF (putA F fr key value)) (upd es key [⟨key, value, 0⟩]).length := by
    intro fr hf
    have hi := h.inv hf
    have hsr : Srt (upd es key [⟨key, value, 0⟩]) := upd_srt h.srt key (fun x hx => by rw [List.mem_singleton.1 hx]) (by simp)
    cases h.tr with
    | no hneg =>
      have e : upd [] key [⟨key, value, 0⟩] = [⟨key, value, 0⟩] := rfl
      rw [e] at hr hsr ⊢
      have ea : putA F fr key value = stoF 1 [⟨key, value, 0⟩] ⟨F.pg, fr, false⟩ := by unfold putA; rw [if_pos hneg]
      rw [ea]
      obtain ⟨q, a⟩ := sto1_tr (f := 2) (l := [(⟨key, value, 0⟩ : It)]) (s := ⟨F.pg, fr, false⟩) (R := []) (by simp) hb hi hr
      refine out_law hf a (sto_ok hi.ok hb).1 ?_ hsr sto_ext hr
      have := (sto_len (kind := 1) (f := 2) (s := ⟨F.pg, fr, false⟩) hb).1
      exact Nat.le_trans this (by simp)
    | yes _ _ hpos ht =>
      have ea : putA F fr key value = chg key [⟨key, value, 0⟩] (F.pg.length + 1) F.root.toNat ⟨F.pg, fr, false⟩ := by unfold putA; rw [if_neg (by omega)]
      rw [ea]
      obtain ⟨q, a, b⟩ := chg_tr (key := key) hb (k := F.pg.length + 1) (s := ⟨F.pg, fr, false⟩) (R := []) (by have := nodup_le h.nd ht.lt; omega) ht h.srt (by rw [List.append_nil]; exact hi) hr
      have c := (chg_ok (key := key) hb (by simp) (fok_pok h.vld (by omega) key) hi.ok).2.2
      exact out_law hf a b (by omega) hsr chg_ext hr
  cases ho with
  | arg hn => exact absurd hl hn
  | log _ hn => exact absurd h.vld hn
  | full fr hf _ _ hfull => have := (main fr hf).1; rw [hfull] at this; cases this
  | ok fr hf _ _ _ => exact ⟨rfl, (main fr hf).2⟩
theorem lkp_upd {es : List It} (hs : Srt es) {key : List UInt8} : lkp es key = none ↔ fd es key = false := by
  unfold lkp fd
  rw [Option.map_eq_none_iff, List.find?_eq_none, List.any_eq_false]
theorem fnd_law {F : Fi} {es : List It} {root : Int} {key d : List UInt8} {er : Int} (h : ∃ s : St, Rok F.pg F.free root s ∧ s.2 = es) (ho : FndO F root key d er) : (lkp es key = none ∧ d = [] ∧ er = 7) ∨ (lkp es key = some d ∧ er = 0) := by
  obtain ⟨s, hr, rfl⟩ := h
  cases ho with
  | bad hn => exact absurd hr (hn s)
  | none t ht hn => rw [ht.uniq hr] at hn; exact .inl ⟨hn, rfl, rfl⟩
  | some t _ ht hn => rw [ht.uniq hr] at hn; exact .inr ⟨hn, rfl⟩
theorem get_law {F : Fi} {ps : List Nat} {es : List It} {key d : List UInt8} {er : Int} (h : Fok F ps es) (ho : GetO F key d er) : (¬ lenK key ∧ d = [] ∧ er = 1) ∨ (lenK key ∧ lkp es key = none ∧ d = [] ∧ er = 7) ∨ (lenK key ∧ lkp es key = some d ∧ er = 0) := by
  cases ho with
  | arg hn => exact .inl ⟨hn, rfl, rfl⟩
  | log _ hn => exact absurd h.shp hn
  | get hl _ _ _ hf =>
    obtain ⟨s, a, b, _⟩ := h.rok
    rcases fnd_law ⟨s, a, b⟩ hf with ⟨h1, h2, h3⟩ | ⟨h1, h2⟩
    · exact .inr (.inl ⟨hl, h1, h2, h3⟩)
    · exact .inr (.inr ⟨hl, h1, h2⟩)
theorem del_law {F G : Fi} {ps : List Nat} {es : List It} {key : List UInt8} {er : Int} (h : Fok F ps es) (hl : lenK key) (hr : F.pg.length + 2 * es.length ≤ 4096) (ho : DelO F key G er) :
    (lkp es key = none ∧ G = zeroF ∧ er = 7) ∨ ((∃ v, lkp es key = some v) ∧ er = 0 ∧ (∃ qs, Fok G qs (upd es key [])) ∧ Chd F G (upd es key []).length) := by
  have hul := upd_len es key []
  simp only [List.length_nil] at hul
  have main : ∀ fr : List Nat, F.free = nat_int fr → (∃ v, lkp es key = some v) → (dnF 1000 (delA F fr key).1 (delA F fr key).2).2.full = false ∧ (∃ qs, Fok (outF (delA F fr key)) qs (upd es key [])) ∧ Chd F (outF (delA F fr key)) (upd es key []).length := by
    intro fr hf ⟨v, hv⟩
    have hi := h.inv hf
    have hsr : Srt (upd es key []) := upd_srt h.srt key (by simp) (by simp)
    cases h.tr with
    | no hneg => cases hv
    | yes _ _ hpos ht =>
      have ea : delA F fr key = chg key [] (F.pg.length + 1) F.root.toNat ⟨F.pg, fr, false⟩ := rfl
      rw [ea]
      obtain ⟨q, a, b⟩ := chg_tr (key := key) (bl := []) (by simp) (k := F.pg.length + 1) (s := ⟨F.pg, fr, false⟩) (R := []) (by have := nodup_le h.nd ht.lt; omega) ht h.srt (by rw [List.append_nil]; exact hi) (by show F.pg.length + _ ≤ _; omega)
      have c := (chg_ok (key := key) (bl := []) (by simp) (by simp) (fok_pok h.vld (by omega) key) hi.ok).2.2
      exact out_law hf a b (by omega) hsr chg_ext (by omega)
  have nope : ∀ d e, GetO F key d e → (lkp es key = none ∧ e = 7) ∨ ((∃ v, lkp es key = some v) ∧ e = 0) := by
    intro d e hg
    rcases get_law h hg with ⟨h1, _⟩ | ⟨_, h1, _, h2⟩ | ⟨_, h1, h2⟩
    · exact absurd hl h1
    · exact .inl ⟨h1, h2⟩
    · exact .inr ⟨⟨_, h1⟩, h2⟩
  cases ho with
  | err d _ hg he =>
    rcases nope d er hg with ⟨h1, h2⟩ | ⟨_, h2⟩
    · exact .inl ⟨h1, rfl, h2⟩
    · exact absurd h2 he
  | full fr hf d hg hfull =>
    rcases nope d 0 hg with ⟨_, h2⟩ | ⟨h1, _⟩
    · cases h2
    · have := (main fr hf h1).1; rw [hfull] at this; cases this
  | ok fr hf d hg _ =>
    rcases nope d 0 hg with ⟨_, h2⟩ | ⟨h1, _⟩
    · cases h2
    · exact .inr ⟨h1, rfl, (main fr hf h1).2⟩
end Go.Proofs.YtphiblmkgbkdmaaDoor.Pg
