/- What one step of a script leaves, plainly. -/
import Derived.Test.YtpmkohnljngbhaaGreatDoorPgLb
namespace Go.Proofs.YtpmkohnljngbhaaGreatDoor.Pg
set_option linter.unusedVariables false
set_option linter.unusedSimpArgs false
set_option maxRecDepth 1000000

/-- What a change leaves of a file. -/
structure Stp (F G : Fi) : Prop where
  le : F.pg.length ≤ G.pg.length
  pg : ∀ m, m < F.pg.length → (m : Int) ∉ F.free → G.pg.getD m [] = F.pg.getD m []
  fr : ∀ x ∈ G.free, x ∈ F.free
  shp : Shp G
/-- What Reclaim without other roots answers. -/
structure Rcl (F G : Fi) : Prop where
  pg : G.pg = F.pg
  root : G.root = F.root
  fr : ∀ s : St, Rok F.pg F.free F.root s → G.free = nat_int ((List.range F.pg.length).filter fun m => decide (m ∉ s.1))
/-- A step of a script. -/
structure Nx (F G : Fi) (es : List It) (o : Op) (j : Nat) : Prop where
  sok : Sok G (nxt es o) (j + 1)
  stp : o.kd = 0 ∨ o.kd = 1 → Stp F G
theorem Stp.refl {F : Fi} (h : Shp F) : Stp F F := ⟨Nat.le_refl _, fun _ _ _ => rfl, fun _ h => h, h⟩
theorem Chd.stp {F G : Fi} {n : Nat} (h : Chd F G n) (hs : Shp G) : Stp F G := ⟨h.le, h.pg, h.fr, hs⟩
theorem Sok.shp {F : Fi} {es : List It} {j : Nat} (h : Sok F es j) : Shp F := by obtain ⟨ps, hf⟩ := h.ok; exact hf.shp
theorem Sok.srt {F : Fi} {es : List It} {j : Nat} (h : Sok F es j) : Srt es := by obtain ⟨ps, hf⟩ := h.ok; exact hf.srt
theorem Sok.vld {F : Fi} {es : List It} {j : Nat} (h : Sok F es j) : Vld F := by obtain ⟨ps, hf⟩ := h.ok; exact hf.vld
theorem nx_keep {F : Fi} {es : List It} {o : Op} {j : Nat} (h : Sok F es j) (e : nxt es o = es) : Nx F F es o j := ⟨by rw [e]; exact h.same, fun _ => .refl h.shp⟩
section
variable {F G : Fi} {es : List It} {j : Nat} {k v : List UInt8} {er : Int}
theorem nx_put_no (h : Sok F es j) (hl : ¬ lenKV k v) (ho : PutO F k v G er) : er = 1 ∧ G = zeroF ∧ Nx F F es ⟨0, k, v⟩ j := by
  have e : nxt es ⟨0, k, v⟩ = es := by unfold nxt; rw [if_pos rfl, if_neg hl]
  cases ho with
  | arg _ => exact ⟨rfl, rfl, nx_keep h e⟩
  | log h' _ => exact absurd h' hl
  | full _ _ h' _ _ => exact absurd h' hl
  | ok _ _ h' _ _ => exact absurd h' hl
theorem nx_put (h : Sok F es j) (hj : j ≤ 61) (hl : lenKV k v) (ho : PutO F k v G er) : er = 0 ∧ Nx F G es ⟨0, k, v⟩ j ∧ nxt es ⟨0, k, v⟩ = upd es k [⟨k, v, 0⟩] := by
  have e : nxt es ⟨0, k, v⟩ = upd es k [⟨k, v, 0⟩] := by unfold nxt; rw [if_pos rfl, if_pos hl]
  obtain ⟨a, b, c⟩ := put_sok h hj hl ho
  exact ⟨a, ⟨by rw [e]; exact b, fun _ => c.stp b.shp⟩, e⟩
theorem nx_del_no (h : Sok F es j) (hl : ¬ lenK k) (ho : DelO F k G er) : er = 1 ∧ G = zeroF ∧ Nx F F es ⟨1, k, v⟩ j := by
  have e : nxt es ⟨1, k, v⟩ = es := by unfold nxt; rw [if_neg (show ¬ (1 : Int) = 0 by decide), if_pos rfl, if_neg (fun h => hl h.1)]
  obtain ⟨ps, hf⟩ := h.ok
  cases ho with
  | err d er hg he =>
    rcases get_law hf hg with ⟨_, _, h3⟩ | ⟨h1, _⟩ | ⟨h1, _⟩
    · exact ⟨h3, rfl, nx_keep h e⟩
    · exact absurd h1 hl
    · exact absurd h1 hl
  | full _ _ d hg _ =>
    rcases get_law hf hg with ⟨_, _, h3⟩ | ⟨h1, _⟩ | ⟨h1, _⟩
    · exact absurd h3 (by decide)
    · exact absurd h1 hl
    · exact absurd h1 hl
  | ok _ _ d hg _ =>
    rcases get_law hf hg with ⟨_, _, h3⟩ | ⟨h1, _⟩ | ⟨h1, _⟩
    · exact absurd h3 (by decide)
    · exact absurd h1 hl
    · exact absurd h1 hl
theorem nx_del_none (h : Sok F es j) (hj : j ≤ 61) (hl : lenK k) (hn : fd es k = false) (ho : DelO F k G er) : er = 7 ∧ G = zeroF ∧ Nx F F es ⟨1, k, v⟩ j := by
  have hn := (lkp_upd h.srt).2 hn
  have e : nxt es ⟨1, k, v⟩ = es := by unfold nxt; rw [if_neg (show ¬ (1 : Int) = 0 by decide), if_pos rfl, if_neg (fun h => h.2 hn)]
  rcases del_sok h hj hl ho with ⟨_, h2, h3⟩ | ⟨⟨w, h1⟩, _⟩
  · exact ⟨h3, h2, nx_keep h e⟩
  · rw [hn] at h1; cases h1
theorem nx_del (h : Sok F es j) (hj : j ≤ 61) (hl : lenK k) (hn : fd es k = true) (ho : DelO F k G er) : er = 0 ∧ Nx F G es ⟨1, k, v⟩ j ∧ nxt es ⟨1, k, v⟩ = upd es k [] := by
  have hn : lkp es k ≠ none := fun e => by rw [(lkp_upd h.srt).1 e] at hn; cases hn
  have e : nxt es ⟨1, k, v⟩ = upd es k [] := by unfold nxt; rw [if_neg (show ¬ (1 : Int) = 0 by decide), if_pos rfl, if_pos ⟨hl, hn⟩]
  rcases del_sok h hj hl ho with ⟨h1, _⟩ | ⟨_, h2, h3, h4⟩
  · exact absurd h1 hn
  · exact ⟨h2, ⟨by rw [e]; exact h3, fun _ => h4.stp h3.shp⟩, e⟩
end
theorem rcl_fok {F G : Fi} {ps : List Nat} {es : List It} (h : Fok F ps es) (r : Rcl F G) : Fok G ps es ∧ ∀ m : Nat, (m : Int) ∈ G.free ↔ m < F.pg.length ∧ m ∉ ps := by
  obtain ⟨s, hs, he, hp⟩ := h.rok
  have hf := r.fr s hs
  have hm : ∀ m : Nat, (m : Int) ∈ G.free ↔ m < F.pg.length ∧ m ∉ ps := by
    intro m
    rw [hf]
    rw [mem_ni, List.mem_filter, List.mem_range, decide_eq_true_iff, hp.mem_iff]
  refine ⟨⟨⟨by rw [r.pg]; exact h.shp.n4, by rw [r.root]; exact h.shp.r1, by rw [r.root, r.pg]; exact h.shp.r2, by rw [r.pg]; exact h.shp.p256, ?_⟩, by rw [r.pg, r.root]; exact h.tr, h.nd, fun m hm' h2 => ((hm m).1 h2).2 hm', h.srt⟩, hm⟩
  rw [hf, r.pg, r.root]
  refine ni_frok (fun x hx => List.mem_range.1 (List.mem_filter.1 hx).1) (List.pairwise_lt_range.filter _) fun x hx e => ?_
  have hx := (List.mem_filter.1 hx).2
  rw [decide_eq_true_iff, hp.mem_iff] at hx
  apply hx
  cases h.tr with
  | no h0 => omega
  | yes _ _ h0 ht =>
    have := ht.ps_pos
    rwa [← e, Int.toNat_natCast] at this
theorem nx_rcl {F G : Fi} {es : List It} {o : Op} {j : Nat} (h : Sok F es j) (h0 : o.kd ≠ 0) (h1 : o.kd ≠ 1) (r : Rcl F G) : Nx F G es o j ∧ nxt es o = es := by
  have e : nxt es o = es := by unfold nxt; rw [if_neg h0, if_neg h1]
  obtain ⟨ps, hf⟩ := h.ok
  have hs : Sok G es j := ⟨⟨ps, (rcl_fok hf r).1⟩, h.n, by rw [r.pg]; exact h.p⟩
  exact ⟨⟨by rw [e]; exact hs.same, fun h => by omega⟩, e⟩
end Go.Proofs.YtpmkohnljngbhaaGreatDoor.Pg
