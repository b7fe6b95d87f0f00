/- The walk of page.encode. -/
import Derived.Test.YtpmkohnljngbhaaDoorPgRow
import Derived.Test.YtpmkohnljngbhaaDoorPgB3
import Derived.Deep.RegionLaw
namespace Go.Proofs.YtpmkohnljngbhaaDoor.Pg
set_option linter.unusedVariables false
set_option linter.unusedSimpArgs false
set_option maxRecDepth 1000000
open Go.RowKit Wl

theorem info_u8 : (Tryd.prog.info? 5).map (fun i => (i.zero, i.size, i.bytes)) = some (some (.int .u8 0), 1, 1) := by kernel_rfl
def hd (kd n : Nat) : List UInt8 := [0, 0, 0, 0, UInt8.ofNat kd, UInt8.ofNat n]
theorem u8_lit {n : Nat} (h : n < 256) : ((UInt8.ofNat n).toNat : Int) = (n : Int) := by rw [nat8 h]
/-- What encode writes. -/
def EncPost (w : World) (kd : Nat) (l : List IV) (e : Ending) (w' : World) : Prop :=
  e = .returned (.slice (some ⟨w.heap.size, 0, none⟩) 256 256) ∧ Hid (Row w' w.heap.size (enc kd (its l))) ∧ Below w.heap.size w w'
theorem tot_lt {kind k : Nat} {l : List IV} {x : IV} (h : l[k]? = some x) : tot kind (its (l.take k)) + isz kind x.it ≤ tot kind (its l) := by
  have e : l = l.take k ++ x :: l.drop (k + 1) := by
    have h3 := (List.getElem?_eq_some_iff.1 h).2
    rw [← h3, List.getElem_cons_drop, List.take_append_drop]
  conv => rhs; rw [e, its_app, tot_app]
  show _ ≤ _ + (isz kind x.it + _)
  omega
theorem bdy_take {kind k : Nat} {l : List IV} {x : IV} (h : l[k]? = some x) : bdy kind (its (l.take (k + 1))) = bdy kind (its (l.take k)) ++ itb kind x.it := by
  rw [List.take_add_one, h, its_app, bdy_app]; simp [its, bdy]
theorem hd_set (kd n : Nat) : ((zs []).set 4 (UInt8.ofNat kd)).set 5 (UInt8.ofNat n) = zs (hd kd n) := by
  rw [zs_zero]
  have e1 := zs_set (H := [0, 0, 0, 0]) (by simp) (UInt8.ofNat kd)
  have e2 := zs_set (H := [0, 0, 0, 0, UInt8.ofNat kd]) (by simp) (UInt8.ofNat n)
  simp only [List.length_cons, List.length_nil] at e1 e2
  rw [e1]
  exact e2
theorem hdr_set2 {H : List UInt8} {a : Nat} {u v : UInt8} (h : H.length = a) (ha : a + 2 ≤ 256) : ((zs H).set a u).set (a + 1) v = zs (H ++ [u, v]) := by
  subst h
  rw [zs_set (by omega), show H.length + 1 = (H ++ [u]).length by simp, zs_set (by simp; omega)]; simp
theorem hdr_set3 {H : List UInt8} {a : Nat} {u v z : UInt8} (h : H.length = a) (ha : a + 3 ≤ 256) : (((zs H).set a u).set (a + 1) v).set (a + 2) z = zs (H ++ [u, v, z]) := by
  rw [hdr_set2 h (by omega)]
  subst h
  rw [show H.length + 2 = (H ++ [u, v]).length by simp, zs_set (by simp; omega)]; simp
theorem Rd.src {w : World} {n c : Nat} {A : Option Addr} {l : List UInt8} (h : Rd w 1 A n c (bv l)) (hn : 0 < n) : ∃ ad, A = some ad ∧ ∀ j v, (bv l)[j]? = some v → w.cell? (ad.add j) = some v := by
  obtain ⟨g, o, e, _, hc⟩ := h.at_ hn
  refine ⟨_, e, fun j v hv => ?_⟩
  rw [addr_add, hc j (by have := (List.getElem?_eq_some_iff.1 hv).1; rw [h.len] at this; exact this), hv]
theorem u8_mod (n : Nat) : ((UInt8.ofNat n).toNat : Int) = (n : Int) % 256 := by simp
theorem its_mem {l : List IV} {x : IV} (h : x ∈ l) : x.it ∈ its l := List.mem_map.2 ⟨x, h, rfl⟩
theorem bdy_tk {kind k : Nat} {l : List IV} (h : ∀ x ∈ its l, ItOk kind x) : (bdy kind (its (l.take k))).length = tot kind (its (l.take k)) :=
  bdy_len kind fun x hx => h x (by
    obtain ⟨y, hy, rfl⟩ := List.mem_map.1 hx
    exact its_mem (List.mem_of_mem_take hy))
/-- The end of encode: the sum. -/
theorem enc_end {kd n : Nat} {l : List It} (hn : n = l.length) (h : ∀ x ∈ l, ItOk kd x) (ht : tot kd l ≤ 250) :
    (zs (hd kd n ++ bdy kd l)).drop 4 = rst kd l ∧ ∀ a b c d : UInt8, ((((zs (hd kd n ++ bdy kd l)).set 0 a).set 1 b).set 2 c).set 3 d = [a, b, c, d] ++ rst kd l := by
  have hb := bdy_len kd h
  have e : zs (hd kd n ++ bdy kd l) = [0, 0, 0, 0] ++ rst kd l := by
    subst hn
    simp [zs, hd, rst, hb]
  rw [e]
  exact ⟨rfl, fun a b c d => rfl⟩
end Go.Proofs.YtpmkohnljngbhaaDoor.Pg
