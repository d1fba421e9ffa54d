/- slices.Sort of ints, off the shelf. -/
import Derived.Test.YtjmbgnncokeliaaDoorVZ
import Derived.Shelf.Lay
import Derived.Shelf.LaySoft
import Derived.Shelf.Sort.Plain
import Derived.Shelf.Slices.In.SortNone
import Derived.Ground.SlgnProg
import Derived.Sort.OwnSortedInts
namespace Go.Proofs
open Go.Shelf
shelf_lay Lays.n189 Nm 189 at Tryd as Tryd.lays189
open Go.Sort Go.RowKit in
theorem Tryd.slices_Sort_int (blk off cap : Nat) (zs : List Int) (w : World) (hH : Holds (Value.int .i64) w blk off zs.toArray) (hblk : blk < w.heap.size) (hsz : zs.length < 4611686018427387904) :
    Calls Tryd.prog 80 #[.slice (some ⟨blk, off, none⟩) zs.length cap] w fun e w' =>
      e = .returned (.tuple #[]) ∧ ∃ n os, w' = grow (putRow (Value.int .i64) (Sort.ahead w n) blk off (zs.mergeSort fun x y => decide (x ≤ y)).toArray) os := Any.slices_Sort_int Tryd.lays189 blk off cap zs w hH hblk hsz
open Go.Sort Go.RowKit in
theorem Tryd.slices_Sort_int_none (p : Option Addr) (cap : Nat) (w : World) :
    Calls Tryd.prog 80 #[.slice p 0 cap] w fun e w' => e = .returned (.tuple #[]) ∧ w' = w := Any.slices_Sort_int_none Tryd.lays189 p cap w
end Go.Proofs
namespace Go.VC
open Go.RowKit Go.Proofs Go.IntWalk
def sorted (l : List Int) : List Int := l.mergeSort fun x y => decide (x ≤ y)
theorem cells_ints {st : Nat → Prop} {w : World} : ∀ {cells : List Value} {l : List Int}, F2 (Rd st w) cells (l.map ienc).flatten → cells = l.map (Value.int .i64)
  | cells, [], h => by simpa using h.of_nil
  | cells, x :: l, h => by
    simp only [List.map_cons, ienc, List.flatten_cons, List.cons_append, List.nil_append] at h
    obtain ⟨v, vs, rfl, hv, hs⟩ := h.of_cons
    have e1 : v = .int .i64 x := by cases hv; rfl
    rw [e1, cells_ints hs]; rfl
theorem rd_ints {st : Nat → Prop} {w : World} (l : List Int) : F2 (Rd st w) (l.map (Value.int .i64)) (l.map ienc).flatten := by
  induction l with
  | nil => exact F2.nil
  | cons x l ih =>
    simp only [List.map_cons, ienc, List.flatten_cons, List.cons_append, List.nil_append]
    exact F2.cons (.v rfl) ih
theorem sort_inl {o : Nat} {l : List Int} {σ : S} {K : S → List R → Prop} (hm : σ.mem o = some (.log 3 1 (l.map ienc))) (hl : l.length < 4611686018427387904) (hk : K (σ.setOb o (.log 3 1 ((sorted l).map ienc))) []) :
    Inl Tryd.prog GL 80 [.own o] σ K := by
  refine ⟨⟨_, Tryd.func80, rfl, by kernel_rfl⟩, fun c β a w vs hP hgl hs hv => ?_⟩
  obtain ⟨v, s, rfl, hv0, hs0⟩ := hv.of_cons
  obtain rfl := hs0.of_nil
  have hvb := hv0.inv_own
  obtain ⟨cells, hr, hf, hlen⟩ := hs.obj _ _ hm
  have hcells := cells_ints hf
  rw [List.length_map] at hr
  have hsl : (sorted l).length = l.length := List.length_mergeSort _
  have key : ∀ w', Keep (fun b => ownB (β o) = some b) w w' → RowIs w' 3 1 (β o) l.length ((sorted l).map (Value.int .i64)) →
      ∃ (us : List Value) (rs' : List R) (σ' : S) (β' : Nat → Value), Ending.returned (.tuple #[]) = .returned (retV us) ∧ Sim c σ' β' a w' ∧ F2 (RelR β' (stF c σ' β' w') w') us rs' ∧ K σ' rs' := fun w' hkeep hrow =>
    ⟨[], [], _, β, rfl, hs.setOb (x := .log 3 1 ((sorted l).map ienc)) hm hkeep ⟨_, by rw [List.length_map, hsl]; exact hrow, rd_ints _, ints_len⟩, F2.nil, hk⟩
  by_cases hn : l = []
  · subst hn
    obtain ⟨p, cap, hpc⟩ : ∃ p cap, β o = .slice p 0 cap := by
      rcases hr with ⟨_, ⟨hp, _⟩ | ⟨g, cap, cur, hp, _⟩⟩ | ⟨_, _, p, hp⟩
      · exact ⟨_, _, hp⟩
      · exact ⟨_, _, hp⟩
      · exact ⟨_, _, hp⟩
    rw [hvb, hpc]
    refine (Tryd.slices_Sort_int_none p cap w).mono ?_
    rintro e w' ⟨rfl, rfl⟩
    refine key _ (Keep.refl _ _) ?_
    have : cells = [] := by simpa using hcells
    rw [this] at hr
    have e0 : sorted [] = [] := List.eq_nil_of_length_eq_zero (by simp [sorted])
    rw [e0]; exact hr
  · rcases hr with ⟨h1, ⟨hp, h0⟩ | ⟨g, cap, cur, hp, hb, hg, hnc, hcm, hsz, htake⟩⟩ | ⟨h0, _⟩
    · exact absurd (List.length_eq_zero_iff.1 h0) hn
    · have hpos : 0 < l.length := List.length_pos_iff.2 hn
      have hgl' : g < w.heap.size := (Array.getElem?_eq_some_iff.1 hg).1
      rw [hcells, Nat.mul_one] at htake
      rw [hvb, hp]
      refine (Tryd.slices_Sort_int g 0 cap l w (holds_of_blockI hg htake) hgl' hl).mono ?_
      rintro e w' ⟨rfl, n, os, rfl⟩
      refine key _ (Keep.grown (grownBy_sortedI _) fun k hk => by cases hk; rw [hp]; cases cap with
        | zero => omega
        | succ c => rfl) (.inl ?_)
      rw [hp]
      exact ownsRow_sortedI hsl hb hg hnc hcm hsz
    · exact absurd (List.length_eq_zero_iff.1 h0) hn
end Go.VC
