/- slices.Sort of ints, off the shelf. -/
import Derived.Test.YtjmbgnncokeliaaDoorVZ
import Derived.Shelf.Sort.Plain
import Derived.Shelf.Slices.In.SortNone
import Derived.Ground.SlgnProg
import Derived.Sort.OwnSortedInts
namespace Go.Proofs
open Go.Shelf
def Tryd.lays189_ren : Go.Shelf.Ren := ⟨fun | 189 => 80 | 125 => 108 | 257 => 107 | 128 => 132 | 129 => 133 | 294 => 123 | 295 => 124 | 296 => 125 | 297 => 126 | 298 => 127 | 299 => 128 | 216 => 129 | 300 => 130 | 301 => 131 | 328 => 139 | 329 => 140 | 330 => 141 | 331 => 142 | 332 => 143 | 215 => 144 | 343 => 145 | n => n, fun | 28 => 30 | 3 => 3 | 46 => 148 | 0 => 0 | 51 => 28 | 53 => 167 | 4 => 4 | 183 => 161 | 182 => 160 | 131 => 136 | 5 => 5 | 9 => 9 | 218 => 172 | 222 => 176 | 228 => 178 | 229 => 179 | n => n, fun | n => n⟩
theorem Tryd.lays189 : Go.Proofs.Lays.n189 Tryd.prog Tryd.lays189_ren := {
  mixed := by kernel_rfl
  f125 := Tryd.func108.trans (congrArg some (by kernel_rfl))
  f128 := Tryd.func132.trans (congrArg some (by kernel_rfl))
  f129 := Tryd.func133.trans (congrArg some (by kernel_rfl))
  f189 := Tryd.func80.trans (congrArg some (by kernel_rfl))
  f215 := Tryd.func144.trans (congrArg some (by kernel_rfl))
  f216 := Tryd.func129.trans (congrArg some (by kernel_rfl))
  f257 := Tryd.func107.trans (congrArg some (by kernel_rfl))
  f294 := Tryd.func123.trans (congrArg some (by kernel_rfl))
  f295 := Tryd.func124.trans (congrArg some (by kernel_rfl))
  f296 := Tryd.func125.trans (congrArg some (by kernel_rfl))
  f297 := Tryd.func126.trans (congrArg some (by kernel_rfl))
  f298 := Tryd.func127.trans (congrArg some (by kernel_rfl))
  f299 := Tryd.func128.trans (congrArg some (by kernel_rfl))
  f300 := Tryd.func130.trans (congrArg some (by kernel_rfl))
  f301 := Tryd.func131.trans (congrArg some (by kernel_rfl))
  f328 := Tryd.func139.trans (congrArg some (by kernel_rfl))
  f329 := Tryd.func140.trans (congrArg some (by kernel_rfl))
  f330 := Tryd.func141.trans (congrArg some (by kernel_rfl))
  f331 := Tryd.func142.trans (congrArg some (by kernel_rfl))
  f332 := Tryd.func143.trans (congrArg some (by kernel_rfl))
  f343 := Tryd.func145.trans (congrArg some (by kernel_rfl))
  t0 := Tryd.underlying0
  a0 := Tryd.isAgg0
  z0 := Tryd.sizeOf0
  v0 := Tryd.zeroValue0
  t3 := Tryd.underlying3
  a3 := Tryd.isAgg3
  z3 := Tryd.sizeOf3
  v3 := Tryd.zeroValue3
  t4 := Tryd.underlying4
  a4 := Tryd.isAgg4
  z4 := Tryd.sizeOf4
  v4 := Tryd.zeroValue4
  t5 := Tryd.underlying5
  a5 := Tryd.isAgg5
  z5 := Tryd.sizeOf5
  v5 := Tryd.zeroValue5
  t9 := Tryd.underlying9
  a9 := Tryd.isAgg9
  z9 := Tryd.sizeOf9
  v9 := Tryd.zeroValue9
  t28 := Tryd.underlying30
  a28 := Tryd.isAgg30
  z28 := Tryd.sizeOf30
  v28 := Tryd.zeroValue30
  t46 := Tryd.underlying148
  a46 := Tryd.isAgg148
  z46 := Tryd.sizeOf148
  v46 := Tryd.zeroValue148
  t51 := Tryd.underlying28
  a51 := Tryd.isAgg28
  z51 := Tryd.sizeOf28
  v51 := Tryd.zeroValue28
  t53 := Tryd.underlying167
  a53 := Tryd.isAgg167
  z53 := Tryd.sizeOf167
  v53 := Tryd.zeroValue167
  t131 := Tryd.underlying136
  a131 := Tryd.isAgg136
  z131 := Tryd.sizeOf136
  v131 := Tryd.zeroValue136
  t182 := Tryd.underlying160
  a182 := Tryd.isAgg160
  z182 := Tryd.sizeOf160
  v182 := Tryd.zeroValue160
  t183 := Tryd.underlying161
  a183 := Tryd.isAgg161
  z183 := Tryd.sizeOf161
  v183 := Tryd.zeroValue161
  t218 := Tryd.underlying172
  a218 := Tryd.isAgg172
  z218 := Tryd.sizeOf172
  v218 := Tryd.zeroValue172
  t222 := Tryd.underlying176
  a222 := Tryd.isAgg176
  z222 := Tryd.sizeOf176
  v222 := Tryd.zeroValue176
  t228 := Tryd.underlying178
  a228 := Tryd.isAgg178
  z228 := Tryd.sizeOf178
  v228 := Tryd.zeroValue178
  t229 := Tryd.underlying179
  a229 := Tryd.isAgg179
  z229 := Tryd.sizeOf179
  v229 := Tryd.zeroValue179 }
open Go.Sort Go.RowKit in
theorem Tryd.slices_Sort_int (blk off cap : Nat) (zs : List Int) (w : World) (hH : Holds (Value.int .i64) w blk off zs.toArray) (hblk : blk < w.heap.size) (hsz : zs.length < 4611686018427387904) :
    Calls Tryd.prog 80 #[.slice (some ⟨blk, off, none⟩) zs.length cap] w fun e w' =>
      e = .returned (.tuple #[]) ∧ ∃ n os, w' = grow (putRow (Value.int .i64) (Sort.ahead w n) blk off (zs.mergeSort fun x y => decide (x ≤ y)).toArray) os := Any.slices_Sort_int Tryd.lays189 blk off cap zs w hH hblk hsz
open Go.Sort Go.RowKit in
theorem Tryd.slices_Sort_int_none (p : Option Addr) (cap : Nat) (w : World) :
    Calls Tryd.prog 80 #[.slice p 0 cap] w fun e w' => e = .returned (.tuple #[]) ∧ w' = w := Any.slices_Sort_int_none Tryd.lays189 p cap w
end Go.Proofs
namespace Go.VC
open Go.RowKit Go.Proofs Go.IntWalk
def sorted (l : List Int) : List Int := l.mergeSort fun x y => decide (x ≤ y)
theorem cells_ints {st : Nat → Prop} {w : World} : ∀ {cells : List Value} {l : List Int}, F2 (Rd st w) cells (l.map ienc).flatten → cells = l.map (Value.int .i64)
  | cells, [], h => by simpa using h.of_nil
  | cells, x :: l, h => by
    simp only [List.map_cons, ienc, List.flatten_cons, List.cons_append, List.nil_append] at h
    obtain ⟨v, vs, rfl, hv, hs⟩ := h.of_cons
    have e1 : v = .int .i64 x := by cases hv; rfl
    rw [e1, cells_ints hs]; rfl
theorem rd_ints {st : Nat → Prop} {w : World} (l : List Int) : F2 (Rd st w) (l.map (Value.int .i64)) (l.map ienc).flatten := by
  induction l with
  | nil => exact F2.nil
  | cons x l ih =>
    simp only [List.map_cons, ienc, List.flatten_cons, List.cons_append, List.nil_append]
    exact F2.cons (.v rfl) ih
theorem sort_inl {o : Nat} {l : List Int} {σ : S} {K : S → List R → Prop} (hm : σ.mem o = some (.log 3 1 (l.map ienc))) (hl : l.length < 4611686018427387904) (hk : K (σ.setOb o (.log 3 1 ((sorted l).map ienc))) []) :
    Inl Tryd.prog GL 80 [.own o] σ K := by
  refine ⟨⟨_, Tryd.func80, rfl, by kernel_rfl⟩, fun c β a w vs hP hgl hs hv => ?_⟩
  obtain ⟨v, s, rfl, hv0, hs0⟩ := hv.of_cons
  obtain rfl := hs0.of_nil
  have hvb := hv0.inv_own
  obtain ⟨cells, hr, hf, hlen⟩ := hs.obj _ _ hm
  have hcells := cells_ints hf
  rw [List.length_map] at hr
  have hsl : (sorted l).length = l.length := List.length_mergeSort _
  have key : ∀ w', Keep (fun b => ownB (β o) = some b) w w' → RowIs w' 3 1 (β o) l.length ((sorted l).map (Value.int .i64)) →
      ∃ (us : List Value) (rs' : List R) (σ' : S) (β' : Nat → Value), Ending.returned (.tuple #[]) = .returned (retV us) ∧ Sim c σ' β' a w' ∧ F2 (RelR β' (stF c σ' β' w') w') us rs' ∧ K σ' rs' := fun w' hkeep hrow =>
    ⟨[], [], _, β, rfl, hs.setOb (x := .log 3 1 ((sorted l).map ienc)) hm hkeep ⟨_, by rw [List.length_map, hsl]; exact hrow, rd_ints _, ints_len⟩, F2.nil, hk⟩
  by_cases hn : l = []
  · subst hn
    obtain ⟨p, cap, hpc⟩ : ∃ p cap, β o = .slice p 0 cap := by
      rcases hr with ⟨_, ⟨hp, _⟩ | ⟨g, cap, cur, hp, _⟩⟩ | ⟨_, _, p, hp⟩
      · exact ⟨_, _, hp⟩
      · exact ⟨_, _, hp⟩
      · exact ⟨_, _, hp⟩
    rw [hvb, hpc]
    refine (Tryd.slices_Sort_int_none p cap w).mono ?_
    rintro e w' ⟨rfl, rfl⟩
    refine key _ (Keep.refl _ _) ?_
    have : cells = [] := by simpa using hcells
    rw [this] at hr
    have e0 : sorted [] = [] := List.eq_nil_of_length_eq_zero (by simp [sorted])
    rw [e0]; exact hr
  · rcases hr with ⟨h1, ⟨hp, h0⟩ | ⟨g, cap, cur, hp, hb, hg, hnc, hcm, hsz, htake⟩⟩ | ⟨h0, _⟩
    · exact absurd (List.length_eq_zero_iff.1 h0) hn
    · have hpos : 0 < l.length := List.length_pos_iff.2 hn
      have hgl' : g < w.heap.size := (Array.getElem?_eq_some_iff.1 hg).1
      rw [hcells, Nat.mul_one] at htake
      rw [hvb, hp]
      refine (Tryd.slices_Sort_int g 0 cap l w (holds_of_blockI hg htake) hgl' hl).mono ?_
      rintro e w' ⟨rfl, n, os, rfl⟩
      refine key _ (Keep.grown (grownBy_sortedI _) fun k hk => by cases hk; rw [hp]; cases cap with
        | zero => omega
        | succ c => rfl) (.inl ?_)
      rw [hp]
      exact ownsRow_sortedI hsl hb hg hnc hcm hsz
    · exact absurd (List.length_eq_zero_iff.1 h0) hn
end Go.VC
