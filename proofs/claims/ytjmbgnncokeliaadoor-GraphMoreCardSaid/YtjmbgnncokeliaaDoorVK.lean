/- The kinds that may come next: layer 5. -/
import Derived.Test.YtjmbgnncokeliaaDoorVL
set_option maxRecDepth 100000
set_option linter.unusedSimpArgs false
set_option linter.unusedVariables false
namespace Go.VC
open Go.RowKit Go.Proofs Go.IntWalk
theorem q79 {σ : S} {KR : R → Prop} (hK : KR (retR [.d (.mp movesKV)])) : callVQ Tryd.prog GL 79 [] σ KR := callQ_dat (res := [.d (.mp movesKV)]) t79 hK
def keysOf (m : List (Int × Int)) : List Int := m.map (·.1)
def nextE (h : List Ev) : Int := checkE h
def nextV (h : List Ev) (tx : Int) : List Int := if rightH h = true ∧ (runF h []).1 = h.length then sorted (keysOf (movesOf (stOf (runF h []).2 tx))) else []
/-- What has been seen of a map's keys. -/
def seenK (m : List (Int × Int)) (seen : List Nat) : List Int := seen.map fun i => (m.getD i (0, 0)).1
theorem encI_get {m : List (Int × Int)} {i : Nat} {p : Int × D} (h : (encI m)[i]? = some p) : i < m.length ∧ p = ((m.getD i (0, 0)).1, dI (m.getD i (0, 0)).2) := by
  simp only [encI, List.getElem?_map, Option.map_eq_some_iff] at h
  obtain ⟨q, hq, rfl⟩ := h
  exact ⟨(List.getElem?_eq_some_iff.1 hq).1, by simp [List.getD, hq]⟩
theorem sorted_perm {l l' : List Int} (h : l.Perm l') : sorted l = sorted l' := by
  have tr : ∀ a b c : Int, decide (a ≤ b) = true → decide (b ≤ c) = true → decide (a ≤ c) = true := fun a b c h1 h2 => by simp at *; omega
  have to : ∀ a b : Int, (decide (a ≤ b) || decide (b ≤ a)) = true := fun a b => by simp; omega
  refine List.Perm.eq_of_pairwise (le := fun a b => decide (a ≤ b) = true) (fun a b _ _ h1 h2 => by simp at h1 h2; omega) (List.pairwise_mergeSort tr to l) (List.pairwise_mergeSort tr to l') ?_
  exact ((List.mergeSort_perm l _).trans h).trans (List.mergeSort_perm l' _).symm
theorem nodup_le : ∀ (n : Nat) (l : List Nat), l.Nodup → (∀ i ∈ l, i < n) → l.length ≤ n
  | 0, l, _, hl => by
    cases l with
    | nil => exact Nat.le_refl _
    | cons x l => exact absurd (hl x (by simp)) (by omega)
  | n + 1, l, hd, hl => by
    by_cases hn : n ∈ l
    · have h1 := nodup_le n (l.erase n) (hd.erase n) fun i hi => by
        have := hd.mem_erase_iff.1 hi
        have := hl i this.2; omega
      rw [List.length_erase_of_mem hn] at h1; omega
    · have := nodup_le n l hd fun i hi => by
        have h2 := hl i hi
        have : i ≠ n := fun e => hn (e ▸ hi)
        omega
      omega
theorem seen_all {m : List (Int × Int)} {seen : List Nat} (hd : seen.Nodup) (hl : ∀ i ∈ seen, i < m.length) (ha : ∀ i, i < m.length → i ∈ seen) : sorted (seenK m seen) = sorted (keysOf m) := by
  refine sorted_perm ?_
  have hp : seen.Perm (List.range m.length) := (List.perm_ext_iff_of_nodup hd List.nodup_range).2 fun i => ⟨fun h => List.mem_range.2 (hl i h), fun h => ha i (List.mem_range.1 h)⟩
  refine (hp.map fun i => (m.getD i (0, 0)).1).trans ?_
  have : (List.range m.length).map (fun i => (m.getD i (0, 0)).1) = keysOf m := by
    apply List.ext_getElem (by simp [keysOf])
    intro i h1 h2
    simp at h1
    simp [keysOf, List.getD, h1]
  rw [this]
theorem moves_le (s : Int) : (movesOf s).length ≤ 4 := by
  unfold movesOf movesL
  simp only [assoc]
  repeat' split
  all_goals simp
theorem t42 (h : List Ev) (tx : Int) : Holds Tryd.prog GL 42 [evsA h, I tx] [.a (intsA (nextV h tx)), .a (I (nextE h))] := by
  refine fn_holds (vs := [.tmp 4, .tmp 5]) (by kernel_rfl) Tryd.func42 rfl rfl (by kernel_rfl) (by kernel_rfl) rfl ?_
  (refine of_gate ?_; repeat' ((first | (with_reducible refine gate_in ?_) | (with_reducible refine spK_intro ?_ ?_ <;> intro hp) | (with_reducible refine brK_intro ?_ ?_ <;> intro hb <;> try rw [hb]) | (with_reducible refine draw_in (by unfold DrawOk; decide +kernel) ?_) | (with_reducible apply c77) | (with_reducible apply c78) | (with_reducible apply q79)) <;> try simp only [↓PR, PO, PC, PX, tyI, tyF, tyX, tyL, tyK, tyB, tyE, tyM, tyP, tyQ, Nat.reduceBEq, Nat.reduceAdd, Nat.reduceMul, Nat.reduceSub, Nat.reduceLeDiff, Nat.reduceEqDiff, Nat.reduceLT, Nat.reducePow, Nat.reduceBneDiff, Nat.reduceBNe, Int.reduceBEq, Int.reduceEq, Int.reduceLT, Int.reduceLE, Int.reduceToNat, String.reduceBEq, List.length_map, kvg_int, kvg_mv]))
  · have hb : rightH h = false := by simpa using hb
    simp [nextV, nextE, checkE, hb]
  · have hb : rightH h = true := by simpa using hb
    have h1 : (runF h []).1 < h.length := by omega
    simp [nextV, nextE, checkE, hb, h1, show ¬ (runF h []).1 = h.length by omega]
  · have hb : rightH h = true := by simpa using hb
    have hle := runF_le h []
    have h1 : (runF h []).1 = h.length := by omega
    have hv : nextV h tx = sorted (keysOf (movesOf (stOf (runF h []).2 tx))) := by simp [nextV, hb, h1]
    have he : nextE h = 0 := by simp [nextE, checkE, hb, h1]
    rw [hv, he]
    have h4 := moves_le (stOf (runF h []).2 tx)
    change awp _ _ _ _ _
    simp only [show (assoc (runF h []).2 tx).getD 0 = stOf (runF h []).2 tx from rfl]
    generalize movesOf (stOf (runF h []).2 tx) = m at *
    refine awp_loopA (fun seen : List Nat => [(8, .own 8), (27, .ref 27 0)]) (fun seen => [(8, .log 3 1 ((seenK m seen).map ienc)), (27, .iter (encI m) seen)]) (fun seen => seen.Nodup ∧ ∀ i ∈ seen, i < m.length) (fun seen => m.length - seen.length) [] ?_ ?_ ⟨List.nodup_nil, fun i hi => by simp at hi⟩ ?_
    · simp only [↓PR, PO, PC, PX, tyI, tyF, tyX, tyL, tyK, tyB, tyE, tyM, tyP, tyQ, Nat.reduceBEq, Nat.reduceAdd, Nat.reduceMul, Nat.reduceSub, Nat.reduceLeDiff, Nat.reduceEqDiff, Nat.reduceLT, Nat.reducePow, Nat.reduceBneDiff, Nat.reduceBNe, Int.reduceBEq, Int.reduceEq, Int.reduceLT, Int.reduceLE, Int.reduceToNat, String.reduceBEq]
    · simp only [↓PR, PO, PC, PX, tyI, tyF, tyX, tyL, tyK, tyB, tyE, tyM, tyP, tyQ, Nat.reduceBEq, Nat.reduceAdd, Nat.reduceMul, Nat.reduceSub, Nat.reduceLeDiff, Nat.reduceEqDiff, Nat.reduceLT, Nat.reducePow, Nat.reduceBneDiff, Nat.reduceBNe, Int.reduceBEq, Int.reduceEq, Int.reduceLT, Int.reduceLE, Int.reduceToNat, String.reduceBEq] <;> rfl
    rintro seen j ⟨hd, hl⟩
    have hsl := nodup_le m.length seen hd hl
    simp only [↓PR, PO, PC, PX, tyI, tyF, tyX, tyL, tyK, tyB, tyE, tyM, tyP, tyQ, Nat.reduceBEq, Nat.reduceAdd, Nat.reduceMul, Nat.reduceSub, Nat.reduceLeDiff, Nat.reduceEqDiff, Nat.reduceLT, Nat.reducePow, Nat.reduceBneDiff, Nat.reduceBNe, Int.reduceBEq, Int.reduceEq, Int.reduceLT, Int.reduceLE, Int.reduceToNat, String.reduceBEq]
    refine step_intro (kv := encI m) (seen := seen) (by simp only [↓PR, PO, PC, PX, tyI, tyF, tyX, tyL, tyK, tyB, tyE, tyM, tyP, tyQ, Nat.reduceBEq, Nat.reduceAdd, Nat.reduceMul, Nat.reduceSub, Nat.reduceLeDiff, Nat.reduceEqDiff, Nat.reduceLT, Nat.reducePow, Nat.reduceBneDiff, Nat.reduceBNe, Int.reduceBEq, Int.reduceEq, Int.reduceLT, Int.reduceLE, Int.reduceToNat, String.reduceBEq]) (fun i p hp hi => ?_) (fun ha => ?_)
    · obtain ⟨him, rfl⟩ := encI_get hp
      have hd' : (seen ++ [i]).Nodup := by
        rw [List.nodup_append]
        exact ⟨hd, by simp, fun a ha b hb => by simp at hb; subst hb; exact fun e => hi (e ▸ ha)⟩
      have hl' : ∀ k ∈ seen ++ [i], k < m.length := fun k hk => by
        rcases List.mem_append.1 hk with hk | hk
        · exact hl k hk
        · simp at hk; subst hk; exact him
      have hlt := nodup_le m.length _ hd' hl'
      simp only [List.length_append, List.length_cons, List.length_nil] at hlt
      (refine of_gate ?_; repeat' ((first | (with_reducible refine gate_in ?_) | (with_reducible refine spK_intro ?_ ?_ <;> intro hp) | (with_reducible refine brK_intro ?_ ?_ <;> intro hb <;> try rw [hb]) | (with_reducible refine draw_in (by unfold DrawOk; decide +kernel) ?_)) <;> try simp only [↓PR, PO, PC, PX, tyI, tyF, tyX, tyL, tyK, tyB, tyE, tyM, tyP, tyQ, Nat.reduceBEq, Nat.reduceAdd, Nat.reduceMul, Nat.reduceSub, Nat.reduceLeDiff, Nat.reduceEqDiff, Nat.reduceLT, Nat.reducePow, Nat.reduceBneDiff, Nat.reduceBNe, Int.reduceBEq, Int.reduceEq, Int.reduceLT, Int.reduceLE, Int.reduceToNat, String.reduceBEq, hp]))
      refine ⟨by simp only [List.length_map, seenK]; omega, seen ++ [i], by simp only [↓PR, PO, PC, PX, tyI, tyF, tyX, tyL, tyK, tyB, tyE, tyM, tyP, tyQ, Nat.reduceBEq, Nat.reduceAdd, Nat.reduceMul, Nat.reduceSub, Nat.reduceLeDiff, Nat.reduceEqDiff, Nat.reduceLT, Nat.reducePow, Nat.reduceBneDiff, Nat.reduceBNe, Int.reduceBEq, Int.reduceEq, Int.reduceLT, Int.reduceLE, Int.reduceToNat, String.reduceBEq], by simp only [↓PR, PO, PC, PX, tyI, tyF, tyX, tyL, tyK, tyB, tyE, tyM, tyP, tyQ, Nat.reduceBEq, Nat.reduceAdd, Nat.reduceMul, Nat.reduceSub, Nat.reduceLeDiff, Nat.reduceEqDiff, Nat.reduceLT, Nat.reducePow, Nat.reduceBneDiff, Nat.reduceBNe, Int.reduceBEq, Int.reduceEq, Int.reduceLT, Int.reduceLE, Int.reduceToNat, String.reduceBEq, seenK, List.map_append, ienc_eq], ⟨hd', hl'⟩, by simp only [List.length_append, List.length_cons, List.length_nil]; omega⟩
    · have ha' : ∀ i, i < m.length → i ∈ seen := fun i hi => ha i (by simpa [encI] using hi)
      (refine of_gate ?_; repeat' ((first | (with_reducible refine gate_in ?_) | (with_reducible refine spK_intro ?_ ?_ <;> intro hp) | (with_reducible refine brK_intro ?_ ?_ <;> intro hb <;> try rw [hb]) | (with_reducible refine draw_in (by unfold DrawOk; decide +kernel) ?_)) <;> try simp only [↓PR, PO, PC, PX, tyI, tyF, tyX, tyL, tyK, tyB, tyE, tyM, tyP, tyQ, Nat.reduceBEq, Nat.reduceAdd, Nat.reduceMul, Nat.reduceSub, Nat.reduceLeDiff, Nat.reduceEqDiff, Nat.reduceLT, Nat.reducePow, Nat.reduceBneDiff, Nat.reduceBNe, Int.reduceBEq, Int.reduceEq, Int.reduceLT, Int.reduceLE, Int.reduceToNat, String.reduceBEq]))
      refine call_inl (sort_inl (l := seenK m seen) (by simp only [↓PR, PO, PC, PX, tyI, tyF, tyX, tyL, tyK, tyB, tyE, tyM, tyP, tyQ, Nat.reduceBEq, Nat.reduceAdd, Nat.reduceMul, Nat.reduceSub, Nat.reduceLeDiff, Nat.reduceEqDiff, Nat.reduceLT, Nat.reducePow, Nat.reduceBneDiff, Nat.reduceBNe, Int.reduceBEq, Int.reduceEq, Int.reduceLT, Int.reduceLE, Int.reduceToNat, String.reduceBEq]) (by simp only [seenK, List.length_map]; omega) ?_)
      rw [seen_all hd hl ha']
      simp only [one]
      (refine of_gate ?_; repeat' ((first | (with_reducible refine gate_in ?_) | (with_reducible refine spK_intro ?_ ?_ <;> intro hp) | (with_reducible refine brK_intro ?_ ?_ <;> intro hb <;> try rw [hb]) | (with_reducible refine draw_in (by unfold DrawOk; decide +kernel) ?_)) <;> try simp only [↓PR, PO, PC, PX, tyI, tyF, tyX, tyL, tyK, tyB, tyE, tyM, tyP, tyQ, Nat.reduceBEq, Nat.reduceAdd, Nat.reduceMul, Nat.reduceSub, Nat.reduceLeDiff, Nat.reduceEqDiff, Nat.reduceLT, Nat.reducePow, Nat.reduceBneDiff, Nat.reduceBNe, Int.reduceBEq, Int.reduceEq, Int.reduceLT, Int.reduceLE, Int.reduceToNat, String.reduceBEq]))
theorem c42 {h : List Ev} {tx : Int} {dst : Option Tmp} {σ : S} {K : S → Prop} (hK : S.ret σ dst [.a (intsA (nextV h tx)), .a (I (nextE h))] K) : callV Tryd.prog GL 42 [.a (evsA h), .a (I tx)] dst σ K :=
  call_dat (t42 h tx) hK
theorem q42 {h : List Ev} {tx : Int} {σ : S} {KR : R → Prop} (hK : KR (retR [(intsA (nextV h tx)), (I (nextE h))])) : callVQ Tryd.prog GL 42 [.a (evsA h), .a (I tx)] σ KR :=
  callQ_dat (res := [(intsA (nextV h tx)), (I (nextE h))]) (t42 h tx) hK
end Go.VC
