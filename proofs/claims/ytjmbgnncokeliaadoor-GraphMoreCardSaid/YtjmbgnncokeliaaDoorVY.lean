/- Events that may be there: layer 5. -/
import Derived.Test.YtjmbgnncokeliaaDoorVN
set_option maxRecDepth 100000
set_option linter.unusedSimpArgs false
set_option linter.unusedVariables false
namespace Go.VC
open Go.RowKit Go.Proofs Go.IntWalk
/-! ### Maps of ints to ints -/
def assoc {α : Type} : List (Int × α) → Int → Option α
  | [], _ => none
  | (k, x) :: kv, n => if k = n then some x else assoc kv n
def assocSet {α : Type} : List (Int × α) → Int → α → List (Int × α)
  | [], n, y => [(n, y)]
  | (k, x) :: kv, n, y => if k = n then (k, y) :: kv else (k, x) :: assocSet kv n y
def encI (l : List (Int × Int)) : List (Int × D) := l.map fun p => (p.1, dI p.2)
theorem kvGet_map {α : Type} (f : α → D) (n : Int) : ∀ (l : List (Int × α)), kvGet (l.map fun p => (p.1, f p.2)) n = (assoc l n).map f
  | [] => rfl
  | (k, x) :: l => by
    simp only [List.map_cons, kvGet, assoc, kvGet_map f n l]
    split <;> rfl
theorem kvSet_map {α : Type} (f : α → D) (n : Int) (y : α) : ∀ (l : List (Int × α)), kvSet (l.map fun p => (p.1, f p.2)) n (f y) = (assocSet l n y).map fun p => (p.1, f p.2)
  | [] => rfl
  | (k, x) :: l => by
    simp only [List.map_cons, kvSet, assocSet, kvSet_map f n y l]
    split <;> rfl
def stOf (now : List (Int × Int)) (n : Int) : Int := (assoc now n).getD 0
theorem kvg_int (l : List (Int × Int)) (n : Int) : (kvGet (encI l) n).getD (.v (.int .i64 0)) = .v (.int .i64 ((assoc l n).getD 0)) := by
  rw [encI, kvGet_map dI]; cases assoc l n <;> rfl
theorem kvg_some (l : List (Int × Int)) (n : Int) : (kvGet (encI l) n).isSome = (assoc l n).isSome := by
  rw [encI, kvGet_map dI]; cases assoc l n <;> rfl
theorem kvs_int (l : List (Int × Int)) (n y : Int) : kvSet (encI l) n (.v (.int .i64 y)) = encI (assocSet l n y) := kvSet_map dI n y l
/-- Which kind may come in which state, and the state then. -/
def movesL : List (Int × List (Int × Int)) := [(0, [(0, 1)]), (1, [(1, 2), (9, 7)]), (2, [(2, 3), (4, 4), (6, 5), (8, 6)]), (3, [(3, 2), (9, 7)]), (4, [(5, 2), (9, 7)]), (5, [(7, 7), (9, 7)]), (6, [(9, 7)])]
def movesKV : List (Int × D) := movesL.map fun p => (p.1, .mp (encI p.2))
def movesOf (s : Int) : List (Int × Int) := (assoc movesL s).getD []
theorem kvg_mv (s : Int) : (kvGet movesKV s).getD (.mp []) = .mp (encI (movesOf s)) := by
  rw [movesKV, kvGet_map (fun x => D.mp (encI x)), movesOf]; cases assoc movesL s <;> rfl
theorem t79 : Holds Tryd.prog GL 79 [] [.a (.d (.mp movesKV))] := by
  refine fn_holds (vs := [.tmp 0]) (by kernel_rfl) Tryd.func79 rfl rfl (by kernel_rfl) (by kernel_rfl) rfl ?_
  simp only [↓PR, PO, PC, PX, tyI, tyF, tyX, tyL, tyK, tyB, tyE, tyM, tyP, tyQ, Nat.reduceBEq, Nat.reduceAdd, Nat.reduceMul, Nat.reduceSub, Nat.reduceLeDiff, Nat.reduceEqDiff, Nat.reduceLT, Nat.reducePow, Nat.reduceBneDiff, Nat.reduceBNe, Int.reduceBEq, Int.reduceEq, Int.reduceLT, Int.reduceLE, Int.reduceToNat, String.reduceBEq]
  rfl
theorem c79 {dst : Option Tmp} {σ : S} {K : S → Prop} (hK : S.ret σ dst [.a (.d (.mp movesKV))] K) : callV Tryd.prog GL 79 [] dst σ K := call_dat t79 hK
/-! ### A run -/
def nextS (now : List (Int × Int)) (e : Ev) : Option Int := assoc (movesOf (stOf now e.tx)) e.kind
def stepN (now : List (Int × Int)) (e : Ev) : List (Int × Int) := assocSet now e.tx ((nextS now e).getD 0)
def runF : List Ev → List (Int × Int) → Nat × List (Int × Int)
  | [], now => (0, now)
  | e :: h, now => if (nextS now e).isSome then ((runF h (stepN now e)).1 + 1, (runF h (stepN now e)).2) else (0, now)
theorem runF_le : ∀ (h : List Ev) (now : List (Int × Int)), (runF h now).1 ≤ h.length
  | [], _ => Nat.le_refl _
  | e :: h, now => by
    simp only [runF]
    split
    · have := runF_le h (stepN now e); simp only [List.length_cons]; omega
    · exact Nat.zero_le _
theorem t78 (h : List Ev) : Holds Tryd.prog GL 78 [evsA h] [.a (I ((runF h []).1 : Int)), .a (.d (.mp (encI (runF h []).2)))] := by
  refine fn_holds_is (vs := [.tmp 2, .tmp 3]) (by kernel_rfl) Tryd.func78 rfl rfl (by kernel_rfl) (by kernel_rfl) rfl fun his => ?_
  have hlen := his.1.len
  rw [List.length_map] at hlen
  (refine of_gate ?_; repeat' ((first | (with_reducible refine gate_in ?_) | (with_reducible refine spK_intro ?_ ?_ <;> intro hp) | (with_reducible refine brK_intro ?_ ?_ <;> intro hb <;> try rw [hb]) | (with_reducible refine draw_in (by unfold DrawOk; decide +kernel) ?_) | (with_reducible apply c79)) <;> try simp only [↓PR, PO, PC, PX, tyI, tyF, tyX, tyL, tyK, tyB, tyE, tyM, tyP, tyQ, Nat.reduceBEq, Nat.reduceAdd, Nat.reduceMul, Nat.reduceSub, Nat.reduceLeDiff, Nat.reduceEqDiff, Nat.reduceLT, Nat.reducePow, Nat.reduceBneDiff, Nat.reduceBNe, Int.reduceBEq, Int.reduceEq, Int.reduceLT, Int.reduceLE, Int.reduceToNat, String.reduceBEq, List.length_map]))
  refine awp_loopA (fun g : Nat × List (Int × Int) => [(0, .a (evsA h)), (4, .a (.d (.mp movesKV))), (5, .omp 11), (12, .a (evsA h)), (13, .a (I h.length)), (14, .a (I g.1))]) (fun g => [(11, .mpo (encI g.2))])
    (fun g => g.1 ≤ h.length ∧ runF h [] = (g.1 + (runF (h.drop g.1) g.2).1, (runF (h.drop g.1) g.2).2)) (h.length - ·.1) (0, []) ?_ ?_ ⟨Nat.zero_le _, by simp⟩ ?_
  · simp only [↓PR, PO, PC, PX, tyI, tyF, tyX, tyL, tyK, tyB, tyE, tyM, tyP, tyQ, Nat.reduceBEq, Nat.reduceAdd, Nat.reduceMul, Nat.reduceSub, Nat.reduceLeDiff, Nat.reduceEqDiff, Nat.reduceLT, Nat.reducePow, Nat.reduceBneDiff, Nat.reduceBNe, Int.reduceBEq, Int.reduceEq, Int.reduceLT, Int.reduceLE, Int.reduceToNat, String.reduceBEq]
  · simp only [↓PR, PO, PC, PX, tyI, tyF, tyX, tyL, tyK, tyB, tyE, tyM, tyP, tyQ, Nat.reduceBEq, Nat.reduceAdd, Nat.reduceMul, Nat.reduceSub, Nat.reduceLeDiff, Nat.reduceEqDiff, Nat.reduceLT, Nat.reducePow, Nat.reduceBneDiff, Nat.reduceBNe, Int.reduceBEq, Int.reduceEq, Int.reduceLT, Int.reduceLE, Int.reduceToNat, String.reduceBEq] <;> rfl
  rintro ⟨k, now⟩ j ⟨hk, hr⟩
  dsimp only at hk hr
  (refine of_gate ?_; repeat' ((first | (with_reducible refine gate_in ?_) | (with_reducible refine spK_intro ?_ ?_ <;> intro hp) | (with_reducible refine brK_intro ?_ ?_ <;> intro hb <;> try rw [hb]) | (with_reducible refine draw_in (by unfold DrawOk; decide +kernel) ?_)) <;> try simp only [↓PR, PO, PC, PX, tyI, tyF, tyX, tyL, tyK, tyB, tyE, tyM, tyP, tyQ, Nat.reduceBEq, Nat.reduceAdd, Nat.reduceMul, Nat.reduceSub, Nat.reduceLeDiff, Nat.reduceEqDiff, Nat.reduceLT, Nat.reducePow, Nat.reduceBneDiff, Nat.reduceBNe, Int.reduceBEq, Int.reduceEq, Int.reduceLT, Int.reduceLE, Int.reduceToNat, String.reduceBEq, List.length_map]))
  · have hkl : k < h.length := by omega
    have hx : h[k]? = some h[k] := List.getElem?_eq_getElem hkl
    have hw := wrap_succ hkl hlen
    rw [List.drop_eq_getElem_cons hkl] at hr
    (refine of_gate ?_; repeat' ((first | (with_reducible refine gate_in ?_) | (with_reducible refine spK_intro ?_ ?_ <;> intro hp) | (with_reducible refine brK_intro ?_ ?_ <;> intro hb <;> try rw [hb]) | (with_reducible refine draw_in (by unfold DrawOk; decide +kernel) ?_)) <;> try simp only [↓PR, PO, PC, PX, tyI, tyF, tyX, tyL, tyK, tyB, tyE, tyM, tyP, tyQ, Nat.reduceBEq, Nat.reduceAdd, Nat.reduceMul, Nat.reduceSub, Nat.reduceLeDiff, Nat.reduceEqDiff, Nat.reduceLT, Nat.reducePow, Nat.reduceBneDiff, Nat.reduceBNe, Int.reduceBEq, Int.reduceEq, Int.reduceLT, Int.reduceLE, Int.reduceToNat, String.reduceBEq, hx, Ev.enc_eq, hw, kvg_int, kvg_mv, kvg_some, kvs_int, List.length_map]))
    · have hn : (nextS now h[k]).isSome = false := by
        show (assoc (movesOf ((assoc now h[k].tx).getD 0)) h[k].kind).isSome = false
        simpa using hb
      simp only [runF, hn, Bool.false_eq_true, if_false, Nat.add_zero] at hr
      rw [hr]; exact ⟨rfl, rfl⟩
    · have hn : (nextS now h[k]).isSome = true := by
        show (assoc (movesOf ((assoc now h[k].tx).getD 0)) h[k].kind).isSome = true
        simpa using hb
      simp only [runF, hn, if_true] at hr
      refine ⟨(k + 1, stepN now h[k]), by simp only [↓PR, PO, PC, PX, tyI, tyF, tyX, tyL, tyK, tyB, tyE, tyM, tyP, tyQ, Nat.reduceBEq, Nat.reduceAdd, Nat.reduceMul, Nat.reduceSub, Nat.reduceLeDiff, Nat.reduceEqDiff, Nat.reduceLT, Nat.reducePow, Nat.reduceBneDiff, Nat.reduceBNe, Int.reduceBEq, Int.reduceEq, Int.reduceLT, Int.reduceLE, Int.reduceToNat, String.reduceBEq], by simp only [↓PR, PO, PC, PX, tyI, tyF, tyX, tyL, tyK, tyB, tyE, tyM, tyP, tyQ, Nat.reduceBEq, Nat.reduceAdd, Nat.reduceMul, Nat.reduceSub, Nat.reduceLeDiff, Nat.reduceEqDiff, Nat.reduceLT, Nat.reducePow, Nat.reduceBneDiff, Nat.reduceBNe, Int.reduceBEq, Int.reduceEq, Int.reduceLT, Int.reduceLE, Int.reduceToNat, String.reduceBEq]; rfl, ⟨hkl, ?_⟩, by dsimp only; omega⟩
      rw [hr]; ext <;> simp; omega
  · have hkl : h.length ≤ k := by omega
    rw [List.drop_eq_nil_of_le hkl] at hr
    simp only [runF, Nat.add_zero] at hr
    rw [hr]; exact ⟨by simp; omega, rfl⟩
theorem c78 {h : List Ev} {dst : Option Tmp} {σ : S} {K : S → Prop} (hK : S.ret σ dst [.a (I ((runF h []).1 : Int)), .a (.d (.mp (encI (runF h []).2)))] K) : callV Tryd.prog GL 78 [.a (evsA h)] dst σ K :=
  call_dat (t78 h) hK
theorem q78 {h : List Ev} {σ : S} {KR : R → Prop} (hK : KR (retR [(I ((runF h []).1 : Int)), (.d (.mp (encI (runF h []).2)))])) : callVQ Tryd.prog GL 78 [.a (evsA h)] σ KR :=
  callQ_dat (res := [(I ((runF h []).1 : Int)), (.d (.mp (encI (runF h []).2)))]) (t78 h) hK
/-- What the check tells: the place of the first event that may not be there, and the error. -/
def checkI (h : List Ev) : Int := if rightH h then ((runF h []).1 : Int) else 0
def checkE (h : List Ev) : Int := if rightH h then (if (runF h []).1 < h.length then 6 else 0) else 1
theorem t45 (h : List Ev) : Holds Tryd.prog GL 45 [evsA h] [.a (I (checkI h)), .a (I (checkE h))] := by
  refine fn_holds (vs := [.tmp 2, .tmp 3]) (by kernel_rfl) Tryd.func45 rfl rfl (by kernel_rfl) (by kernel_rfl) rfl ?_
  (refine of_gate ?_; repeat' ((first | (with_reducible refine gate_in ?_) | (with_reducible refine spK_intro ?_ ?_ <;> intro hp) | (with_reducible refine brK_intro ?_ ?_ <;> intro hb <;> try rw [hb]) | (with_reducible refine draw_in (by unfold DrawOk; decide +kernel) ?_) | (with_reducible apply c77) | (with_reducible apply c78)) <;> try simp only [↓PR, PO, PC, PX, tyI, tyF, tyX, tyL, tyK, tyB, tyE, tyM, tyP, tyQ, Nat.reduceBEq, Nat.reduceAdd, Nat.reduceMul, Nat.reduceSub, Nat.reduceLeDiff, Nat.reduceEqDiff, Nat.reduceLT, Nat.reducePow, Nat.reduceBneDiff, Nat.reduceBNe, Int.reduceBEq, Int.reduceEq, Int.reduceLT, Int.reduceLE, Int.reduceToNat, String.reduceBEq, List.length_map]))
  · have hb : rightH h = false := by simpa using hb
    simp [checkI, checkE, hb]
  · have hb : rightH h = true := by simpa using hb
    simp [checkI, checkE, hb, show (runF h []).1 < h.length by omega]
  · have hb : rightH h = true := by simpa using hb
    simp [checkI, checkE, hb, show ¬ (runF h []).1 < h.length by omega]
theorem c45 {h : List Ev} {dst : Option Tmp} {σ : S} {K : S → Prop} (hK : S.ret σ dst [.a (I (checkI h)), .a (I (checkE h))] K) : callV Tryd.prog GL 45 [.a (evsA h)] dst σ K :=
  call_dat (t45 h) hK
theorem q45 {h : List Ev} {σ : S} {KR : R → Prop} (hK : KR (retR [(I (checkI h)), (I (checkE h))])) : callVQ Tryd.prog GL 45 [.a (evsA h)] σ KR :=
  callQ_dat (res := [(I (checkI h)), (I (checkE h))]) (t45 h) hK
end Go.VC
