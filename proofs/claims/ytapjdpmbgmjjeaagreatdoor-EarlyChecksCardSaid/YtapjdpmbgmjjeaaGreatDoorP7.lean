import Derived.Test.YtapjdpmbgmjjeaaGreatDoorP6
set_option linter.unusedVariables false
set_option linter.unusedSimpArgs false
set_option linter.unnecessarySimpa false
set_option linter.defProp false
set_option maxRecDepth 100000
section
set_option maxRecDepth 100000
namespace Go.VC
open Go.RowKit Go.Proofs Go.IntWalk
theorem Inl.own {P : Program} {gl : Nat → Option (List D)} {f : FuncId} {o z : Nat} {e : TypeId} {xs : List (List D)} {σ : S} {K : S → List R → Prop} (hm : σ.mem o = some (.log e z xs)) (ho : o < 1000000000) (h : Inl P gl f [.a (.d (.sl xs))] (σ.frz o fun _ => .sl xs) K) : Inl P gl f [.own o] σ K := by
 refine ⟨h.1, fun c β a w vs hP hgl hs hv => ?_⟩
 obtain ⟨v, rfl⟩ : ∃ v, vs = [v] := List.length_eq_one_iff.1 hv.1
 have hr := rest1_sound hs (r := .own o) (x := .d (.sl xs)) (hv.2 0 v (.own o) rfl rfl) (by simp [argA, hm]) ho
 rw [show σ.rest1 (.own o) = σ.frz o fun _ => .sl xs by simp [S.rest1, hm]] at hr
 exact h.2 c β a w [v] hP hgl hr.1 (F2.cons (.a hr.2.2) F2.nil)
def noT : Txn := ⟨0, 0, 0, 0, []⟩
def elsT (set k : Nat) : List Nat := (List.range k).filter fun i => set.testBit i
def subT (T : List Txn) (set : Nat) : List Txn := (elsT set T.length).map fun i => T.getD i noT
def upR (T : List Txn) (set : Nat) (r : List Nat) : List Int := r.map fun k => (((elsT set T.length).getD k 0 : Nat) : Int)
def subRows (T : List Txn) (set : Nat) : List (List Int) := (allRows (afterR (subT T set))).map (upR T set)
theorem elsT_s (set k : Nat) : elsT set (k + 1) = elsT set k ++ if set.testBit k then [k] else [] := by
 simp only [elsT, List.range_succ, List.filter_append, List.filter_cons, List.filter_nil]
theorem elsT_le (set : Nat) : ∀ k, (elsT set k).length ≤ k := fun k => Nat.le_trans (List.length_filter_le _ _) (by simp)
theorem elsT_lt {set k i : Nat} (h : i ∈ elsT set k) : i < k := by
 have := (List.mem_filter.1 h).1; simpa using this
theorem before_sub {T : List Txn} {set a b i k : Nat} (ha : (elsT set T.length)[a]? = some i) (hb : (elsT set T.length)[b]? = some k) : beforeB (subT T set) a b = beforeB T i k := by
 have hi := elsT_lt (List.mem_of_getElem? ha)
 have hk := elsT_lt (List.mem_of_getElem? hb)
 simp only [beforeB, subT, List.getElem?_map, ha, hb, Option.map_some, List.getD_eq_getElem?_getD, List.getElem?_eq_getElem hi, List.getElem?_eq_getElem hk, Option.getD_some]
theorem mix_at {α : Type} {a b : List α} {k : Nat} (hl : a.length = b.length) (hk : k < b.length) : (a.take k ++ b.drop k)[k]? = b[k]? := by
 rw [List.getElem?_append_right (by simp; omega), List.getElem?_drop, List.length_take, Nat.min_eq_left (by omega)]
 congr 1; omega
theorem mix_set {α : Type} {a b : List α} {k : Nat} {x : α} (hl : a.length = b.length) (hk : k < b.length) (hx : a[k]? = some x) : (a.take k ++ b.drop k).set k x = a.take (k + 1) ++ b.drop (k + 1) := by
 have hk' : k < a.length := by omega
 have e : x = a[k] := by rw [List.getElem?_eq_getElem hk'] at hx; exact (Option.some.inj hx).symm
 have ht : (a.take k).length = k := by rw [List.length_take]; omega
 rw [List.drop_eq_getElem_cons hk, List.set_append_right _ _ (by omega), ht, Nat.sub_self, List.set_cons_zero, e, List.take_succ_eq_append_getElem hk', List.append_assoc]
 rfl
def workR (T : List Txn) (set i k q : Nat) (r : List Nat) : List Int := if q < i then upR T set r else if q = i then (upR T set r).take k ++ (rowI r).drop k else rowI r
theorem upR_len {T : List Txn} {set : Nat} {r : List Nat} : (upR T set r).length = r.length := by simp [upR]
theorem work_0 {T : List Txn} {set i q : Nat} {r : List Nat} : workR T set i 0 q r = if q < i then upR T set r else rowI r := by
 unfold workR; split
 ·rfl
 ·split <;> simp
theorem work_n {T : List Txn} {set i k q : Nat} {r : List Nat} (h : q = i → r.length = k) : workR T set i k q r = workR T set (i + 1) 0 q r := by
 rw [work_0]; unfold workR
 by_cases h1 : q < i
 ·rw [if_pos h1, if_pos (by omega)]
 ·rw [if_neg h1]
  by_cases h2 : q = i
  ·rw [if_pos h2, if_pos (by omega), ← h h2, List.take_of_length_le (by rw [upR_len]; exact Nat.le_refl _), List.drop_eq_nil_of_le (by simp [rowI]), List.append_nil]
  ·rw [if_neg h2, if_neg (by omega)]
theorem sub_len {T : List Txn} {set : Nat} : (subT T set).length = (elsT set T.length).length := by simp [subT]
section
variable (h : List Ev) (T : List Txn) (t dn op set : Nat)
theorem t1155 (hT : T.length ≤ 6) (hfl : ∀ t ∈ T, 0 ≤ t.first ∧ t.first ≤ t.last) (hs : set < 2 ^ 32) : HoldsRows Tryz.prog GL 52 [.a (partA h (afterR T) t dn op), .a (U set)] 35 3 (subRows T set) [] := by
 refine rows_of (t0 := 4) (tl := []) (by kernel_rfl) Tryz.func52 rfl rfl (by kernel_rfl) (by kernel_rfl) (by kernel_rfl) rfl rfl (AwpE.of ?_)
 have hal := afterR_len1 (T := T)
 have htst : ∀ i q, i < T.length → q < T.length → ((afterR T)[i]?.getD 0).testBit q = beforeB T i q := fun i q hi hq => by
  rw [afterR_at hi, Option.getD_some, bitsN_test, decide_eq_true hq, Bool.true_and]
 have hlt : ∀ b ∈ afterR T, b < 2 ^ 32 := fun b hb => by
  have := afterR_lt hb
  have := two6 hT
  omega
 (refine rO ?_; repeat' ((with_reducible first | refine rG ?_ | (refine rS ?_ ?_ <;> intro hp) | (refine rB ?_ ?_ <;> intro hb <;> try rw [hb]) | refine rA ?_ | fail) <;> try simp only [go_sem, simprocAttr, pin_r, pin_m, List.getElem?_cons_zero, List.getElem?_cons_succ, Option.getD_some, List.length_map, hal]))
 refine awp_loopA (fun k : Nat => [(1, .a (U set)), (2, .ref 2 0), (5, .own 5), (20, .a (I T.length)), (21, .a (I k))]) (fun k => [(2, .box [.a (evsA h), .a (unsA (afterR T)), .a (I t), .a (U dn), .a (U op)]), (5, .log 3 1 ((rowI (elsT set k)).map ienc))]) (fun k => k ≤ T.length) (T.length - ·) 0 ?_ ?_ (Nat.zero_le _) ?_
 ·simp only [go_sem, simprocAttr, pin_r, pin_m, List.getElem?_cons_zero, List.getElem?_cons_succ, Option.getD_some, List.length_map, hal]
 ·simp only [go_sem, simprocAttr, elsT, List.range_zero, List.filter_nil, rowI, List.map_nil]
 intro k j hk
 have hel := elsT_le set k
 by_cases hkl : k < T.length
 ·have hkI : ((k : Int) < (T.length : Int)) = True := eq_true (by omega)
  have hw := wrap_succ (n := T.length) hkl (by simp only [maxLen]; omega)
  have hsh := u32_shr (b := set) (k := k) (by omega)
  have hbt := u32_bit (k := k) hs
  have hes := elsT_s set k
  cases hb : set.testBit k with
  | false =>
   rw [hb] at hbt hes
   simp only [Bool.false_eq_true, if_false, List.append_nil] at hbt hes
   (refine rO ?_; repeat' ((with_reducible first | refine rG ?_ | (refine rS ?_ ?_ <;> intro hp) | (refine rB ?_ ?_ <;> intro hb <;> try rw [hb]) | refine rD ?_ | refine rA ?_ | fail) <;> try simp only [go_sem, simprocAttr, hkI, hsh, hbt, hw]))
   (refine ⟨k + 1, ?_, ?_, hkl, by dsimp only; omega⟩ <;> simp only [go_sem, simprocAttr, hw, hes])
  | true =>
   rw [hb] at hbt hes
   simp only [if_true] at hbt hes
   (refine rO ?_; repeat' ((with_reducible first | refine rG ?_ | (refine rS ?_ ?_ <;> intro hp) | (refine rB ?_ ?_ <;> intro hb <;> try rw [hb]) | refine rD ?_ | refine rA ?_ | fail) <;> try simp only [go_sem, simprocAttr, hkI, hsh, hbt, hw, List.length_map, rowI_len]))
   (refine ⟨k + 1, ?_, ?_, hkl, by dsimp only; omega⟩ <;> simp only [go_sem, simprocAttr, hw, hes, rowI, List.map_append, List.map_cons, List.map_nil, ienc_eq])
 ·have hkI : ((k : Int) < (T.length : Int)) = False := eq_false (by omega)
  obtain rfl : k = T.length := by omega
  have hsl := sub_len (T := T) (set := set)
  (refine rO ?_; repeat' ((with_reducible first | refine rG ?_ | (refine rS ?_ ?_ <;> intro hp) | (refine rB ?_ ?_ <;> intro hb <;> try rw [hb]) | refine rD ?_ | refine rA ?_ | fail) <;> try simp only [go_sem, simprocAttr, hkI, List.length_map, rowI_len]))
  refine sem_make (e := 34) (ti := ⟨1, 4, false, [.int .u32 0]⟩) (z0 := .int .u32 0) (n := (elsT set T.length).length) (by kernel_rfl) (by kernel_rfl) rfl rfl rfl (by simp only [go_sem, simprocAttr]) (by simp only [go_sem, simprocAttr]) (by omega) (by decide) ?_
  (refine rO ?_; repeat' ((with_reducible first | refine rG ?_ | (refine rS ?_ ?_ <;> intro hp) | (refine rB ?_ ?_ <;> intro hb <;> try rw [hb]) | refine rD ?_ | refine rA ?_ | fail) <;> try simp only [go_sem, simprocAttr, List.length_map, rowI_len]))
  generalize hE : elsT set T.length = E at *
  have hbs : ∀ {a b i k : Nat}, E[a]? = some i → E[b]? = some k → beforeB (subT T set) a b = beforeB T i k := fun ha hb => by
   rw [← hE] at ha hb; exact before_sub ha hb
  have hEl : ∀ i ∈ E, i < T.length := fun i hi => by rw [← hE] at hi; exact elsT_lt hi
  generalize hL : subT T set = L at *
  have hr0 : ∀ (a i : Nat), E[a]? = some i → (rowI E)[a]? = some (i : Int) := fun a i h => by rw [rowI, List.getElem?_map, h]; rfl
  refine awp_loopA (fun i : Nat => [(2, .ref 2 0), (5, .own 5), (7, .own 36), (37, .own 5), (38, .a (I E.length)), (39, .a (I i))]) (fun i => [(2, .box [.a (evsA h), .a (unsA (afterR T)), .a (I t), .a (U dn), .a (U op)]), (5, .log 3 1 ((rowI E).map ienc)), (36, .log 34 1 ((rowsAt L (i * L.length)).map uenc))]) (fun i => i ≤ E.length) (E.length - ·) 0 ?_ ?_ (Nat.zero_le _) ?_
  ·simp only [go_sem, simprocAttr, List.length_map, rowI_len]
  ·simp only [go_sem, simprocAttr, Nat.zero_mul, rowsAt_0, List.map_replicate, uenc_eq, hsl]; try rfl
  intro i j2 hi
  by_cases hil : i < E.length
  ·have hiI : ((i : Int) < (E.length : Int)) = True := eq_true (by omega)
   have hwi := wrap_succ (n := E.length) hil (by simp only [maxLen]; omega)
   have hx : E[i]? = some E[i] := List.getElem?_eq_getElem hil
   have hxl := hEl _ (List.getElem_mem hil)
   generalize E[i] = a at hx hxl
   have hx2 := hr0 _ _ hx
   have hAa : (afterR T)[a]? = some (bitsN (beforeB T a) T.length) := afterR_at hxl
   have hAt := htst a
   rw [hAa, Option.getD_some] at hAt
   have hA32 := hlt _ (List.mem_of_getElem? hAa)
   generalize bitsN (beforeB T a) T.length = wa at hAa hAt hA32
   have hrl := rowsAt_len L
   (refine rO ?_; repeat' ((with_reducible first | refine rG ?_ | (refine rS ?_ ?_ <;> intro hp) | (refine rB ?_ ?_ <;> intro hb <;> try rw [hb]) | refine rD ?_ | refine rA ?_ | fail) <;> try simp only [go_sem, simprocAttr, hiI, hx2, ienc_eq, List.length_map, rowI_len]))
   refine awp_loopA (fun k : Nat => [(2, .ref 2 0), (5, .own 5), (7, .own 36), (8, .a (I i)), (9, .a (I a)), (37, .own 5), (38, .a (I E.length)), (39, .a (I i)), (44, .own 5), (45, .a (I E.length)), (46, .a (I k))]) (fun k => [(2, .box [.a (evsA h), .a (unsA (afterR T)), .a (I t), .a (U dn), .a (U op)]), (5, .log 3 1 ((rowI E).map ienc)), (36, .log 34 1 ((rowsAt L (i * L.length + k)).map uenc))]) (fun k => k ≤ E.length) (E.length - ·) 0 ?_ ?_ (Nat.zero_le _) ?_
   ·simp only [go_sem, simprocAttr, List.length_map, rowI_len]
   ·simp only [go_sem, simprocAttr, Nat.add_zero]
   intro k j3 hk
   by_cases hkl : k < E.length
   ·have hkI : ((k : Int) < (E.length : Int)) = True := eq_true (by omega)
    have hwk := wrap_succ (n := E.length) hkl (by simp only [maxLen]; omega)
    have hy : E[k]? = some E[k] := List.getElem?_eq_getElem hkl
    have hyl := hEl _ (List.getElem_mem hkl)
    generalize E[k] = b at hy hyl
    have hy2 := hr0 _ _ hy
    have hbq := hbs hx hy
    have hra := rowsAt_at (l := L) (i := i) (k := k) (by omega) (by omega)
    have hrs := rowsAt_s (l := L) (i := i) (k := k) (by omega) (by omega)
    have hsh := u32_shr (b := wa) (k := b) (by omega)
    have hbt := u32_bit (k := b) hA32
    rw [hAt b hxl hyl, ← hbq] at hbt
    have hl32 : bitsN (beforeB L i) k < 2 ^ 32 := Nat.lt_of_lt_of_le (bitsN_lt _ _) (Nat.pow_le_pow_right (by omega) (by omega))
    have hs2 : bitsN (beforeB L i) (k + 1) = bitsN (beforeB L i) k + if beforeB L i k then 2 ^ k else 0 := rfl
    have ho2 := bitsN_or (beforeB L i) k
    have hp0 : 2 ^ k < 2 ^ 32 := Nat.pow_lt_pow_right (by omega) (by omega)
    have hsl1 := u32_shl (k := k) (by omega)
    have hsl0 : IntKind.u32.wrap ((0 : Int) * 2 ^ (min k 32)) = 0 := by rw [Int.zero_mul]; rfl
    have hor1 := u32_or hl32 hp0
    have hor0 : orK .u32 (bitsN (beforeB L i) k : Int) 0 = ((bitsN (beforeB L i) k : Nat) : Int) := by
     have := u32_or hl32 (show 0 < 2 ^ 32 by decide)
     rw [Nat.or_zero] at this; exact this
    have hq2 : ((rowsAt L (i * L.length + k)).map uenc)[i]? = some (uenc (bitsN (beforeB L i) k)) := by rw [List.getElem?_map, hra]; rfl
    cases hb : beforeB L i k with
    | false =>
     rw [hb] at hbt hs2
     simp only [Bool.false_eq_true, if_false, Nat.add_zero] at hbt hs2
     rw [hs2] at hrs
     have hrs2 : rowsAt L (i * L.length + (k + 1)) = _ := hrs
     (refine rO ?_; repeat' ((with_reducible first | refine rG ?_ | (refine rS ?_ ?_ <;> intro hp) | (refine rB ?_ ?_ <;> intro hb <;> try rw [hb]) | refine rD ?_ | refine rA ?_ | fail) <;> try simp only [go_sem, simprocAttr, hkI, hy2, ienc_eq, hra, hAa, uenc_eq, hsh, hbt, hsl0, hor0, List.length_map]))
     rw [st_eref_one (sz := 1) (j := 0) (ti := ⟨1, 4, false, [.int .u32 0]⟩) (e := 34) (xs := (rowsAt L (i * L.length + k)).map uenc) (by kernel_rfl) (by simp only [go_sem, simprocAttr]) hq2 rfl (by omega) rfl]
     (refine rO ?_; repeat' ((with_reducible first | refine rG ?_ | (refine rS ?_ ?_ <;> intro hp) | (refine rB ?_ ?_ <;> intro hb <;> try rw [hb]) | refine rD ?_ | refine rA ?_ | fail) <;> try simp only [go_sem, simprocAttr, hwk]))
     refine ⟨k + 1, ?_, ?_, hkl, by show E.length - (k + 1) < E.length - k; omega⟩
     ·simp only [go_sem, simprocAttr, hwk]
     ·simp only [go_sem, simprocAttr, hrs2, List.map_set]; rfl
    | true =>
     rw [hb] at hbt hs2
     simp only [if_true] at hbt hs2
     rw [hs2, ← ho2] at hrs
     have hrs2 : rowsAt L (i * L.length + (k + 1)) = _ := hrs
     (refine rO ?_; repeat' ((with_reducible first | refine rG ?_ | (refine rS ?_ ?_ <;> intro hp) | (refine rB ?_ ?_ <;> intro hb <;> try rw [hb]) | refine rD ?_ | refine rA ?_ | fail) <;> try simp only [go_sem, simprocAttr, hkI, hy2, ienc_eq, hra, hAa, uenc_eq, hsh, hbt, hsl1, hor1, List.length_map]))
     rw [st_eref_one (sz := 1) (j := 0) (ti := ⟨1, 4, false, [.int .u32 0]⟩) (e := 34) (xs := (rowsAt L (i * L.length + k)).map uenc) (by kernel_rfl) (by simp only [go_sem, simprocAttr]) hq2 rfl (by omega) rfl]
     (refine rO ?_; repeat' ((with_reducible first | refine rG ?_ | (refine rS ?_ ?_ <;> intro hp) | (refine rB ?_ ?_ <;> intro hb <;> try rw [hb]) | refine rD ?_ | refine rA ?_ | fail) <;> try simp only [go_sem, simprocAttr, hwk]))
     refine ⟨k + 1, ?_, ?_, hkl, by show E.length - (k + 1) < E.length - k; omega⟩
     ·simp only [go_sem, simprocAttr, hwk]
     ·simp only [go_sem, simprocAttr, hrs2, List.map_set]; rfl
   ·have hkI : ((k : Int) < (E.length : Int)) = False := eq_false (by omega)
    obtain rfl : k = E.length := by omega
    have hmu : i * L.length + E.length = (i + 1) * L.length := by rw [Nat.add_mul, Nat.one_mul, hsl]
    (refine rO ?_; repeat' ((with_reducible first | refine rG ?_ | (refine rS ?_ ?_ <;> intro hp) | (refine rB ?_ ?_ <;> intro hb <;> try rw [hb]) | refine rD ?_ | refine rA ?_ | fail) <;> try simp only [go_sem, simprocAttr, hkI, hwi]))
    (refine ⟨i + 1, ?_, ?_, hil, by dsimp only; omega⟩ <;> simp only [go_sem, simprocAttr, hwi, hmu])
  ·have hiI : ((i : Int) < (E.length : Int)) = False := eq_false (by omega)
   obtain rfl : i = E.length := by omega
   rw [← hsl] at hiI ⊢
   (refine rO ?_; repeat' ((with_reducible first | refine rG ?_ | (refine rS ?_ ?_ <;> intro hp) | (refine rB ?_ ?_ <;> intro hb <;> try rw [hb]) | refine rD ?_ | refine rA ?_ | fail) <;> try simp only [go_sem, simprocAttr, hiI, rowsAt_n]))
   refine call_inl (Inl.own (e := 34) (z := 1) (xs := (afterR L).map uenc) (by simp only [go_sem, simprocAttr, rowsAt_n]) (by omega) ?_)
   have hL6 : L.length ≤ 6 := by omega
   have h64 := two6 hL6
   have hLfl : ∀ t ∈ L, 0 ≤ t.first ∧ t.first ≤ t.last := fun t ht => by
    rw [← hL] at ht
    obtain ⟨i, hi, rfl⟩ := List.mem_map.1 ht
    have hi' := hEl i (by rw [← hE]; exact hi)
    rw [List.getD_eq_getElem?_getD, List.getElem?_eq_getElem hi', Option.getD_some]
    exact hfl _ (List.getElem_mem hi')
   have hcnt := all_count hL6
   have hAll := t1140 (afterR L) (by rw [afterR_len1]; omega) (fun b hb => by have := afterR_lt hb; omega) (may_all hL6 hLfl) hcnt
   have hsub : subRows T set = (allRows (afterR L)).map (upR T set) := by rw [subRows, hL]
   have hin : ∀ r ∈ allRows (afterR L), r.length ≤ 6 ∧ ∀ k ∈ r, k < E.length := fun r hr => by
    obtain ⟨h1, h2⟩ := all_nd hr
    refine ⟨?_, fun k hk => by have := h2 k hk; omega⟩
    have h3 : r.length ≤ (List.range L.length).length := h1.length_le_of_subset fun k hk => List.mem_range.2 (h2 k hk)
    simp at h3; omega
   have hup : ∀ r, upR T set r = r.map fun k => ((E.getD k 0 : Nat) : Int) := fun r => by rw [upR, hE]
   rw [hsub]
   generalize allRows (afterR L) = rows at *
   refine inl_rows hAll rfl (by simp; omega) fun vals hvl => ?_
   (refine rO ?_; repeat' ((with_reducible first | refine rG ?_ | (refine rS ?_ ?_ <;> intro hp) | (refine rB ?_ ?_ <;> intro hb <;> try rw [hb]) | refine rD ?_ | refine rA ?_ | fail) <;> try simp only [go_sem, simprocAttr, PBR, List.length_map]))
   have hvl2 : vals.length = rows.length := by simpa using hvl
   have inR5 : inR 5 = false := by decide
   have hvr : ∀ {i : Nat} {v : Value}, vals[i]? = some v → (vals.map fun v => [D.v v])[i]? = some [D.v v] := fun h => by rw [List.getElem?_map, h]; rfl
   refine awp_loopG (fun i σ => i ≤ rows.length ∧ σ.regs 5 = .own 5 ∧ σ.regs 12 = .own 700000 ∧ σ.regs 74 = .own 700000 ∧ σ.regs 75 = .a (I rows.length) ∧ σ.regs 76 = .a (I i) ∧ σ.mem 5 = some (.log 3 1 ((rowI E).map ienc)) ∧ σ.mem 700000 = some (.log 35 1 (vals.map fun v => [.v v])) ∧ σ.mem 700001 = some (.sem (ties 710000 vals)) ∧ ∀ q r, rows[q]? = some r → σ.mem (710000 + q) = some (.log 3 1 ((workR T set i 0 q r).map ienc))) (fun i => rows.length - i) 0 ⟨_, Ghost.refl _, Nat.zero_le _, ?_, ?_, ?_, ?_, ?_, ?_, ?_, ?_, fun q r hq => ?_⟩ ?_
   iterate 8 (· simp only [go_sem, simprocAttr, PBR, List.length_map, hvl2, inR5])
   ·rw [work_0, if_neg (Nat.not_lt_zero _)]
    exact br_i (by simp; omega) (by rw [List.getElem?_map, hq]; rfl)
   rintro i τ ⟨hi, r5, r12, r74, r75, r76, m5, m7, mt, mr⟩
   by_cases hil : i < rows.length
   ·have hiI : ((i : Int) < (rows.length : Int)) = True := eq_true (by omega)
    have hwi := wrap_succ (n := rows.length) hil (by simp only [maxLen]; omega)
    have hx : rows[i]? = some rows[i] := List.getElem?_eq_getElem hil
    have hxr := hin _ (List.getElem_mem hil)
    have hv : vals[i]? = some (vals[i]'(by omega)) := List.getElem?_eq_getElem (by omega)
    generalize rows[i] = r at hx hxr
    generalize (vals[i]'(by omega)) = v at hv
    have hv2 := hvr hv
    have mi := mr i r hx
    rw [work_0, if_neg (Nat.lt_irrefl i)] at mi
    (refine rO ?_; repeat' ((with_reducible first | refine rG ?_ | (refine rS ?_ ?_ <;> intro hp) | (refine rB ?_ ?_ <;> intro hb <;> try rw [hb]) | refine rD ?_ | refine rA ?_ | fail) <;> try simp only [go_sem, simprocAttr, r5, r12, r74, r75, r76, m5, m7, hiI, hv2, List.length_map, Bool.true_or]))
    refine sem_tie_load (i := i) (v := v) (vals := vals) (e1 := 3) (row := (rowI r).map ienc) ?_ ?_ hv ?_ ?_
    iterate 3 (· simp only [go_sem, simprocAttr, m7, hv2, mt, mi])
    (refine rO ?_; repeat' ((with_reducible first | refine rG ?_ | (refine rS ?_ ?_ <;> intro hp) | (refine rB ?_ ?_ <;> intro hb <;> try rw [hb]) | refine rD ?_ | refine rA ?_ | fail) <;> try simp only [go_sem, simprocAttr, r5, r12, r74, r75, r76, m5, m7, mi, hwi, List.length_map, rowI_len]))
    refine awp_loopG (fun k σ => k ≤ r.length ∧ σ.regs 5 = .own 5 ∧ σ.regs 12 = .own 700000 ∧ σ.regs 15 = .own (710000 + i) ∧ σ.regs 74 = .own 700000 ∧ σ.regs 75 = .a (I rows.length) ∧ σ.regs 76 = .a (I i) ∧ σ.regs 80 = .own (710000 + i) ∧ σ.regs 81 = .a (I r.length) ∧ σ.regs 82 = .a (I k) ∧ σ.mem 5 = some (.log 3 1 ((rowI E).map ienc)) ∧ σ.mem 700000 = some (.log 35 1 (vals.map fun v => [.v v])) ∧ σ.mem 700001 = some (.sem (ties 710000 vals)) ∧ ∀ q r, rows[q]? = some r → σ.mem (710000 + q) = some (.log 3 1 ((workR T set i k q r).map ienc))) (fun k => r.length - k) 0 ⟨_, Ghost.refl _, Nat.zero_le _, ?_, ?_, ?_, ?_, ?_, ?_, ?_, ?_, ?_, ?_, ?_, ?_, fun q r' hq => ?_⟩ ?_
    iterate 12 (· simp only [go_sem, simprocAttr, r5, r12, r74, r75, r76, m5, m7, mt, mi, List.length_map, rowI_len])
    ·exact mr q r' hq
    rintro k τ2 ⟨hk, r5, r12, r15, r74, r75, r76, r80, r81, r82, m5, m7, mt, mr2⟩
    have mi := mr2 i r hx
    have hw0 : workR T set i k i r = (upR T set r).take k ++ (rowI r).drop k := by unfold workR; rw [if_neg (Nat.lt_irrefl i), if_pos rfl]
    by_cases hkl : k < r.length
    ·have hkI : ((k : Int) < (r.length : Int)) = True := eq_true (by omega)
     have hwk := wrap_succ (n := r.length) hkl (by have := hxr.1; simp only [maxLen]; omega)
     have hc : r[k]? = some r[k] := List.getElem?_eq_getElem hkl
     have hcl := hxr.2 _ (List.getElem_mem hkl)
     generalize r[k] = c at hc hcl
     have hll : (upR T set r).length = (rowI r).length := by rw [upR_len, rowI_len]
     have hE1 : E[c]? = some (E.getD c 0) := by rw [List.getD_eq_getElem?_getD, List.getElem?_eq_getElem hcl]; rfl
     have hE2 := hr0 _ _ hE1
     have hu : (upR T set r)[k]? = some ((E.getD c 0 : Nat) : Int) := by rw [hup, List.getElem?_map, hc]; rfl
     have hri : (rowI r)[k]? = some (c : Int) := by rw [rowI, List.getElem?_map, hc]; rfl
     have hkr : k < (rowI r).length := by rw [rowI_len]; exact hkl
     have hat : (workR T set i k i r)[k]? = some (c : Int) := by rw [hw0, mix_at hll hkr, hri]
     have hset : (workR T set i k i r).set k ((E.getD c 0 : Nat) : Int) = workR T set i (k + 1) i r := by
      rw [hw0, mix_set hll hkr hu]; unfold workR; rw [if_neg (Nat.lt_irrefl i), if_pos rfl]
     have hne : ∀ q r', q ≠ i → workR T set i (k + 1) q r' = workR T set i k q r' := fun q r' h => by unfold workR; rw [if_neg h, if_neg h]
     generalize E.getD c 0 = ec at hE1 hE2 hset
     have hat2 : ((workR T set i k i r).map ienc)[k]? = some (ienc c) := by rw [List.getElem?_map, hat]; rfl
     (refine rO ?_; repeat' ((with_reducible first | refine rG ?_ | (refine rS ?_ ?_ <;> intro hp) | (refine rB ?_ ?_ <;> intro hb <;> try rw [hb]) | refine rD ?_ | refine rA ?_ | fail) <;> try simp only [go_sem, simprocAttr, r5, r12, r15, r74, r75, r76, r80, r81, r82, m5, m7, mi, hkI, hat, hE2, ienc_eq]))
     rw [st_eref_one (sz := 1) (j := 0) (ti := ⟨1, 8, false, [.int .i64 0]⟩) (e := 3) (xs := (workR T set i k i r).map ienc) (by kernel_rfl) (by simp only [go_sem, simprocAttr, mi]) hat2 rfl (by omega) rfl]
     (refine rO ?_; repeat' ((with_reducible first | refine rG ?_ | (refine rS ?_ ?_ <;> intro hp) | (refine rB ?_ ?_ <;> intro hb <;> try rw [hb]) | refine rD ?_ | refine rA ?_ | fail) <;> try simp only [go_sem, simprocAttr, r82, hwk]))
     have b5 : ((710000 + i : Nat) == 5) = false := rid_beq' (by omega)
     have b0 : ((710000 + i : Nat) == 700000) = false := rid_beq' (by omega)
     have b1 : ((710000 + i : Nat) == 700001) = false := rid_beq' (by omega)
     refine ⟨_, k + 1, Ghost.refl _, ⟨hkl, ?_, ?_, ?_, ?_, ?_, ?_, ?_, ?_, ?_, ?_, ?_, ?_, fun q r' hq => ?_⟩, by omega⟩
     iterate 12 (· simp only [go_sem, simprocAttr, r5, r12, r15, r74, r75, r76, r80, r81, r82, m5, m7, mt, b5, b0, b1, hwk])
     by_cases hqi : q = i
     ·subst hqi
      rw [hx] at hq; cases hq
      rw [← hset, List.map_set]
      simp [S.setOb, S.put, upd, ienc]
     ·rw [hne q r' hqi]
      have h1 := mr2 q r' hq
      simp [S.setOb, S.put, upd, hqi, h1]
    ·have hkI : ((k : Int) < (r.length : Int)) = False := eq_false (by omega)
     obtain rfl : k = r.length := by omega
     (refine rO ?_; repeat' ((with_reducible first | refine rG ?_ | (refine rS ?_ ?_ <;> intro hp) | (refine rB ?_ ?_ <;> intro hb <;> try rw [hb]) | refine rD ?_ | refine rA ?_ | fail) <;> try simp only [go_sem, simprocAttr, r5, r12, r15, r74, r75, r76, r80, r81, r82, m5, m7, mi, hkI, hwi]))
     refine ⟨_, i + 1, Ghost.refl _, ⟨hil, ?_, ?_, ?_, ?_, ?_, ?_, ?_, ?_, fun q r' hq => ?_⟩, by omega⟩
     iterate 8 (· simp only [go_sem, simprocAttr, r5, r12, r74, r75, r76, m5, m7, mt, hwi])
     have h1 := mr2 q r' hq
     rw [work_n (fun e => by subst e; rw [hx] at hq; cases hq; rfl)] at h1
     exact h1
   ·have hiI : ((i : Int) < (rows.length : Int)) = False := eq_false (by omega)
    obtain rfl : i = rows.length := by omega
    (refine rO ?_; repeat' ((with_reducible first | refine rG ?_ | (refine rS ?_ ?_ <;> intro hp) | (refine rB ?_ ?_ <;> intro hb <;> try rw [hb]) | refine rD ?_ | refine rA ?_ | fail) <;> try simp only [go_sem, simprocAttr, r5, r12, r74, r75, r76, m5, m7, hiI]))
    refine ⟨700000, vals, by omega, ?_, ?_, ?_, ?_, fun q x hq => ?_, rfl⟩
    iterate 3 (· simp only [go_sem, simprocAttr, m7, mt])
    ·simpa using hvl2
    ·rw [List.getElem?_map] at hq
     obtain ⟨r, hr, rfl⟩ := Option.map_eq_some_iff.1 hq
     have h1 := mr q r hr
     rw [work_0, if_pos (List.getElem?_eq_some_iff.1 hr).1] at h1
     exact h1
end
end Go.VC
end
section
set_option maxRecDepth 100000
namespace Go.VC
open Go.RowKit Go.Proofs Go.IntWalk
theorem run_eq_fn {P : Program} {w : World} {d : Nat} {t : TypeId} {ps rs : Array TypeId} {v0 : Bool} {f : Fn} {fi vs : Array Value} (ht : P.underlying t = some (.func ps rs v0)) : (Op.equalIn (d + 1) t (.func f fi vs) .nilFunc).run P w = .ok false w := by
 simp only [Op.equalIn, Sem.run_bind, run_under ht, Result.andThen_ok]
 rfl
theorem run_eq_nfn {P : Program} {w : World} {d : Nat} {t : TypeId} {ps rs : Array TypeId} {v0 : Bool} (ht : P.underlying t = some (.func ps rs v0)) : (Op.equalIn (d + 1) t .nilFunc .nilFunc).run P w = .ok true w := by
 simp only [Op.equalIn, Sem.run_bind, run_under ht, Result.andThen_ok]
 rfl
section
variable {P : Program} {gl : Nat → Option (List D)} {σ : S} {K : S → Prop} {dst : Option Tmp} {ty : TypeId} {pos : String} {after : Array Edge} {g : Option (Nat × Bool)}
theorem sem_fn_nil {t t' : Nat} {ps rs : Array TypeId} {v0 : Bool} (ht : P.underlying t = some (.func ps rs v0)) {x : Operand} {f : FuncId} {caps : List D} (hx : σ.eval gl x = .a (.d (.fn f caps))) (hk : K (σ.put dst (.a (.d (.v (.bool false)))))) : SemOp P gl ⟨dst, .binOp .eql t x (.const .nilFunc) t', ty, pos, after, g⟩ σ K := by
 intro c β a w hP hgl hs hd
 subst hP; subst hgl
 have hv := (hx ▸ hs.eval x).inv_d
 refine Run.val (v := .bool false) (w' := w) (fun _ e => by cases e) ?_ ⟨_, β, hk, hs.put hd (.a (.v rfl))⟩
 have hn : a.eval (.const .nilFunc) = .nilFunc := rfl
 generalize hvv : a.eval x = v at hv
 cases hv with
 | fn hl hd =>
  have hr := fun vs => run_eq_fn (P := c.P) (w := w) (d := 9999) (t := t) (f := .func f) (fi := #[]) (vs := vs) ht
  simp [execOp, hvv, hn, eqGuard, binOp, Op.equal, Op.maxDepth, hr]
theorem sem_nilfn_nil {t t' : Nat} {ps rs : Array TypeId} {v0 : Bool} (ht : P.underlying t = some (.func ps rs v0)) {x : Operand} (hx : σ.eval gl x = .a (.d (.v .nilFunc))) (hk : K (σ.put dst (.a (.d (.v (.bool true)))))) : SemOp P gl ⟨dst, .binOp .eql t x (.const .nilFunc) t', ty, pos, after, g⟩ σ K := by
 intro c β a w hP hgl hs hd
 subst hP; subst hgl
 have hv := (hx ▸ hs.eval x).inv_v
 refine Run.val (v := .bool true) (w' := w) (fun _ e => by cases e) ?_ ⟨_, β, hk, hs.put hd (.a (.v rfl))⟩
 have hr := run_eq_nfn (P := c.P) (w := w) (d := 9999) ht
 have hn : a.eval (.const .nilFunc) = .nilFunc := rfl
 simp [execOp, hv, hn, eqGuard, binOp, Op.equal, Op.maxDepth, hr]
end
theorem draw_J {P : Program} {gl : Nat → Option (List D)} {id : Nat} {l : List Oper} {Q : Ex → S → Prop} {σ : S} {X : Prop} (Base : S → Prop) (F : Nat → S → Prop) (hB : (Region.noSelect l.toArray && backO l) = true) (h0 : Base σ)
  (hstep : ∀ j o, l[j]? = some o → ∀ τ, Base τ → (∀ i, depOn o i = true → F i τ) → opsA P gl l.toArray [o] τ fun τ' => Base τ' ∧ F j τ' ∧ ∀ i oi, l[i]? = some oi → i ≠ j → depOn oi j = false → F i τ → F i τ')
  (hfin : ∀ τ, Base τ → (∀ i, i < l.length → F i τ) → Q .normal τ) : drawK l.toArray X (SemCode P gl (.region id l.toArray true) Q σ) := by
 refine draw_sem fun c β a w ρ n hP hgl hm hdN _ hs => ?_
 subst hP; subst hgl
 simp only [Bool.and_eq_true] at hB
 have hdst : ∀ o ∈ l.toArray.toList, ∀ d, o.dst = some d → d < c.N := fun o ho d hod => by
  have := List.all_eq_true.1 hdN o ho
  rw [hod] at this
  simpa using this
 have hback : ∀ j o, l[j]? = some o → ∀ e ∈ o.after, Region.binds .any e = true → e.on < j := fun j o ho e he hb => by
  have h1 := List.all_eq_true.1 hB.2 j (List.mem_range.2 (List.getElem?_eq_some_iff.1 ho).1)
  simp only [ho, Array.all_eq_true', Bool.or_eq_true, Bool.not_eq_true', decide_eq_true_eq] at h1
  rcases h1 e he with h2 | h2
  ·rw [hb] at h2; cases h2
  ·exact h2
 have key : ∀ {b : Array Bool} {m : Nat}, b.getD m false = true → m < b.size := fun {b m} h => by
  rcases Nat.lt_or_ge m b.size with h' | h'
  ·exact h'
  ·simp [Array.getElem?_eq_none h'] at h
 refine wpIn_region_any hm (anyI_sound (D := a.defers) (fun listed τ => listed.size = l.length ∧ Base τ ∧ (∀ i, listed.getD i false = true → F i τ) ∧ ∀ i oi, l[i]? = some oi → listed.getD i false = true → ∀ k, depOn oi k = true → listed.getD k false = true) hdst ?_ ?_ l.toArray.size _ (List.range l.length) (by simp) (fun i hi => ?_) (hs.drawn _) rfl ⟨by simp, h0, fun i hi => ?_, fun i oi _ hi => ?_⟩)
 ·rintro listed τ β' a' w' hs' hDf hr ⟨hsz, hb, hF, _⟩
  refine ⟨τ, β', hs', hfin τ hb fun i hi => hF i ?_⟩
  -- all are done
  have all : ∀ n i, i < n → i < l.length → listed.getD i false = true := by
   intro n
   induction n with
   | zero => intro i h; omega
   | succ n ih =>
    intro i hin hil
    cases hc : listed.getD i false with
    | true => rfl
    | false =>
     exfalso
     have hmem : i ∈ Region.ready .any l.toArray listed := mem_ready.2 ⟨by
      rw [Array.getD_eq_getD_getElem?] at hc ⊢
      rw [Array.getElem?_eq_getElem (by omega)] at hc ⊢
      simpa using hc, l[i], by simp [hil], fun e he hb => by
      have := hback i l[i] (List.getElem?_eq_getElem hil) e he hb
      exact ih _ (by omega) (by omega)⟩
     rw [hr] at hmem; cases hmem
  exact all (i + 1) i (by omega) hi
 ·rintro listed τ i o hi ho ⟨hsz, hb, hF, hD⟩
  obtain ⟨hun, o', ho', hall⟩ := mem_ready.1 hi
  rw [ho] at ho'; cases ho'
  have ho2 : l[i]? = some o := by simpa using ho
  refine opsA_mono (fun τ' h => ?_) [o] (hstep i o ho2 τ hb fun k hk => by
   unfold depOn at hk
   rw [Array.any_eq_true'] at hk
   obtain ⟨e, he, h2⟩ := hk
   simp only [Bool.and_eq_true, beq_iff_eq] at h2
   rw [← h2.2]
   exact hF _ (hall e he h2.1))
  obtain ⟨hb', hFi, hrest⟩ := h
  have hdl : ∀ k, depOn o k = true → listed.getD k false = true := fun k hk => by
   unfold depOn at hk
   rw [Array.any_eq_true'] at hk
   obtain ⟨e, he, h2⟩ := hk
   simp only [Bool.and_eq_true, beq_iff_eq] at h2
   rw [← h2.2]
   exact hall e he h2.1
  have hset : ∀ k, listed.getD k false = true → (listed.setIfInBounds i true).getD k false = true := fun k hk => by
   by_cases e : i = k
   ·subst e
    have := key hk
    simp [this]
   ·rw [getD_set_ne false e]; exact hk
  refine ⟨by simp [hsz], hb', fun k hk => ?_, fun k ok hok hk q hq => ?_⟩
  ·by_cases e : i = k
   ·subst e; exact hFi
   ·rw [getD_set_ne false e] at hk
    have hkl : k < l.length := by have := key hk; omega
    refine hrest k l[k] (List.getElem?_eq_getElem hkl) (fun e' => e e'.symm) ?_ (hF k hk)
    cases hdk : depOn l[k] i with
    | false => rfl
    | true =>
     have := hD k l[k] (List.getElem?_eq_getElem hkl) hk i hdk
     rw [Array.getD_eq_getD_getElem?] at hun this
     have hil := (List.getElem?_eq_some_iff.1 ho2).1
     rw [Array.getElem?_eq_getElem (by omega)] at hun this
     simp_all
  ·by_cases e : i = k
   ·subst e
    rw [ho2] at hok; cases hok
    exact hset q (hdl q hq)
   ·rw [getD_set_ne false e] at hk
    exact hset q (hD k ok hok hk q hq)
 ·rw [Array.getD_eq_getD_getElem?] at hi
  rw [List.mem_range]
  rcases Nat.lt_or_ge i l.length with h | h
  ·exact h
  ·rw [Array.getElem?_eq_none (by simpa using h)] at hi; cases hi
 ·rw [Array.getD_eq_getD_getElem?, Array.getElem?_replicate] at hi
  split at hi <;> simp at hi
 ·rw [Array.getD_eq_getD_getElem?, Array.getElem?_replicate] at hi
  split at hi <;> simp at hi
def KB (L : List (Nat × R)) (M : List (Nat × Ob)) (τ : S) : Prop := (∀ p ∈ L, τ.regs p.1 = p.2) ∧ ∀ p ∈ M, τ.mem p.1 = some p.2
def dY : Nat → Nat
 | 6 => 12
 | j => 69 + j
theorem dY_ne : ∀ {i j : Nat}, i < 7 → j < 7 → i ≠ j → dY i ≠ dY j
 | i, j, hi, hj, h => by
  unfold dY
  split <;> split <;> first | omega | (intro e; omega)
def GY (r : List Int) (t : Nat) : Nat → R → (Nat → Option Ob) → Prop
 | 0, x, _ => x = .a (intsA r)
 | 1, x, _ => x = .cs (r.map ienc)
 | 2, x, _ => x = .ref 2 2
 | 3, x, _ => x = .a (I t)
 | 4, x, m => x = .own 73 ∧ m 73 = some (.log 3 1 [ienc t])
 | 5, x, m => x = .own 74 ∧ m 74 = some (.log 3 1 ((r ++ [(t : Int)]).map ienc))
 | 6, x, m => x = .own 74 ∧ m 74 = some (.log 3 1 ((r ++ [(t : Int)]).map ienc))
 | _, _, _ => True
def PostY (L : List (Nat × R)) (M : List (Nat × Ob)) (r : List Int) (t j : Nat) (τ τ' : S) : Prop :=
 KB L M τ' ∧ GY r t j (τ'.regs (dY j)) τ'.mem ∧ ∀ i, i < 7 → i ≠ j → (j = 5 → i ≠ 6) → GY r t i (τ.regs (dY i)) τ.mem → GY r t i (τ'.regs (dY i)) τ'.mem
def okKB (L : List (Nat × R)) (M : List (Nat × Ob)) : Prop := (∀ p ∈ L, p.1 < 69 ∧ p.1 ≠ 12 ∧ p.2.kill 73 = p.2 ∧ p.2.kill 74 = p.2) ∧ ∀ p ∈ M, p.1 ≠ 73 ∧ p.1 ≠ 74 ∧ p.2.kill 73 = p.2 ∧ p.2.kill 74 = p.2
section
variable {L : List (Nat × R)} {M : List (Nat × Ob)} {r : List Int} {t j : Nat} {τ : S}
theorem dY_lo (hk : okKB L M) {p : Nat × R} (hp : p ∈ L) : p.1 ≠ dY j := by
 obtain ⟨h1, h2, _⟩ := hk.1 p hp
 unfold dY; split <;> omega
theorem postY_put {x : R} (hj : j < 7) (hk : okKB L M) (h : KB L M τ) (hx : GY r t j x τ.mem) : PostY L M r t j τ (τ.put (some (dY j)) x) := by
 refine ⟨⟨fun p hp => ?_, h.2⟩, ?_, fun i hi hne h6 hF => ?_⟩
 ·show upd τ.regs (dY j) x p.1 = _
  rw [upd, if_neg (dY_lo hk hp)]; exact h.1 p hp
 ·show GY r t j (upd τ.regs (dY j) x (dY j)) τ.mem
  rw [upd, if_pos rfl]; exact hx
 ·show GY r t i (upd τ.regs (dY j) x (dY i)) τ.mem
  rw [upd, if_neg (dY_ne hi hj hne)]; exact hF
theorem GY_new {d i : Nat} {x : Ob} {y : R} {m : Nat → Option Ob} (hd : (d = 73 ∧ i ≠ 4) ∨ (d = 74 ∧ i ≠ 5 ∧ i ≠ 6)) (hi : i < 7) (h : GY r t i y m) : GY r t i (y.kill d) (fun o => if o = d then some x else (m o).map (Ob.kill d)) := by
 match i, hi, h with
 | 0, _, h => unfold GY at h ⊢; rw [h]; rfl
 | 1, _, h => unfold GY at h ⊢; rw [h]; rfl
 | 2, _, h => rcases hd with ⟨rfl, _⟩ | ⟨rfl, _⟩ <;> (unfold GY at h ⊢; rw [h]; rfl)
 | 3, _, h => unfold GY at h ⊢; rw [h]; rfl
 | 4, _, h =>
  obtain ⟨h1, h2⟩ := h
  rcases hd with ⟨_, h⟩ | ⟨rfl, _⟩
  ·exact absurd rfl h
  ·exact ⟨by rw [h1]; rfl, by simp [h2, Ob.kill]⟩
 | 5, _, h =>
  obtain ⟨h1, h2⟩ := h
  rcases hd with ⟨rfl, _⟩ | ⟨_, h, _⟩
  ·exact ⟨by rw [h1]; rfl, by simp [h2, Ob.kill]⟩
  ·exact absurd rfl h
 | 6, _, h =>
  obtain ⟨h1, h2⟩ := h
  rcases hd with ⟨rfl, _⟩ | ⟨_, _, h⟩
  ·exact ⟨by rw [h1]; rfl, by simp [h2, Ob.kill]⟩
  ·exact absurd rfl h
theorem postY_new {x : Ob} {y : R} (hj : j = 4 ∨ j = 5) (hk : okKB L M) (h : KB L M τ) (hx : GY r t j y fun o => if o = dY j then some x else (τ.mem o).map (Ob.kill (dY j))) : PostY L M r t j τ ((τ.newOb (dY j) x).put (some (dY j)) y) := by
 have hd : dY j = 73 ∨ dY j = 74 := by rcases hj with rfl | rfl <;> simp [dY]
 refine ⟨⟨fun p hp => ?_, fun p hp => ?_⟩, ?_, fun i hi hne h6 hF => ?_⟩
 ·show upd (fun t => (τ.regs t).kill (dY j)) (dY j) y p.1 = _
  rw [upd, if_neg (dY_lo hk hp)]
  show (τ.regs p.1).kill (dY j) = _
  rw [h.1 p hp]
  obtain ⟨_, _, k1, k2⟩ := hk.1 p hp
  rcases hd with e | e <;> rw [e] <;> assumption
 ·obtain ⟨n1, n2, k1, k2⟩ := hk.2 p hp
  show (if p.1 = dY j then some x else (τ.mem p.1).map (Ob.kill (dY j))) = _
  rw [if_neg (by rcases hd with e | e <;> rw [e] <;> assumption), h.2 p hp, Option.map_some]
  rcases hd with e | e <;> rw [e] <;> congr 1
 ·show GY r t j (upd _ (dY j) y (dY j)) _
  rw [upd, if_pos rfl]; exact hx
 ·show GY r t i (upd (fun t => (τ.regs t).kill (dY j)) (dY j) y (dY i)) _
  rw [upd, if_neg (dY_ne hi (by omega) hne)]
  refine GY_new ?_ hi hF
  rcases hj with rfl | rfl
  ·exact .inl ⟨rfl, by omega⟩
  ·exact .inr ⟨rfl, by omega, h6 rfl⟩
end
end Go.VC
end
section
set_option maxRecDepth 100000
namespace Go.VC
open Go.RowKit Go.Proofs Go.IntWalk
def fitQ (after : List Nat) (t dn : Nat) (kind : Int) (set : Nat) : Bool :=
 if kind = 3 ∨ kind = 5 then closedP after t dn set && decide (after.getD t 0 &&& set = 0) else decide (andN dn set = 0) && decide (set &&& 2 ^ t = if kind = 7 then 2 ^ t else 0)
def fitE (after : List Nat) (t dn op : Nat) (kind : Int) (set : Nat) : Bool := decide (andN set (dn ||| op) = 0) && fitQ after t dn kind set
def setsA (all : Nat) : List Nat := List.range (all + 1)
theorem setsA_drop {all k : Nat} (h : k < all + 1) : (setsA all).drop k = k :: (setsA all).drop (k + 1) := range_dropO h
theorem setsA_end {all k : Nat} (h : all + 1 ≤ k) : (setsA all).drop k = [] := List.drop_eq_nil_of_le (by simp [setsA]; omega)
theorem cap_dat {x : A} {caps : List D} : (R.a x :: capR caps) = datR (x :: caps.map A.d) := by
 induction caps with
 | nil => rfl
 | cons c cs ih => simp_all [capR, datR]
def ansE (T : List Txn) (t dn op : Nat) (kind : Int) (N : Nat) : Fd :=
 if kind = 3 ∨ kind = 5 ∨ kind = 7 ∨ kind = 9 then scanS N (fitE (afterR T) t dn op kind) (subRows T) (goodW T t kind) (setsA (dn ||| op)) 0 else ⟨0, 0, [], 0⟩
theorem fit_fn (h : List Ev) (after : List Nat) (t dn op : Nat) (kind : Int) (hl : after.length ≤ 6) (ha : ∀ b ∈ after, b < 2 ^ 32) (ht : t < after.length) (hd : dn < 2 ^ 32) (hk : kind = 3 ∨ kind = 5 ∨ kind = 7 ∨ kind = 9) :
  ∃ g caps, fitFn h after t dn op kind = .fn g caps ∧ ∀ set, set < 2 ^ 32 → Holds Tryz.prog GL g (U set :: caps.map A.d) [.a (B (fitQ after t dn kind set))] := by
 by_cases h35 : kind = 3 ∨ kind = 5
 ·refine ⟨_, _, by rw [fitFn, if_pos h35], fun set hs => ?_⟩
  rw [fitQ, if_pos h35]
  exact t1203 h after t dn op set hl ha ht hd hs
 ·by_cases h7 : kind = 7
  ·refine ⟨_, _, by rw [fitFn, if_neg h35, if_pos h7], fun set hs => ?_⟩
   rw [fitQ, if_neg h35, if_pos h7]
   exact t1206 h after t dn op set (2 ^ t) (by omega) hd hs
  ·have h9 : kind = 9 := by omega
   refine ⟨_, _, by rw [fitFn, if_neg h35, if_neg h7, if_pos h9], fun set hs => ?_⟩
   rw [fitQ, if_neg h35, if_neg h7]
   exact t1206 h after t dn op set 0 (by omega) hd hs
theorem sub_in {T : List Txn} (hT : T.length ≤ 6) {set : Nat} {r : List Int} (hr : r ∈ subRows T set) : r.length ≤ 6 ∧ r.all (inT T.length) = true := by
 obtain ⟨q, hq, rfl⟩ := List.mem_map.1 hr
 obtain ⟨h1, h2⟩ := all_nd hq
 have hsl := sub_len (T := T) (set := set)
 have hel := elsT_le set T.length
 refine ⟨?_, ?_⟩
 ·rw [upR_len]
  have h3 : q.length ≤ (List.range (subT T set).length).length := h1.length_le_of_subset fun k hk => List.mem_range.2 (h2 k hk)
  simp at h3; omega
 ·rw [List.all_eq_true]
  intro x hx
  obtain ⟨k, hk, rfl⟩ := List.mem_map.1 hx
  have hk2 : k < (elsT set T.length).length := by have := h2 k hk; omega
  rw [List.getD_eq_getElem?_getD, List.getElem?_eq_getElem hk2, Option.getD_some]
  exact inT_iff.2 ⟨_, rfl, elsT_lt (List.getElem_mem hk2)⟩
theorem sub_count {T : List Txn} (hT : T.length ≤ 6) (set : Nat) : (subRows T set).length ≤ 79000 := by
 have hsl := sub_len (T := T) (set := set)
 have hel := elsT_le set T.length
 have := all_count (T := subT T set) (by omega)
 simpa [subRows] using this
theorem els_nodup (set n : Nat) : (elsT set n).Nodup := List.nodup_range.filter _
theorem els_has {set n i : Nat} : i ∈ elsT set n ↔ i < n ∧ set.testBit i = true := by simp [elsT]
def natR (T : List Txn) (set : Nat) (q : List Nat) : List Nat := q.map fun k => (elsT set T.length).getD k 0
theorem upR_nat (T : List Txn) (set : Nat) (q : List Nat) : upR T set q = rowI (natR T set q) := by simp [upR, rowI, natR]
theorem nat_in {T : List Txn} {set : Nat} {q : List Nat} (hq : q ∈ allRows (afterR (subT T set))) : (natR T set q).Nodup ∧ ∀ k ∈ natR T set q, k < T.length ∧ set.testBit k = true := by
 obtain ⟨h1, h2⟩ := all_nd hq
 have hsl := sub_len (T := T) (set := set)
 have hat : ∀ k, k ∈ q → ∃ h : k < (elsT set T.length).length, (elsT set T.length).getD k 0 = (elsT set T.length)[k] := fun k hk => by
  have hk2 : k < (elsT set T.length).length := by have := h2 k hk; omega
  exact ⟨hk2, by rw [List.getD_eq_getElem?_getD, List.getElem?_eq_getElem hk2]; rfl⟩
 refine ⟨?_, fun k hk => ?_⟩
 ·unfold natR
  rw [List.Nodup, List.pairwise_map]
  refine List.Pairwise.imp_of_mem (fun {a b} ha hb hne e => hne ?_) h1
  obtain ⟨la, ea⟩ := hat a ha
  obtain ⟨lb, eb⟩ := hat b hb
  rw [ea, eb] at e
  have hp := els_nodup set T.length
  rw [List.Nodup, List.pairwise_iff_getElem] at hp
  rcases Nat.lt_trichotomy a b with h | h | h
  ·exact absurd e (hp a b la lb h)
  ·exact h
  ·exact absurd e.symm (hp b a lb la h)
 ·obtain ⟨i, hi, rfl⟩ := List.mem_map.1 hk
  obtain ⟨hl, e⟩ := hat i hi
  rw [e]
  exact els_has.1 (List.getElem_mem hl)
theorem may_whole {h : List Ev} {T : List Txn} (hE : checkE h = 0) (hTT : txns h = T) {t dn set : Nat} {kind : Int} (ht : t < T.length) {q : List Nat} (hq : q ∈ allRows (afterR (subT T set))) (hf : fitQ (afterR T) t dn kind set = true) : mayE h (wholeP t kind (upR T set q)) = 0 := by
 obtain ⟨h1, h2⟩ := nat_in hq
 rw [upR_nat]
 unfold wholeP
 split
 ·rename_i hk
  rw [fitQ, if_pos hk, Bool.and_eq_true] at hf
  have hnt : set.testBit t = false := by
   have := hf.1
   rw [closedP, Bool.and_eq_true] at this
   simpa using this.2
  rw [show rowI (natR T set q) ++ [(t : Int)] = rowI (natR T set q ++ [t]) by simp [rowI]]
  refine may_row hE (List.nodup_append.2 ⟨h1, by simp, fun a ha b hb => ?_⟩) fun k hk => ?_
  ·obtain rfl := List.mem_singleton.1 hb
   intro e; subst e
   rw [(h2 a ha).2] at hnt; cases hnt
  ·rw [hTT]
   rcases List.mem_append.1 hk with h | h
   ·exact (h2 k h).1
   ·obtain rfl := List.mem_singleton.1 h; exact ht
 ·exact may_row hE h1 fun k hk => by rw [hTT]; exact (h2 k hk).1
def LY (N s all set q n : Nat) (g : FuncId) (caps : List D) (r : List Int) : List (Nat × R) := [(1, .a (I N)), (2, .ref 2 0), (4, .ref 4 0), (5, .a (.d (.fn g caps))), (6, .a (B true)), (7, .a (I s)), (8, .a (U all)), (9, .a (U set)), (11, .a (intsA r)), (38, .a (U (all + 1 : Nat))), (39, .a (U set)), (54, .own 700000), (55, .a (I n)), (56, .a (I q))]
def MY (h : List Ev) (after : List Nat) (t dn op : Nat) (rs : List (List Int)) : List (Nat × Ob) := [(2, .box [.a (evsA h), .a (unsA after), .a (I t), .a (U dn), .a (U op)]), (4, .box [.a (I 0), .a (.d (.v (.int .u32 0))), .a (.d (.sl [])), .a (I 0)]), (700000, .log 35 1 (rrD rs))]
theorem okY (h : List Ev) (after : List Nat) (t dn op N s all set q : Nat) (rs : List (List Int)) (g : FuncId) (caps : List D) (r : List Int) : okKB (LY N s all set q rs.length g caps r) (MY h after t dn op rs) := by
 refine ⟨fun p hp => ?_, fun p hp => ?_⟩
 ·simp only [LY, List.mem_cons, List.not_mem_nil, or_false] at hp
  rcases hp with rfl | rfl | rfl | rfl | rfl | rfl | rfl | rfl | rfl | rfl | rfl | rfl | rfl | rfl <;> exact ⟨by simp, by simp, rfl, rfl⟩
 ·simp only [MY, List.mem_cons, List.not_mem_nil, or_false] at hp
  rcases hp with rfl | rfl | rfl <;> exact ⟨by simp, by simp, rfl, rfl⟩
def Fan : List (List Nat) := [[], [13], []]
theorem t1097 (h : List Ev) (T : List Txn) (t dn op : Nat) (ev : Ev) (N : Nat) (hE : checkE h = 0) (hTT : txns h = T) (hev : h[h.length - 1]? = some ev) (ht : t < T.length) (hd : dn < 2 ^ T.length) (ho : op < 2 ^ T.length) (hN : N ≤ 1000000) (hflT : ∀ t ∈ T, 0 ≤ t.first ∧ t.first ≤ t.last) :
  Holds Tryz.prog GL 25 [partA h (afterR T) t dn op, I N] [.a (ansE T t dn op ev.kind N).a] := by
 refine fn_holds (vs := [.cell 4 37]) (by kernel_rfl) Tryz.func25 rfl rfl (by kernel_rfl) (by kernel_rfl) rfl ?_
 have hT : T.length ≤ 6 := hTT ▸ txns_len6 h
 have h64 := two6 hT
 have hal := afterR_len1 (T := T)
 have hlt : ∀ b ∈ afterR T, b < 2 ^ 32 := fun b hb => by have := afterR_lt hb; omega
 have hfit := t1154 h (afterR T) t dn op ev.kind (by omega)
 have hpos : 0 < h.length := by
  rcases Nat.eq_zero_or_pos h.length with h0 | h0
  ·rw [List.getElem?_eq_none (by omega)] at hev; cases hev
  ·exact h0
 have h60 := check60 hE
 have hwl : IntKind.i64.wrap ((h.length : Int) - 1) = ((h.length - 1 : Nat) : Int) := by
  rw [show (h.length : Int) - 1 = ((h.length - 1 : Nat) : Int) by omega]; exact i64_in _ (by omega)
 have e : ansE T t dn op ev.kind N = if ev.kind = 3 ∨ ev.kind = 5 ∨ ev.kind = 7 ∨ ev.kind = 9 then scanS N (fitE (afterR T) t dn op ev.kind) (subRows T) (goodW T t ev.kind) (setsA (dn ||| op)) 0 else ⟨0, 0, [], 0⟩ := rfl
 generalize ansE T t dn op ev.kind N = ans at e
 (refine rO ?_; repeat' ((with_reducible first | refine rG ?_ | (refine rS ?_ ?_ <;> intro hp) | (refine rB ?_ ?_ <;> intro hb <;> try rw [hb]) | refine rD ?_ | refine draw_F Fan (by decide +kernel) ?_ | refine rA ?_ | fail) <;> try simp only [go_sem, simprocAttr, List.length_map, hwl, hev, Ev.enc_eq, PG, Fan]))
 refine callQ_dat (res := [.d (fitFn h (afterR T) t dn op ev.kind), B (decide (ev.kind = 3) || decide (ev.kind = 5))]) hfit ?_
 have hd32 : dn < 2 ^ 32 := by omega
 have ho32 : op < 2 ^ 32 := by omega
 have hor := u32_or hd32 ho32
 have hor64 : dn ||| op < 2 ^ T.length := Nat.or_lt_two_pow hd ho
 generalize hall : dn ||| op = all at *
 have hadd : IntKind.u32.wrap ((all : Int) + 1) = ((all + 1 : Nat) : Int) := by
  rw [show (all : Int) + 1 = ((all + 1 : Nat) : Int) by omega]; exact u32_in _ (by omega)
 by_cases hk : ev.kind = 3 ∨ ev.kind = 5 ∨ ev.kind = 7 ∨ ev.kind = 9
 ·rw [if_pos hk] at e
  obtain ⟨g, caps, hfn, hfq⟩ := fit_fn h (afterR T) t dn op ev.kind (by omega) hlt (by omega) hd32 hk
  rw [hfn]
  (refine rO ?_; repeat' ((with_reducible first | refine rG ?_ | (refine rS ?_ ?_ <;> intro hp) | (refine rB ?_ ?_ <;> intro hb <;> try rw [hb]) | refine rD ?_ | refine rA ?_ | fail) <;> try simp only [go_sem, simprocAttr, PG, Fan]))
  refine sem_fn_nil Tryz.underlying94 (f := g) (caps := caps) (by simp only [go_sem, simprocAttr]) ?_
  (refine rO ?_; repeat' ((with_reducible first | refine rG ?_ | (refine rS ?_ ?_ <;> intro hp) | (refine rB ?_ ?_ <;> intro hb <;> try rw [hb]) | refine rD ?_ | refine rA ?_ | fail) <;> try simp only [go_sem, simprocAttr, hor, hadd]))
  have hrw := fun set hs => t1155 h T t dn op set hT hflT hs
  have hrin : ∀ set r, r ∈ subRows T set → r.length ≤ 6 ∧ r.all (inT T.length) = true := fun set r hr => sub_in hT hr
  have hrln : ∀ set, (subRows T set).length ≤ 79000 := fun set => sub_count hT set
  have hlg : ∀ set r, set < 2 ^ 32 → r ∈ subRows T set → fitQ (afterR T) t dn ev.kind set = true → Holds Tryz.prog GL 54 [evsA h, intsA (wholeP t ev.kind r), U set] [.a (I (legalN T set (wholeP t ev.kind r))), .a (I 0)] := fun set r h1 h2 h3 => by
   obtain ⟨q, hq, rfl⟩ := List.mem_map.1 h2
   have hm := may_whole hE hTT ht hq h3
   have := t48 h (wholeP t ev.kind (upR T set q)) set h1
   rw [legV, if_pos hm, hm, hTT] at this
   exact this
  have hgd : ∀ set r, goodW T t ev.kind set r = decide (legalN T set (wholeP t ev.kind r) = ((wholeP t ev.kind r).length : Int)) := fun set r => rfl
  have hfe : ∀ set, fitE (afterR T) t dn op ev.kind set = (decide (andN set all = 0) && fitQ (afterR T) t dn ev.kind set) := fun set => by rw [fitE, hall]
  have hwt : (decide (ev.kind = 3) || decide (ev.kind = 5)) = true → ∀ r, wholeP t ev.kind r = r ++ [(t : Int)] := fun h r => by
   rw [wholeP, if_pos (by simpa using h)]
  have hwf : (decide (ev.kind = 3) || decide (ev.kind = 5)) = false → ∀ r, wholeP t ev.kind r = r := fun h r => by
   rw [wholeP, if_neg (by simpa using h)]
  generalize hfl : (decide (ev.kind = 3) || decide (ev.kind = 5)) = fl at *
  generalize fitE (afterR T) t dn op ev.kind = fits at *
  generalize fitQ (afterR T) t dn ev.kind = fq at *
  generalize goodW T t ev.kind = good at *
  generalize subRows T = rows at *
  refine awp_loopA (fun x : Nat × Nat => [(1, .a (I N)), (2, .ref 2 0), (4, .ref 4 0), (5, .a (.d (.fn g caps))), (6, .a (B fl)), (7, .a (I x.2)), (8, .a (U all)), (38, .a (U (all + 1 : Nat))), (39, .a (U x.1))]) (fun _ => [(2, .box [.a (evsA h), .a (unsA (afterR T)), .a (I t), .a (U dn), .a (U op)]), (4, .box [.a (I 0), .a (.d (.v (.int .u32 0))), .a (.d (.sl [])), .a (I 0)])]) (fun x => x.1 ≤ all + 1 ∧ x.2 ≤ N ∧ ans = scanS N fits rows good ((setsA all).drop x.1) x.2) (fun x => all + 1 - x.1) (0, 0) ?_ ?_ ⟨by omega, Nat.zero_le _, e⟩ ?_
  ·simp only [go_sem, simprocAttr, hor, hadd]; try rfl
  ·simp only [go_sem, simprocAttr]; try rfl
  intro ⟨set, s⟩ j ⟨hset, hsN, hans⟩
  dsimp only at hset hsN hans
  by_cases hlts : set < all + 1
  ·have hltI : ((set : Int) < ((all + 1 : Nat) : Int)) = True := eq_true (by omega)
   have hws : IntKind.u32.wrap ((set : Int) + 1) = ((set + 1 : Nat) : Int) := by
    rw [show (set : Int) + 1 = ((set + 1 : Nat) : Int) by omega]; exact u32_in _ (by omega)
   rw [setsA_drop hlts] at hans
   have hss : scanS N fits rows good (set :: (setsA all).drop (set + 1)) s = if fits set then scanE (scanS N fits rows good ((setsA all).drop (set + 1))) (scanR N (good set) set (rows set) s) else scanS N fits rows good ((setsA all).drop (set + 1)) s := rfl
   rw [hss] at hans
   have hf1 := hfq set (by omega)
   have hf2 := hrw set (by omega)
   have han := u32_andn (a := set) (b := all) (by omega) (by omega)
   have hfs := hfe set
   generalize scanS N fits rows good = SC at *
   by_cases hz : andN set all = 0
   ·have hzI : ((andN set all : Nat) : Int) = 0 := by omega
    rw [decide_eq_true hz, Bool.true_and] at hfs
    (refine rO ?_; repeat' ((with_reducible first | refine rG ?_ | (refine rS ?_ ?_ <;> intro hp) | (refine rB ?_ ?_ <;> intro hb <;> try rw [hb]) | refine rD ?_ | refine rA ?_ | fail) <;> try simp only [go_sem, simprocAttr, hltI, han, hzI]))
    rw [cap_dat]
    refine call_dat hf1 ?_
    rw [hfs] at hans
    cases hq : fq set with
    | false =>
     rw [hq, if_neg (by decide)] at hans
     (refine rO ?_; repeat' ((with_reducible first | refine rG ?_ | (refine rS ?_ ?_ <;> intro hp) | (refine rB ?_ ?_ <;> intro hb <;> try rw [hb]) | refine rD ?_ | refine rA ?_ | fail) <;> try simp only [go_sem, simprocAttr, hws]))
     (refine ⟨(set + 1, s), ?_, ?_, ⟨by omega, hsN, hans⟩, by dsimp only; omega⟩ <;> simp only [go_sem, simprocAttr, hws])
    | true =>
     rw [hq, if_pos rfl] at hans
     have hrn := hrin set
     have hln := hrln set
     have hgs := hgd set
     have hlgs := fun r h => hlg set r (by omega) h hq
     generalize rows set = rs at *
     generalize good set = gd at *
     generalize legalN T set = lg at *
     (refine rO ?_; repeat' ((with_reducible first | refine rG ?_ | (refine rS ?_ ?_ <;> intro hp) | (refine rB ?_ ?_ <;> intro hb <;> try rw [hb]) | refine rD ?_ | refine rA ?_ | fail) <;> try simp only [go_sem, simprocAttr]))
     refine call_inl (inl_rows hf2 rfl (by omega) fun vals hvl => ?_)
     (refine rO ?_; repeat' ((with_reducible first | refine rG ?_ | (refine rS ?_ ?_ <;> intro hp) | (refine rB ?_ ?_ <;> intro hb <;> try rw [hb]) | refine rD ?_ | refine rA ?_ | fail) <;> try simp only [go_sem, simprocAttr, PBR, List.length_map]))
     have hg := fun (σ : S) (h0 : σ.mem 700000 = some (.log 35 1 (vals.map fun v => [.v v]))) (h1 : σ.mem 700001 = some (.sem (ties 710000 vals))) (hr : ∀ i r, rs[i]? = some r → σ.mem (710000 + i) = some (.log 3 1 (r.map ienc))) => g_rests (e0 := 35) (e1 := 3) hvl (by omega) h0 h1 hr
     have inR2 : inR 2 = false := by decide
     have inR4 : inR 4 = false := by decide
     refine awp_loopG (fun (x : Nat × Nat) σ => (x.1 ≤ rs.length ∧ x.2 ≤ N ∧ ans = scanE (SC ((setsA all).drop (set + 1))) (scanR N gd set (rs.drop x.1) x.2)) ∧ σ.regs 1 = .a (I N) ∧ σ.regs 2 = .ref 2 0 ∧ σ.regs 4 = .ref 4 0 ∧ σ.regs 5 = .a (.d (.fn g caps)) ∧ σ.regs 6 = .a (B fl) ∧ σ.regs 7 = .a (I x.2) ∧ σ.regs 8 = .a (U all) ∧ σ.regs 9 = .a (U set) ∧ σ.regs 38 = .a (U (all + 1 : Nat)) ∧ σ.regs 39 = .a (U set) ∧ σ.regs 54 = .own 700000 ∧ σ.regs 55 = .a (I rs.length) ∧ σ.regs 56 = .a (I x.1) ∧ σ.mem 2 = some (.box [.a (evsA h), .a (unsA (afterR T)), .a (I t), .a (U dn), .a (U op)]) ∧ σ.mem 4 = some (.box [.a (I 0), .a (.d (.v (.int .u32 0))), .a (.d (.sl [])), .a (I 0)]) ∧ σ.mem 700000 = some (.log 35 1 (rrD rs))) (fun x => rs.length - x.1) (0, s) ⟨_, (hg _ ?_ ?_ ?_).1, ⟨Nat.zero_le _, hsN, hans⟩, restN_r ?_ (fun _ _ _ => rfl) _, restN_r ?_ (fun _ _ h => by simp only [R.frz]; rw [if_neg (by omega)]) _, restN_r ?_ (fun _ _ h => by simp only [R.frz]; rw [if_neg (by omega)]) _, restN_r ?_ (fun _ _ _ => rfl) _, restN_r ?_ (fun _ _ _ => rfl) _, restN_r ?_ (fun _ _ _ => rfl) _, restN_r ?_ (fun _ _ _ => rfl) _, restN_r ?_ (fun _ _ _ => rfl) _, restN_r ?_ (fun _ _ _ => rfl) _, restN_r ?_ (fun _ _ _ => rfl) _, restN_r ?_ (fun _ _ hq => frz_own7 hq) _, restN_r ?_ (fun _ _ _ => rfl) _, restN_r ?_ (fun _ _ _ => rfl) _, restN_m (by omega) ?_ (fun _ _ _ => rfl) _, restN_m (by omega) ?_ (fun _ _ _ => rfl) _, (hg _ ?_ ?_ ?_).2⟩ ?_
     ·simp only [go_sem, simprocAttr, PBR]
     ·simp only [go_sem, simprocAttr, PBR]
     ·exact fun i r hr => br_i (by omega) hr
     iterate 15 (· simp only [go_sem, simprocAttr, PBR, List.length_map, hvl, inR2, inR4])
     ·simp only [go_sem, simprocAttr, PBR]
     ·simp only [go_sem, simprocAttr, PBR]
     ·exact fun i r hr => br_i (by omega) hr
     rintro ⟨q, s2⟩ τ ⟨⟨hq', hs2, hans2⟩, r1, r2, r4, r5, r6, r7, r8, r9, r38, r39, r54, r55, r56, m2, m4, m7⟩
     dsimp only at hq' hs2 hans2 r7 r56
     have hrl : (rrD rs).length = rs.length := by simp [rrD]
     by_cases hql : q < rs.length
     ·have hqI : ((q : Int) < (rs.length : Int)) = True := eq_true (by omega)
      have hwq := wrap_succ (n := rs.length) hql (by simp only [maxLen]; omega)
      have hx : rs[q]? = some rs[q] := List.getElem?_eq_getElem hql
      have hmem := List.getElem_mem hql
      obtain ⟨hr6, hrI⟩ := hrn _ hmem
      have hl1 := hlgs _ hmem
      rw [List.drop_eq_getElem_cons hql] at hans2
      generalize rs[q] = r at hx hr6 hrI hans2 hl1
      have hg1 := hgs r
      have hxd : (rrD rs)[q]? = some [.sl (r.map ienc)] := by simp [rrD, hx]
      by_cases hsn : s2 = N
      ·have hsI : ((s2 : Int) = (N : Int)) = True := eq_true (by omega)
       have hres : scanR N gd set (r :: rs.drop (q + 1)) s2 = .inr ⟨2, 0, [], s2⟩ := by simp only [scanR]; rw [if_pos hsn]
       rw [hans2, hres]
       (refine rO ?_; repeat' ((with_reducible first | refine rG ?_ | (refine rS ?_ ?_ <;> intro hp) | (refine rB ?_ ?_ <;> intro hb <;> try rw [hb]) | refine rD ?_ | refine rA ?_ | fail) <;> try simp only [go_sem, simprocAttr, r1, r2, r4, r5, r6, r7, r8, r9, r38, r39, r54, r55, r56, m2, m4, m7, hqI, hxd, hsI]))
       refine SemOp.old ?_
       (refine rO ?_; repeat' ((with_reducible first | refine rG ?_ | (refine rS ?_ ?_ <;> intro hp) | (refine rB ?_ ?_ <;> intro hb <;> try rw [hb]) | refine rD ?_ | refine rA ?_ | fail) <;> try simp only [go_sem, simprocAttr, y_build0, r4, m4]))
       rfl
      ·have hsI : ((s2 : Int) = (N : Int)) = False := eq_false (by omega)
       have hw2 := wrap_succ (n := N) (k := s2) (by omega) (by simp only [maxLen]; omega)
       cases fl with
       | false =>
        rw [hwf rfl] at hl1 hg1
        (refine rO ?_; repeat' ((with_reducible first | refine rG ?_ | (refine rS ?_ ?_ <;> intro hp) | (refine rB ?_ ?_ <;> intro hb <;> try rw [hb]) | refine rD ?_ | refine rA ?_ | fail) <;> try simp only [go_sem, simprocAttr, r1, r2, r4, r5, r6, r7, r8, r9, r38, r39, r54, r55, r56, m2, m4, m7, hqI, hxd, hsI, hw2]))
        refine call_dat hl1 ?_
        by_cases hgL : lg r = (r.length : Int)
        ·have hres : scanR N gd set (r :: rs.drop (q + 1)) s2 = .inr ⟨0, set, r, (s2 + 1 : Nat)⟩ := by simp only [scanR]; rw [if_neg hsn, if_pos (by rw [hg1]; exact decide_eq_true hgL)]
         rw [hans2, hres]
         have hgI : (lg r = (r.length : Int)) = True := eq_true hgL
         (refine rO ?_; repeat' ((with_reducible first | refine rG ?_ | (refine rS ?_ ?_ <;> intro hp) | (refine rB ?_ ?_ <;> intro hb <;> try rw [hb]) | refine rD ?_ | refine rA ?_ | fail) <;> try simp only [go_sem, simprocAttr, r1, r2, r4, r5, r6, r7, r8, r9, r38, r39, r54, r55, r56, m2, m4, m7, List.length_map, hgI]))
         refine SemOp.old ?_
         (refine rO ?_; repeat' ((with_reducible first | refine rG ?_ | (refine rS ?_ ?_ <;> intro hp) | (refine rB ?_ ?_ <;> intro hb <;> try rw [hb]) | refine rD ?_ | refine rA ?_ | fail) <;> try simp only [go_sem, simprocAttr, y_build0, r4, m4]))
         rfl
        ·have hres : scanR N gd set (r :: rs.drop (q + 1)) s2 = scanR N gd set (rs.drop (q + 1)) (s2 + 1) := by simp only [scanR]; rw [if_neg hsn, if_neg (by rw [hg1]; simpa using hgL)]
         rw [hres] at hans2
         have hgI : (lg r = (r.length : Int)) = False := eq_false hgL
         (refine rO ?_; repeat' ((with_reducible first | refine rG ?_ | (refine rS ?_ ?_ <;> intro hp) | (refine rB ?_ ?_ <;> intro hb <;> try rw [hb]) | refine rD ?_ | refine rA ?_ | fail) <;> try simp only [go_sem, simprocAttr, r1, r2, r4, r5, r6, r7, r8, r9, r38, r39, r54, r55, r56, m2, m4, m7, List.length_map, hgI, hwq]))
         refine ⟨_, (q + 1, s2 + 1), Ghost.refl _, ⟨⟨by omega, by omega, hans2⟩, ?_, ?_, ?_, ?_, ?_, ?_, ?_, ?_, ?_, ?_, ?_, ?_, ?_, ?_, ?_, ?_⟩, by show rs.length - (q + 1) < rs.length - q; omega⟩
         iterate 16 (· simp only [go_sem, simprocAttr, r1, r2, r4, r5, r6, r7, r8, r9, r38, r39, r54, r55, r56, m2, m4, m7, hwq, hw2])
       | true =>
        rw [hwt rfl] at hl1 hg1
        (refine rO ?_; repeat' ((with_reducible first | refine rG ?_ | (refine rS ?_ ?_ <;> intro hp) | (refine rB ?_ ?_ <;> intro hb <;> try rw [hb]) | refine rD ?_ | refine rA ?_ | fail) <;> try simp only [go_sem, simprocAttr, r1, r2, r4, r5, r6, r7, r8, r9, r38, r39, r54, r55, r56, m2, m4, m7, hqI, hxd, hsI, hw2]))
        have hok := okY h (afterR T) t dn op N (s2 + 1) all set q rs g caps r
        refine draw_J (KB (LY N (s2 + 1) all set q rs.length g caps r) (MY h (afterR T) t dn op rs)) (fun i τ => GY r t i (τ.regs (dY i)) τ.mem) (by decide +kernel) ⟨fun p hp => ?_, fun p hp => ?_⟩ (fun j o ho τ2 hb hdep => ?_) (fun τ2 hb hF => ?_)
        ·simp only [LY, List.mem_cons, List.not_mem_nil, or_false] at hp
         rcases hp with rfl | rfl | rfl | rfl | rfl | rfl | rfl | rfl | rfl | rfl | rfl | rfl | rfl | rfl <;> simp only [go_sem, simprocAttr, r1, r2, r4, r5, r6, r7, r8, r9, r38, r39, r54, r55, r56, hw2]
        ·simp only [MY, List.mem_cons, List.not_mem_nil, or_false] at hp
         rcases hp with rfl | rfl | rfl <;> simp only [go_sem, simprocAttr, m2, m4, m7]
        ·have q2 : τ2.regs 2 = .ref 2 0 := hb.1 (2, .ref 2 0) (by simp [LY])
         have q11 : τ2.regs 11 = .a (intsA r) := hb.1 (11, .a (intsA r)) (by simp [LY])
         have p2 : τ2.mem 2 = some (.box [.a (evsA h), .a (unsA (afterR T)), .a (I t), .a (U dn), .a (U op)]) := hb.2 (2, _) (by simp [MY])
         refine opsA_mono (fun τ' (hp : PostY _ _ r t j τ2 τ') => ⟨hp.1, hp.2.1, fun i oi hoi hne hdo hFi => hp.2.2 i (List.getElem?_eq_some_iff.1 hoi).1 hne (fun e1 e2 => by
          subst e1; subst e2
          obtain rfl := Option.some.inj hoi
          exact absurd hdo (by decide +kernel)) hFi⟩) [o] ?_
         match j, ho, hdep with
         | 0, ho, hdep =>
          obtain rfl := Option.some.inj ho
          (refine rO ?_; repeat' ((with_reducible first | refine rG ?_ | (refine rS ?_ ?_ <;> intro hp) | (refine rB ?_ ?_ <;> intro hb <;> try rw [hb]) | refine rD ?_ | refine rA ?_ | fail) <;> try simp only [go_sem, simprocAttr, q2, q11, p2]))
          exact postY_put (j := 0) (by omega) hok hb rfl
         | 1, ho, hdep =>
          obtain rfl := Option.some.inj ho
          have d0 : τ2.regs 69 = _ := hdep 0 (by decide +kernel)
          (refine rO ?_; repeat' ((with_reducible first | refine rG ?_ | (refine rS ?_ ?_ <;> intro hp) | (refine rB ?_ ?_ <;> intro hb <;> try rw [hb]) | refine rD ?_ | refine rA ?_ | fail) <;> try simp only [go_sem, simprocAttr, q2, q11, p2, d0]))
          refine call_dat (t138 r) ?_
          (refine rO ?_; repeat' ((with_reducible first | refine rG ?_ | (refine rS ?_ ?_ <;> intro hp) | (refine rB ?_ ?_ <;> intro hb <;> try rw [hb]) | refine rD ?_ | refine rA ?_ | fail) <;> try simp only [go_sem, simprocAttr]))
          exact postY_put (j := 1) (by omega) hok hb rfl
         | 2, ho, hdep =>
          obtain rfl := Option.some.inj ho
          (refine rO ?_; repeat' ((with_reducible first | refine rG ?_ | (refine rS ?_ ?_ <;> intro hp) | (refine rB ?_ ?_ <;> intro hb <;> try rw [hb]) | refine rD ?_ | refine rA ?_ | fail) <;> try simp only [go_sem, simprocAttr, q2, q11, p2]))
          exact postY_put (j := 2) (by omega) hok hb rfl
         | 3, ho, hdep =>
          obtain rfl := Option.some.inj ho
          have d2 : τ2.regs 71 = _ := hdep 2 (by decide +kernel)
          (refine rO ?_; repeat' ((with_reducible first | refine rG ?_ | (refine rS ?_ ?_ <;> intro hp) | (refine rB ?_ ?_ <;> intro hb <;> try rw [hb]) | refine rD ?_ | refine rA ?_ | fail) <;> try simp only [go_sem, simprocAttr, q2, q11, p2, d2]))
          exact postY_put (j := 3) (by omega) hok hb rfl
         | 4, ho, hdep =>
          obtain rfl := Option.some.inj ho
          have d3 : τ2.regs 72 = _ := hdep 3 (by decide +kernel)
          (refine rO ?_; repeat' ((with_reducible first | refine rG ?_ | (refine rS ?_ ?_ <;> intro hp) | (refine rB ?_ ?_ <;> intro hb <;> try rw [hb]) | refine rD ?_ | refine rA ?_ | fail) <;> try simp only [go_sem, simprocAttr, q2, q11, p2, d3]))
          exact postY_new (j := 4) (.inl rfl) hok hb ⟨rfl, by simp [dY]; rfl⟩
         | 5, ho, hdep =>
          obtain rfl := Option.some.inj ho
          have d1 : τ2.regs 70 = _ := hdep 1 (by decide +kernel)
          obtain ⟨d4, m4'⟩ : τ2.regs 73 = .own 73 ∧ τ2.mem 73 = _ := hdep 4 (by decide +kernel)
          have hrw : r.map ienc ++ [ienc t] = (r ++ [(t : Int)]).map ienc := by simp
          (refine rO ?_; repeat' ((with_reducible first | refine rG ?_ | (refine rS ?_ ?_ <;> intro hp) | (refine rB ?_ ?_ <;> intro hb <;> try rw [hb]) | refine rD ?_ | refine rA ?_ | fail) <;> try simp only [go_sem, simprocAttr, q2, q11, p2, d1, d4, m4', List.length_map]))
          refine ⟨rfl, by omega, ?_⟩
          rw [hrw]
          exact postY_new (j := 5) (.inr rfl) hok hb ⟨rfl, by simp [dY]⟩
         | 6, ho, hdep =>
          obtain rfl := Option.some.inj ho
          obtain ⟨d5, m5⟩ : τ2.regs 74 = .own 74 ∧ τ2.mem 74 = _ := hdep 5 (by decide +kernel)
          (refine rO ?_; repeat' ((with_reducible first | refine rG ?_ | (refine rS ?_ ?_ <;> intro hp) | (refine rB ?_ ?_ <;> intro hb <;> try rw [hb]) | refine rD ?_ | refine rA ?_ | fail) <;> try simp only [go_sem, simprocAttr, q2, q11, p2, d5]))
          exact postY_put (j := 6) (by omega) hok hb ⟨rfl, m5⟩
         | n + 7, ho, hdep => exact absurd (List.getElem?_eq_some_iff.1 ho).1 (by simp)
        ·obtain ⟨r12, m74⟩ : τ2.regs 12 = .own 74 ∧ τ2.mem 74 = some (.log 3 1 ((r ++ [(t : Int)]).map ienc)) := hF 6 (by simp)
         replace r1 : τ2.regs 1 = .a (I N) := hb.1 (1, _) (by simp [LY])
         replace r2 : τ2.regs 2 = .ref 2 0 := hb.1 (2, .ref 2 0) (by simp [LY])
         replace r4 : τ2.regs 4 = .ref 4 0 := hb.1 (4, .ref 4 0) (by simp [LY])
         replace r5 : τ2.regs 5 = .a (.d (.fn g caps)) := hb.1 (5, _) (by simp [LY])
         replace r6 : τ2.regs 6 = .a (B true) := hb.1 (6, _) (by simp [LY])
         replace r7 : τ2.regs 7 = .a (I (s2 + 1 : Nat)) := hb.1 (7, _) (by simp [LY])
         replace r8 : τ2.regs 8 = .a (U all) := hb.1 (8, _) (by simp [LY])
         replace r9 : τ2.regs 9 = .a (U set) := hb.1 (9, _) (by simp [LY])
         have r11 : τ2.regs 11 = .a (intsA r) := hb.1 (11, .a (intsA r)) (by simp [LY])
         replace r38 : τ2.regs 38 = .a (U (all + 1 : Nat)) := hb.1 (38, _) (by simp [LY])
         replace r39 : τ2.regs 39 = .a (U set) := hb.1 (39, _) (by simp [LY])
         replace r54 : τ2.regs 54 = .own 700000 := hb.1 (54, .own 700000) (by simp [LY])
         replace r55 : τ2.regs 55 = .a (I rs.length) := hb.1 (55, _) (by simp [LY])
         replace r56 : τ2.regs 56 = .a (I q) := hb.1 (56, _) (by simp [LY])
         replace m2 : τ2.mem 2 = some (.box [.a (evsA h), .a (unsA (afterR T)), .a (I t), .a (U dn), .a (U op)]) := hb.2 (2, _) (by simp [MY])
         replace m4 : τ2.mem 4 = some (.box [.a (I 0), .a (.d (.v (.int .u32 0))), .a (.d (.sl [])), .a (I 0)]) := hb.2 (4, _) (by simp [MY])
         replace m7 : τ2.mem 700000 = some (.log 35 1 (rrD rs)) := hb.2 (700000, _) (by simp [MY])
         (refine rO ?_; repeat' ((with_reducible first | refine rG ?_ | (refine rS ?_ ?_ <;> intro hp) | (refine rB ?_ ?_ <;> intro hb <;> try rw [hb]) | refine rD ?_ | refine rA ?_ | fail) <;> try simp only [go_sem, simprocAttr, r1, r2, r4, r5, r6, r7, r8, r9, r11, r12, r38, r39, r54, r55, r56, m2, m4, m7]))
         refine call_rest _ hl1 ?_
         simp only [go_sem, simprocAttr, m74, r12]
         by_cases hgL : lg (r ++ [(t : Int)]) = ((r ++ [(t : Int)]).length : Int)
         ·have hres : scanR N gd set (r :: rs.drop (q + 1)) s2 = .inr ⟨0, set, r, (s2 + 1 : Nat)⟩ := by simp only [scanR]; rw [if_neg hsn, if_pos (by rw [hg1]; exact decide_eq_true hgL)]
          rw [hans2, hres]
          have hgI : (lg (r ++ [(t : Int)]) = ((r ++ [(t : Int)]).length : Int)) = True := eq_true hgL
          (refine rO ?_; repeat' ((with_reducible first | refine rG ?_ | (refine rS ?_ ?_ <;> intro hp) | (refine rB ?_ ?_ <;> intro hb <;> try rw [hb]) | refine rD ?_ | refine rA ?_ | fail) <;> try simp only [go_sem, simprocAttr, r1, r2, r4, r5, r6, r7, r8, r9, r11, r12, r38, r39, r54, r55, r56, m2, m4, m7, List.length_map, hgI]))
          refine SemOp.old ?_
          (refine rO ?_; repeat' ((with_reducible first | refine rG ?_ | (refine rS ?_ ?_ <;> intro hp) | (refine rB ?_ ?_ <;> intro hb <;> try rw [hb]) | refine rD ?_ | refine rA ?_ | fail) <;> try simp only [go_sem, simprocAttr, y_build0, r4, m4]))
          rfl
         ·have hres : scanR N gd set (r :: rs.drop (q + 1)) s2 = scanR N gd set (rs.drop (q + 1)) (s2 + 1) := by simp only [scanR]; rw [if_neg hsn, if_neg (by rw [hg1]; simpa using hgL)]
          rw [hres] at hans2
          have hgI : (lg (r ++ [(t : Int)]) = ((r ++ [(t : Int)]).length : Int)) = False := eq_false hgL
          (refine rO ?_; repeat' ((with_reducible first | refine rG ?_ | (refine rS ?_ ?_ <;> intro hp) | (refine rB ?_ ?_ <;> intro hb <;> try rw [hb]) | refine rD ?_ | refine rA ?_ | fail) <;> try simp only [go_sem, simprocAttr, r1, r2, r4, r5, r6, r7, r8, r9, r11, r12, r38, r39, r54, r55, r56, m2, m4, m7, List.length_map, hgI, hwq]))
          refine ⟨_, (q + 1, s2 + 1), Ghost.refl _, ⟨⟨by omega, by omega, hans2⟩, ?_, ?_, ?_, ?_, ?_, ?_, ?_, ?_, ?_, ?_, ?_, ?_, ?_, ?_, ?_, ?_⟩, by show rs.length - (q + 1) < rs.length - q; omega⟩
          iterate 16 (· simp only [go_sem, simprocAttr, r1, r2, r4, r5, r6, r7, r8, r9, r38, r39, r54, r55, r56, m2, m4, m7, hwq, hw2])
     ·have hqI : ((q : Int) < (rs.length : Int)) = False := eq_false (by omega)
      rw [show rs.drop q = [] from List.drop_eq_nil_of_le (by omega)] at hans2
      (refine rO ?_; repeat' ((with_reducible first | refine rG ?_ | (refine rS ?_ ?_ <;> intro hp) | (refine rB ?_ ?_ <;> intro hb <;> try rw [hb]) | refine rD ?_ | refine rA ?_ | fail) <;> try simp only [go_sem, simprocAttr, r1, r2, r4, r5, r6, r7, r8, r9, r38, r39, r54, r55, r56, m2, m4, m7, hqI, hws]))
      (refine ⟨(set + 1, s2), ?_, ?_, ⟨by omega, hs2, hans2⟩, by dsimp only; omega⟩ <;> simp only [go_sem, simprocAttr, hws, r1, r2, r4, r5, r6, r7, r8, r9, r38, r39, m2, m4])
   ·have hzI : (((andN set all : Nat) : Int) = 0) = False := eq_false (by omega)
    rw [decide_eq_false hz, Bool.false_and] at hfs
    rw [hfs, if_neg (by decide)] at hans
    (refine rO ?_; repeat' ((with_reducible first | refine rG ?_ | (refine rS ?_ ?_ <;> intro hp) | (refine rB ?_ ?_ <;> intro hb <;> try rw [hb]) | refine rD ?_ | refine rA ?_ | fail) <;> try simp only [go_sem, simprocAttr, hltI, han, hzI, hws]))
    (refine ⟨(set + 1, s), ?_, ?_, ⟨by omega, hsN, hans⟩, by dsimp only; omega⟩ <;> simp only [go_sem, simprocAttr, hws])
  ·have hltI : ((set : Int) < ((all + 1 : Nat) : Int)) = False := eq_false (by omega)
   rw [setsA_end (by omega), show scanS N fits rows good [] s = ⟨1, 0, [], s⟩ from rfl] at hans
   rw [hans]
   (refine rO ?_; repeat' ((with_reducible first | refine rG ?_ | (refine rS ?_ ?_ <;> intro hp) | (refine rB ?_ ?_ <;> intro hb <;> try rw [hb]) | refine rD ?_ | refine rA ?_ | fail) <;> try simp only [go_sem, simprocAttr, hltI]))
   refine SemOp.old ?_
   (refine rO ?_; repeat' ((with_reducible first | refine rG ?_ | (refine rS ?_ ?_ <;> intro hp) | (refine rB ?_ ?_ <;> intro hb <;> try rw [hb]) | refine rD ?_ | refine rA ?_ | fail) <;> try simp only [go_sem, simprocAttr, y_build0]))
 ·rw [if_neg hk] at e
  have hfn : fitFn h (afterR T) t dn op ev.kind = .v .nilFunc := by
   rw [fitFn, if_neg (by omega), if_neg (by omega), if_neg (by omega)]
  rw [hfn, e]
  (refine rO ?_; repeat' ((with_reducible first | refine rG ?_ | (refine rS ?_ ?_ <;> intro hp) | (refine rB ?_ ?_ <;> intro hb <;> try rw [hb]) | refine rD ?_ | refine rA ?_ | fail) <;> try simp only [go_sem, simprocAttr, PG, Fan]))
  refine sem_nilfn_nil Tryz.underlying94 (by simp only [go_sem, simprocAttr]) ?_
  (refine rO ?_; repeat' ((with_reducible first | refine rG ?_ | (refine rS ?_ ?_ <;> intro hp) | (refine rB ?_ ?_ <;> intro hb <;> try rw [hb]) | refine rD ?_ | refine rA ?_ | fail) <;> try simp only [go_sem, simprocAttr]))
  refine SemOp.old ?_
  (refine rO ?_; repeat' ((with_reducible first | refine rG ?_ | (refine rS ?_ ?_ <;> intro hp) | (refine rB ?_ ?_ <;> intro hb <;> try rw [hb]) | refine rD ?_ | refine rA ?_ | fail) <;> try simp only [go_sem, simprocAttr, y_build0]))
end Go.VC
end
section
set_option maxRecDepth 100000
namespace Go.VC
open Go.RowKit Go.Proofs
theorem flatMap_cg {α β : Type} {l : List α} {f g : α → List β} (h : ∀ x ∈ l, f x = g x) : l.flatMap f = l.flatMap g := by
 rw [List.flatMap_def, List.flatMap_def, List.map_congr_left h]
theorem flatMap_filter {α β : Type} {p : α → Bool} {f : α → List β} : ∀ l : List α, (∀ x ∈ l, p x = false → f x = []) → l.flatMap f = (l.filter p).flatMap f
 | [], _ => rfl
 | x :: l, h => by
  have ih := flatMap_filter l fun y hy => h y (List.mem_cons_of_mem _ hy)
  cases hx : p x with
  | true => rw [List.filter_cons_of_pos hx, List.flatMap_cons, List.flatMap_cons, ih]
  | false => rw [List.filter_cons_of_neg (by simp [hx]), List.flatMap_cons, h x (List.mem_cons_self ..) hx, ih]; rfl
theorem flatMap_at {β : Type} {l : List Nat} {f : Nat → List β} : l.flatMap f = (List.range l.length).flatMap fun k => f (l.getD k 0) := by
 have e : l = (List.range l.length).map fun k => l.getD k 0 := by
  refine List.ext_getElem? fun i => ?_
  by_cases hi : i < l.length
  ·simp [hi]
  ·rw [List.getElem?_eq_none (by omega), List.getElem?_eq_none (by simpa using hi)]
 conv => lhs; rw [e]
 rw [List.flatMap_map]
def dR (T : List Txn) (set : Nat) : Nat → List Int → List (List Int)
 | 0, r => [r]
 | f + 1, r => (newTo T set r T.length).flatMap (dR T set f)
section
variable {T : List Txn} {set : Nat}
theorem newR_flat {α : Type} (l : List α) (g : α → List (List Int)) : newR T set (l.flatMap g) = l.flatMap fun x => newR T set (g x) := by
 simp only [newR, List.flatMap_assoc]
theorem dR_s : ∀ (f : Nat) (r : List Int), newR T set (dR T set f r) = dR T set (f + 1) r
 | 0, r => by simp [newR, dR]
 | f + 1, r => by
  show newR T set ((newTo T set r T.length).flatMap (dR T set f)) = (newTo T set r T.length).flatMap (dR T set (f + 1))
  rw [newR_flat]
  exact flatMap_cg fun x _ => dR_s f x
theorem refN_dR : ∀ i, refN T set i = dR T set (elsT set i).length []
 | 0 => rfl
 | i + 1 => by
  have ih := refN_dR i
  have hs := elsT_s set i
  unfold refN
  split
  ·rename_i h
   rw [hs, if_pos h, List.length_append, ih, dR_s]; rfl
  ·rename_i h
   rw [hs, if_neg h, List.append_nil, ih]
theorem keeps_app {r : List Int} {x : Int} : keepsFrom T (r ++ [x]) 0 = (keepsFrom T r 0 && r.all fun y => !(x == y || beforeB T x.toNat y.toNat)) := by
 unfold keepsFrom
 rw [List.drop_zero, List.drop_zero, List.length_append, List.length_singleton, List.range_succ, List.all_append, List.all_cons, List.all_nil, Bool.and_true]
 congr 1
 ·refine Bool.eq_iff_iff.2 ?_
  simp only [List.all_eq_true, List.mem_range]
  refine forall_congr' fun i => forall_congr' fun hi => ?_
  unfold okAt
  rw [List.getElem?_append_left hi, List.take_append_of_le_length (by omega)]
 ·unfold okAt
  rw [List.getElem?_append_right (Nat.le_refl _), Nat.sub_self]
  simp
theorem newOk_iff {r : List Int} {k : Nat} : newOk T set r k = true ↔ set.testBit k = true ∧ (k : Int) ∉ r ∧ keepsFrom T r 0 = true ∧ ∀ y ∈ r, beforeB T k y.toNat = false := by
 unfold newOk
 rw [keeps_app]
 simp only [Bool.and_eq_true, Bool.not_eq_true', List.any_eq_false, List.all_eq_true, Bool.or_eq_false_iff, beq_iff_eq, Int.toNat_natCast, beq_eq_false_iff_ne, Bool.not_eq_eq_eq_not, Bool.not_true]
 constructor
 ·rintro ⟨h1, h2, h3, h4⟩
  exact ⟨h1, fun hm => h2 _ hm rfl, h3, fun y hy => (h4 y hy).2⟩
 ·rintro ⟨h1, h2, h3, h4⟩
  exact ⟨h1, fun y hy e => h2 (e ▸ hy), h3, fun y hy => ⟨fun e => h2 (e ▸ hy), h4 y hy⟩⟩
theorem mem_rowI {l : List Nat} {k : Nat} : (k : Int) ∈ rowI l ↔ k ∈ l := by
 unfold rowI
 rw [List.mem_map]
 constructor
 ·rintro ⟨a, ha, e⟩; have : a = k := by omega
  exact this ▸ ha
 ·exact fun h => ⟨k, h, rfl⟩
theorem dR_dead {e y : Nat} (he : e ∈ elsT set T.length) (hb : beforeB T e y = true) : ∀ (f : Nat) (r : List Int), (e : Int) ∉ r → (y : Int) ∈ r → r.Nodup → (∀ x ∈ r, x ∈ rowI (elsT set T.length)) → r.length + f = (elsT set T.length).length → dR T set f r = []
 | 0, r, h1, h2, h3, h4, h5 => by
  exfalso
  have hn : ((e : Int) :: r).Nodup := List.nodup_cons.2 ⟨h1, h3⟩
  have := hn.length_le_of_subset (l₂ := rowI (elsT set T.length)) fun x hx => by
   rcases List.mem_cons.1 hx with rfl | h
   ·exact mem_rowI.2 he
   ·exact h4 x h
  rw [rowI_len, List.length_cons] at this
  omega
 | f + 1, r, h1, h2, h3, h4, h5 => by
  show (newTo T set r T.length).flatMap (dR T set f) = []
  rw [List.flatMap_eq_nil_iff]
  intro c hc
  obtain ⟨k, hk, hok, rfl⟩ := newTo_mem hc
  obtain ⟨k1, k2, _, k4⟩ := newOk_iff.1 hok
  refine dR_dead he hb f _ ?_ (List.mem_append_left _ h2) (List.nodup_append.2 ⟨h3, by simp, fun a ha b hb' => ?_⟩) (fun x hx => ?_) (by simp; omega)
  ·rw [List.mem_append, not_or]
   refine ⟨h1, fun hm => ?_⟩
   have : e = k := by have := List.mem_singleton.1 hm; omega
   subst this
   have := k4 _ h2
   rw [Int.toNat_natCast, hb] at this; cases this
  ·obtain rfl := List.mem_singleton.1 hb'
   intro e'; subst e'; exact k2 ha
  ·rcases List.mem_append.1 hx with h | h
   ·exact h4 x h
   ·obtain rfl := List.mem_singleton.1 h
    exact mem_rowI.2 (els_has.2 ⟨hk, k1⟩)
theorem els_inj {a b : Nat} (ha : a < (elsT set T.length).length) (hb : b < (elsT set T.length).length) (e : (elsT set T.length).getD a 0 = (elsT set T.length).getD b 0) : a = b := by
 have hnd := els_nodup set T.length
 rw [List.Nodup, List.pairwise_iff_getElem] at hnd
 rw [List.getD_eq_getElem?_getD, List.getD_eq_getElem?_getD, List.getElem?_eq_getElem ha, List.getElem?_eq_getElem hb] at e
 rcases Nat.lt_trichotomy a b with h | h | h
 ·exact absurd e (hnd a b ha hb h)
 ·exact h
 ·exact absurd e.symm (hnd b a hb ha h)
theorem upR_mem {q : List Nat} {a : Nat} (hq : ∀ k ∈ q, k < (elsT set T.length).length) (ha : a < (elsT set T.length).length) : (((elsT set T.length).getD a 0 : Nat) : Int) ∈ upR T set q ↔ a ∈ q := by
 unfold upR
 rw [List.mem_map]
 constructor
 ·rintro ⟨b, hb, e⟩
  have := els_inj (hq b hb) ha (by omega)
  exact this ▸ hb
 ·exact fun h => ⟨a, h, rfl⟩
theorem upR_nodup {q : List Nat} (hq : ∀ k ∈ q, k < (elsT set T.length).length) (hn : q.Nodup) : (upR T set q).Nodup := by
 unfold upR
 rw [List.Nodup, List.pairwise_map]
 exact List.Pairwise.imp_of_mem (fun {a b} ha hb hne e => hne (els_inj (hq a ha) (hq b hb) (by omega))) hn
theorem upR_sub {q : List Nat} (hq : ∀ k ∈ q, k < (elsT set T.length).length) : ∀ x ∈ upR T set q, x ∈ rowI (elsT set T.length) := fun x hx => by
 unfold upR at hx
 obtain ⟨a, ha, rfl⟩ := List.mem_map.1 hx
 refine mem_rowI.2 ?_
 rw [List.getD_eq_getElem?_getD, List.getElem?_eq_getElem (hq a ha)]
 exact List.getElem_mem _
theorem dfs_eq (hT : T.length ≤ 6) (hbi : ∀ i, beforeB T i i = false) : ∀ (f : Nat) (q : List Nat) (left : Nat), q.Nodup → (∀ k ∈ q, k < (elsT set T.length).length) → q.length + f = (elsT set T.length).length → (∀ k, left.testBit k = (decide (k < (elsT set T.length).length) && !q.contains k)) →
  keepsFrom T (upR T set q) 0 = true → (∀ y ∈ q, ∀ k, k < (elsT set T.length).length → k ∉ q → beforeB (subT T set) k y = false) → (rowsF (afterR (subT T set)) f q left).map (upR T set) = dR T set f (upR T set q)
 | 0, q, left, h1, h2, h3, h4, h5, h6 => rfl
 | f + 1, q, left, h1, h2, h3, h4, h5, h6 => by
  have hsl := sub_len (T := T) (set := set)
  have hnd := els_nodup set T.length
  have hEs : ∀ {a b i k : Nat}, (elsT set T.length)[a]? = some i → (elsT set T.length)[b]? = some k → beforeB (subT T set) a b = beforeB T i k := before_sub
  have hmem : ∀ {i}, i ∈ elsT set T.length → i < T.length ∧ set.testBit i = true := fun h => els_has.1 h
  have hup : ∀ r, upR T set r = r.map fun k => (((elsT set T.length).getD k 0 : Nat) : Int) := fun r => rfl
  have hm6 := elsT_le set T.length
  have hnT : newTo T set (upR T set q) T.length = (List.range T.length).flatMap (newOf T set (upR T set q)) := rfl
  have hfil : elsT set T.length = (List.range T.length).filter fun i => set.testBit i := rfl
  -- what is left
  obtain ⟨k0, hk0, hk0q⟩ : ∃ k, k < (elsT set T.length).length ∧ k ∉ q := by
   apply Classical.byContradiction
   intro hno
   have : (List.range (elsT set T.length).length).length ≤ q.length := List.nodup_range.length_le_of_subset fun k hk => by
    apply Classical.byContradiction
    intro hkq
    exact hno ⟨k, List.mem_range.1 hk, hkq⟩
   rw [List.length_range] at this
   omega
  have hl0 : left ≠ 0 := by
   intro e
   have := h4 k0
   rw [e, Nat.zero_testBit, decide_eq_true hk0] at this
   have h7 : q.contains k0 = false := by simpa using hk0q
   rw [h7] at this; cases this
  rw [rowsF_s hl0]
  show _ = (newTo T set (upR T set q) T.length).flatMap (dR T set f)
  rw [hnT, List.flatMap_assoc, flatMap_filter (p := fun i => set.testBit i) (List.range T.length) (fun x _ hx => by
   have : newOf T set (upR T set q) x = [] := by
    unfold newOf newOk
    have hx' : set.testBit x = false := hx
    rw [hx']; rfl
   rw [this]; rfl), ← hfil, flatMap_at, partF, List.map_flatMap, afterR_len1, hsl]
  refine flatMap_cg fun k hk => ?_
  have hkm := List.mem_range.1 hk
  have hEk : (elsT set T.length)[k]? = some ((elsT set T.length).getD k 0) := by rw [List.getD_eq_getElem?_getD, List.getElem?_eq_getElem hkm]; rfl
  obtain ⟨hel, heb⟩ := hmem (List.mem_of_getElem? hEk)
  have hupa : upR T set (q ++ [k]) = upR T set q ++ [(((elsT set T.length).getD k 0 : Nat) : Int)] := by rw [hup, hup, List.map_append]; rfl
  have hbk : beforeB (subT T set) k k = false := by rw [hEs hEk hEk]; exact hbi _
  have hinj : ∀ a, a < (elsT set T.length).length → (elsT set T.length).getD a 0 = (elsT set T.length).getD k 0 → a = k := fun a ha e => by
   rw [List.Nodup, List.pairwise_iff_getElem] at hnd
   rw [List.getD_eq_getElem?_getD, List.getD_eq_getElem?_getD, List.getElem?_eq_getElem ha, List.getElem?_eq_getElem hkm] at e
   rcases Nat.lt_trichotomy a k with h | h | h
   ·exact absurd e (hnd a k ha hkm h)
   ·exact h
   ·exact absurd e.symm (hnd k a hkm ha h)
  have hin : (((elsT set T.length).getD k 0 : Nat) : Int) ∈ upR T set q ↔ k ∈ q := by
   rw [hup, List.mem_map]
   constructor
   ·rintro ⟨a, ha, e⟩
    have := hinj a (h2 a ha) (by omega)
    exact this ▸ ha
   ·exact fun h => ⟨k, h, rfl⟩
  have hmay := ext_may (T := subT T set) (who := 2 ^ (elsT set T.length).length - 1) (left := left) (row := q) (by rw [hsl]; have := Nat.one_le_two_pow (n := (elsT set T.length).length); omega) (fun j => by rw [h4 j, Nat.testBit_two_pow_sub_one]) (by rw [hsl]; exact hkm)
  rw [hmay, mayGo, Nat.testBit_two_pow_sub_one, decide_eq_true hkm, Bool.true_and]
  generalize hek : (elsT set T.length).getD k 0 = ek at *
  by_cases hkq : k ∈ q
  ·have h7 : q.contains k = true := by simpa using hkq
   have h8 : newOf T set (upR T set q) ek = [] := by
    unfold newOf
    rw [if_neg]
    intro h
    exact (newOk_iff.1 h).2.1 (hin.2 hkq)
   rw [h7, h8]; rfl
  ·have h7 : q.contains k = false := by simpa using hkq
   have hok : newOk T set (upR T set q) ek = true := by
    refine newOk_iff.2 ⟨heb, fun h => hkq (hin.1 h), h5, fun y hy => ?_⟩
    rw [hup, List.mem_map] at hy
    obtain ⟨a, ha, rfl⟩ := hy
    have hEa : (elsT set T.length)[a]? = some ((elsT set T.length).getD a 0) := by rw [List.getD_eq_getElem?_getD, List.getElem?_eq_getElem (h2 a ha)]; rfl
    rw [Int.toNat_natCast, ← hEs hEk hEa]
    exact h6 a ha k hkm hkq
   have h8 : newOf T set (upR T set q) ek = [upR T set q ++ [(ek : Int)]] := by rw [newOf, if_pos hok]
   rw [h7, h8, Bool.not_false, Bool.true_and, List.flatMap_cons, List.flatMap_nil, List.append_nil, ← hupa]
   have hqn : (q ++ [k]).Nodup := List.nodup_append.2 ⟨h1, by simp, fun a ha b hb => by
    obtain rfl := List.mem_singleton.1 hb
    intro e; subst e; exact hkq ha⟩
   have hqm : ∀ a ∈ q ++ [k], a < (elsT set T.length).length := fun a ha => by
    rcases List.mem_append.1 ha with h | h
    ·exact h2 a h
    ·obtain rfl := List.mem_singleton.1 h; exact hkm
   cases hfr : freeR (subT T set) (2 ^ (elsT set T.length).length - 1) q k with
   | true =>
    rw [if_pos rfl]
    refine dfs_eq hT hbi f (q ++ [k]) _ hqn hqm (by simp; omega) (fun j => ?_) ?_ (fun y hy j hj hjq => ?_)
    ·rw [andN_bit, h4 j, Nat.testBit_two_pow]
     by_cases e : k = j
     ·subst e; simp
     ·have : (q ++ [k]).contains j = q.contains j := by
       rw [Bool.eq_iff_iff]; simp [Ne.symm e]
      rw [this, decide_eq_false e]; simp
    ·rw [hupa, keeps_app, h5, Bool.true_and, List.all_eq_true]
     have := newOk_iff.1 hok
     intro y hy
     have h9 := this.2.2.2 y hy
     have h10 : (ek : Int) ≠ y := fun e => this.2.1 (e ▸ hy)
     simp [h9, h10]
    ·rw [List.mem_append, not_or] at hjq
     rcases List.mem_append.1 hy with h | h
     ·exact h6 y h j hj hjq.1
     ·obtain rfl := List.mem_singleton.1 h
      rw [freeR, List.all_eq_true] at hfr
      have := hfr j (List.mem_range.2 (by rw [hsl]; exact hj))
      have h11 : q.contains j = false := by simpa using hjq.1
      rw [Nat.testBit_two_pow_sub_one, decide_eq_true hj, h11] at this
      simpa using this
   | false =>
    rw [if_neg (by decide)]
    rw [freeR, List.all_eq_false] at hfr
    obtain ⟨j, hj, hjb⟩ := hfr
    have hj := List.mem_range.1 hj
    rw [hsl] at hj
    rw [Nat.testBit_two_pow_sub_one, decide_eq_true hj] at hjb
    simp only [Bool.true_and, Bool.not_eq_true', Bool.and_eq_false_iff, Bool.not_eq_eq_eq_not, Bool.not_true, not_or, Bool.not_eq_false] at hjb
    obtain ⟨hjq, hjk⟩ := hjb
    have hjq' : j ∉ q := by simpa using hjq
    have hEj : (elsT set T.length)[j]? = some ((elsT set T.length).getD j 0) := by rw [List.getD_eq_getElem?_getD, List.getElem?_eq_getElem hj]; rfl
    have hne : j ≠ k := fun e => by subst e; rw [hbk] at hjk; cases hjk
    rw [hEs hEj hEk] at hjk
    have hjn : j ∉ q ++ [k] := by
     rw [List.mem_append, not_or]; exact ⟨hjq', fun h => hne (List.mem_singleton.1 h)⟩
    have hnn := hqn
    symm
    refine dR_dead (List.mem_of_getElem? hEj) hjk f _ ?_ ?_ ?_ ?_ ?_
    ·exact fun h => hjn ((upR_mem hqm hj).1 h)
    ·rw [hupa]; simp
    ·exact upR_nodup hqm hqn
    ·exact upR_sub hqm
    ·rw [upR_len]; simp; omega
end
end Go.VC
end
section
set_option maxRecDepth 100000
namespace Go.VC
open Go.RowKit Go.Proofs
section
variable {T old : List Txn} {set t : Nat} {kind : Int}
theorem rows_eq (hT : T.length ≤ 6) (hbi : ∀ i, beforeB T i i = false) : subRows T set = refN T set T.length := by
 rw [refN_dR, subRows, allRows, afterR_len1, sub_len]
 refine dfs_eq hT hbi _ [] _ List.nodup_nil (fun k hk => by cases hk) (by simp) (fun k => by rw [Nat.testBit_two_pow_sub_one]; simp) ?_ (fun y hy => by cases hy)
 rfl
theorem st_bit (s : Int) (hs : s ≠ 0) (i : Nat) : (bitsN (isSt old s) old.length).testBit i = decide (stP old i = s) := by
 rw [bitsN_test]
 unfold stP isSt
 by_cases hi : i < old.length
 ·rw [List.getElem?_eq_getElem hi, decide_eq_true hi]; simp
 ·rw [List.getElem?_eq_none (by omega), decide_eq_false hi]; simp [Ne.symm hs]
theorem andN_zero {a b : Nat} : andN a b = 0 ↔ ∀ i, a.testBit i = true → b.testBit i = true := by
 constructor
 ·intro h i hi
  have := andN_bit a b i
  rw [h, Nat.zero_testBit, hi] at this
  simpa using this.symm
 ·intro h
  refine Nat.eq_of_testBit_eq fun i => ?_
  rw [andN_bit, Nat.zero_testBit]
  cases ha : a.testBit i with
  | false => rfl
  | true => rw [h i ha]; rfl
theorem and_zero {p : Nat → Bool} {n s : Nat} : bitsN p n &&& s = 0 ↔ ∀ k, k < n → p k = true → s.testBit k = false := by
 constructor
 ·intro h k hk hp
  have := Nat.testBit_and (bitsN p n) s k
  rw [h, Nat.zero_testBit, bitsN_test, decide_eq_true hk, hp] at this
  simpa using this.symm
 ·intro h
  refine Nat.eq_of_testBit_eq fun i => ?_
  rw [Nat.testBit_and, Nat.zero_testBit, bitsN_test]
  by_cases hi : i < n
  ·cases hp : p i with
   | false => simp
   | true => rw [h i hi hp]; simp
  ·rw [decide_eq_false hi]; rfl
theorem lt_pow {n s : Nat} : s < 2 ^ n ↔ ∀ i, s.testBit i = true → i < n := by
 constructor
 ·intro h i hi
  apply Classical.byContradiction
  intro hn
  rw [Nat.testBit_lt_two_pow (Nat.lt_of_lt_of_le h (Nat.pow_le_pow_right (by omega) (by omega)))] at hi
  cases hi
 ·intro h
  refine Nat.lt_pow_two_of_testBit s fun i hi => ?_
  cases hb : s.testBit i with
  | false => rfl
  | true => have := h i hb; omega
theorem some_eq (hlen : old.length ≤ T.length) : someP T old set = decide (andN set (bitsN (isSt old 2) old.length ||| bitsN (isSt old 1) old.length) = 0) := by
 have hall : ∀ i, (bitsN (isSt old 2) old.length ||| bitsN (isSt old 1) old.length).testBit i = (decide (stP old i = 2) || decide (stP old i = 1)) := fun i => by
  rw [Nat.testBit_or, st_bit 2 (by decide), st_bit 1 (by decide)]
 have hso : ∀ i, ¬ i < old.length → stP old i = 0 := fun i hi => by unfold stP; rw [List.getElem?_eq_none (by omega)]
 rw [Bool.eq_iff_iff, someP, Bool.and_eq_true, decide_eq_true_eq, decide_eq_true_eq, andN_zero, List.all_eq_true]
 constructor
 ·rintro ⟨h1, h2⟩ i hi
  have hlt : set < 2 ^ T.length := (Nat.div_eq_zero_iff_lt (Nat.two_pow_pos _)).1 h2
  have := h1 i (List.mem_range.2 (lt_pow.1 hlt i hi))
  rw [hall]
  simp only [someX, hi, Bool.true_and, Bool.not_eq_true', Bool.and_eq_false_iff, Bool.not_eq_false', decide_eq_true_eq] at this
  simp only [Bool.or_eq_true, decide_eq_true_eq]
  exact this.symm
 ·intro h
  refine ⟨fun i _ => ?_, Nat.div_eq_of_lt (lt_pow.2 fun i hi => ?_)⟩
  ·cases hb : set.testBit i with
   | false => simp [someX, hb]
   | true =>
    have := h i hb
    rw [hall] at this
    simp only [Bool.or_eq_true, decide_eq_true_eq] at this
    rcases this with e | e <;> simp [someX, e]
  ·have := h i hi
   rw [hall] at this
   apply Classical.byContradiction
   intro hn
   rw [hso i (by omega)] at this
   simp at this
theorem afterR_get {i : Nat} (hi : i < T.length) : (afterR T).getD i 0 = bitsN (beforeB T i) T.length := by
 rw [List.getD_eq_getElem?_getD, afterR_at hi]; rfl
theorem clo_eq (ht : t < T.length) : cloP T old t set = closedP (afterR T) t (bitsN (isSt old 2) old.length) set := by
 unfold cloP closedP
 rw [afterR_len1]
 congr 1
 rw [Bool.eq_iff_iff, List.all_eq_true, List.all_eq_true]
 refine forall_congr' fun i => forall_congr' fun hi => ?_
 have hi := List.mem_range.1 hi
 unfold cloX closX
 rw [afterR_get hi, st_bit 2 (by decide)]
 by_cases hit : i = t
 ·simp [hit]
 ·rw [decide_eq_false hit, Bool.false_or, Bool.not_false, Bool.true_and]
  cases hb : (set.testBit i == decide (stP old i = 2)) with
  | true =>
   have : (List.range T.length).all (cloY T old t set i) = true := by
    rw [List.all_eq_true]; intro k _; unfold cloY; rw [hb]; simp
   rw [this]; simp
  | false =>
   simp only [Bool.not_false, Bool.and_true, Bool.not_not]
   rw [decide_eq_true_eq, and_zero, List.all_eq_true]
   constructor
   ·intro h k hk hp
    have := h k (List.mem_range.2 hk)
    unfold cloY at this
    rw [hb, hp] at this
    simp only [Bool.not_false, Bool.and_true, Bool.not_eq_true', Bool.or_eq_false_iff, decide_eq_false_iff_not] at this
    rw [Nat.testBit_or, this.2, Nat.testBit_two_pow, decide_eq_false (fun e => this.1 e.symm)]; rfl
   ·intro h k hk
    have hk := List.mem_range.1 hk
    unfold cloY
    rw [hb]
    cases hp : beforeB T i k with
    | false => simp
    | true =>
     have := h k hk hp
     rw [Nat.testBit_or, Bool.or_eq_false_iff, Nat.testBit_two_pow, decide_eq_false_iff_not] at this
     rw [this.1, decide_eq_false (fun e => this.2 e.symm)]; rfl
theorem beh_eq (ht : t < T.length) : (!behP T t set) = decide ((afterR T).getD t 0 &&& set = 0) := by
 rw [afterR_get ht, Bool.eq_iff_iff, decide_eq_true_eq, and_zero, Bool.not_eq_true', behP, List.any_eq_false]
 constructor
 ·intro h k hk hp
  have := h k (List.mem_range.2 hk)
  rw [hp] at this
  simpa using this
 ·intro h k hk
  have hk := List.mem_range.1 hk
  cases hp : beforeB T t k with
  | false => simp
  | true => rw [h k hk hp]; simp
theorem fit_eq (hlen : old.length ≤ T.length) (ht : t < T.length) (hk : kind = 3 ∨ kind = 5 ∨ kind = 7 ∨ kind = 9) : fitP T old t kind set = fitE (afterR T) t (bitsN (isSt old 2) old.length) (bitsN (isSt old 1) old.length) kind set := by
 unfold fitP fitE fitQ
 rw [some_eq hlen]
 congr 1
 by_cases h35 : kind = 3 ∨ kind = 5
 ·rw [if_pos h35, if_pos h35, clo_eq ht, beh_eq ht]
 ·rw [if_neg h35, if_neg h35]
  congr 1
  ·rw [Bool.eq_iff_iff, decide_eq_true_eq, andN_zero, List.all_eq_true]
   constructor
   ·intro h i hi
    rw [st_bit 2 (by decide), decide_eq_true_eq] at hi
    have hil : i < old.length := by
     apply Classical.byContradiction
     intro hn
     unfold stP at hi; rw [List.getElem?_eq_none (by omega)] at hi; cases hi
    have := h i (List.mem_range.2 (by omega))
    rw [decide_eq_true hi] at this
    simpa using this
   ·intro h i _
    cases hs : decide (stP old i = 2) with
    | false => rfl
    | true =>
     rw [h i (by rw [st_bit 2 (by decide)]; exact hs)]; rfl
  ·have hb : set &&& 2 ^ t = if set.testBit t then 2 ^ t else 0 := by
    refine Nat.eq_of_testBit_eq fun i => ?_
    rw [Nat.testBit_and, Nat.testBit_two_pow]
    by_cases e : t = i
    ·subst e; cases set.testBit t <;> simp
    ·rw [decide_eq_false e, Bool.and_false]
     cases set.testBit t <;> simp [e]
   have hp : 2 ^ t ≠ 0 := Nat.pos_iff_ne_zero.1 (Nat.two_pow_pos t)
   rw [hb]
   cases set.testBit t <;> by_cases h7 : kind = 7 <;> simp [h7, hp, Ne.symm hp]
theorem scanS_filter {N : Nat} {f : Nat → Bool} {rows : Nat → List (List Int)} {good : Nat → List Int → Bool} : ∀ (l : List Nat) (s : Nat), scanS N f rows good l s = scanS N (fun _ => true) rows good (l.filter f) s
 | [], s => rfl
 | x :: l, s => by
  have ih : scanS N f rows good l = scanS N (fun _ => true) rows good (l.filter f) := funext fun s => scanS_filter l s
  cases hf : f x with
  | true =>
   rw [List.filter_cons_of_pos hf]
   simp only [scanS, hf, if_true, ih]
  | false =>
   rw [List.filter_cons_of_neg (by simp [hf])]
   simp only [scanS, hf, Bool.false_eq_true, if_false, ih]
theorem range_filter {p : Nat → Bool} {a b : Nat} (hab : a ≤ b) (h : ∀ x, p x = true → x < a) : (List.range b).filter p = (List.range a).filter p := by
 obtain ⟨d, rfl⟩ : ∃ d, b = a + d := ⟨b - a, by omega⟩
 rw [List.range_add, List.filter_append]
 have : ((List.range d).map (a + ·)).filter p = [] := by
  rw [List.filter_eq_nil_iff]
  intro x hx hp
  obtain ⟨y, _, rfl⟩ := List.mem_map.1 hx
  have := h _ hp
  omega
 rw [this, List.append_nil]
theorem ans_eq (hT : T.length ≤ 6) (hlen : old.length ≤ T.length) (ht : t < T.length) (hbi : ∀ i, beforeB T i i = false) (N : Nat) : ansE T t (bitsN (isSt old 2) old.length) (bitsN (isSt old 1) old.length) kind N = ansP T old t kind N := by
 unfold ansE ansP
 split
 ·rename_i hk
  have hf : fitP T old t kind = fitE (afterR T) t (bitsN (isSt old 2) old.length) (bitsN (isSt old 1) old.length) kind := funext fun set => fit_eq hlen ht hk
  have hr : (fun set => refN T set T.length) = subRows T := funext fun set => (rows_eq hT hbi).symm
  rw [hf, hr, scanS_filter (setsA _), scanS_filter sets64]
  congr 1
  have h1 : bitsN (isSt old 2) old.length < 64 := st64 old 2 (by omega)
  have h2 : bitsN (isSt old 1) old.length < 64 := st64 old 1 (by omega)
  have h3 : bitsN (isSt old 2) old.length ||| bitsN (isSt old 1) old.length < 64 := Nat.or_lt_two_pow (n := 6) h1 h2
  unfold setsA sets64
  refine (range_filter (by omega) fun x hx => ?_).symm
  unfold fitE at hx
  rw [Bool.and_eq_true, decide_eq_true_eq, andN_zero] at hx
  have e : x &&& (bitsN (isSt old 2) old.length ||| bitsN (isSt old 1) old.length) = x := Nat.eq_of_testBit_eq fun i => by
   rw [Nat.testBit_and]
   cases h : x.testBit i with
   | false => rfl
   | true => rw [hx.1 i h]; rfl
  have : x &&& (bitsN (isSt old 2) old.length ||| bitsN (isSt old 1) old.length) ≤ (bitsN (isSt old 2) old.length ||| bitsN (isSt old 1) old.length) := Nat.and_le_right
  omega
 ·rfl
end
end Go.VC
end
section
set_option maxRecDepth 100000
namespace Go.VC
open Go.RowKit Go.Proofs Go.IntWalk
theorem rowE_0 (h : List Ev) (n : Int) : rowE h 0 0 n = maySE h n := by
 unfold rowE
 split
 ·rw [Nat.or_zero, Nat.zero_div, if_pos rfl]; exact (‹maySE h n = 0›).symm
 ·rfl
theorem txns_namesL {h : List Ev} (hE : checkE h = 0) : (txns h).map Txn.name = namesE h := by
 rw [← table_eq hE, refTab, List.map_map]
 exact List.map_id'' (fun _ => rfl) _
structure PartIs (h : List Ev) (i t : Nat) : Prop where
 idx : idxOf (nameP (h.getD i ⟨0, 0, 0, 0⟩).tx) (txns (h.take (i + 1))) = t
 lt : t < (txns (h.take (i + 1))).length
 len : (txns (h.take i)).length ≤ (txns (h.take (i + 1))).length
 fl : ∀ t ∈ txns (h.take (i + 1)), 0 ≤ t.first ∧ t.first ≤ t.last
theorem part_is {h : List Ev} {i : Nat} (hE : checkE h = 0) (hi : i < h.length) : ∃ t, PartIs h i t := by
 have hE1 := check_take hE (show i + 1 ≤ h.length by omega)
 have hE0 := check_take hE (show i ≤ h.length by omega)
 have hn1 := txns_namesL hE1
 have hn0 := txns_namesL hE0
 have hev : h.getD i ⟨0, 0, 0, 0⟩ = h[i] := by rw [List.getD_eq_getElem?_getD, List.getElem?_eq_getElem hi]; rfl
 have hin : h[i].tx ∈ namesE (h.take (i + 1)) := by
  rw [names_s hi]
  unfold nameStep
  split
  ·rename_i h; simpa using h
  ·simp
 have hany : (txns (h.take (i + 1))).any (nameP h[i].tx) = true := by
  rw [← hn1] at hin
  obtain ⟨x, hx, hxn⟩ := List.mem_map.1 hin
  rw [List.any_eq_true]
  exact ⟨x, hx, by unfold nameP; simpa using hxn⟩
 rw [← idx_ge] at hany
 obtain ⟨k, hk, hk2, _⟩ := idx_some (p := nameP h[i].tx) (l := txns (h.take (i + 1))) (by have := of_decide_eq_true hany; omega)
 refine ⟨k, by rw [hev]; exact hk2, hk, ?_, fun t ht => ⟨(txn_ok hE1 ht).f0.1, txns_fl hE1 t ht⟩⟩
 have h1 : (txns (h.take i)).length = (namesE (h.take i)).length := by rw [← hn0, List.length_map]
 have h2 : (txns (h.take (i + 1))).length = (namesE (h.take (i + 1))).length := by rw [← hn1, List.length_map]
 rw [h1, h2, List.take_succ_eq_append_getElem hi]
 exact names_app _ _
theorem before_self {T : List Txn} (hfl : ∀ t ∈ T, 0 ≤ t.first ∧ t.first ≤ t.last) (i : Nat) : beforeB T i i = false := by
 unfold beforeB
 cases hx : T[i]? with
 | none => rfl
 | some x =>
  have := hfl x (List.mem_of_getElem? hx)
  simp only
  rw [decide_eq_false (show ¬ x.last < x.first by omega), Bool.and_false]
def ansF (h : List Ev) (i N : Nat) : Fd := ansP (txns (h.take (i + 1))) (txns (h.take i)) (idxOf (nameP (h.getD i ⟨0, 0, 0, 0⟩).tx) (txns (h.take (i + 1)))).toNat (h.getD i ⟨0, 0, 0, 0⟩).kind N
def ansW (h : List Ev) (i n : Int) : Int := if maySE h n = 0 then (if 0 ≤ i ∧ i < h.length then 0 else 1) else maySE h n
def ansR (h : List Ev) (i n : Int) : Fd := if ansW h i n = 0 then ansF h i.toNat n.toNat else ⟨0, 0, [], 0⟩
theorem t1031 (h : List Ev) (i n : Int) : Holds Tryz.prog GL 28 [evsA h, I i, I n] [.a (ansR h i n).a, .a (I (ansW h i n))] := by
 refine fn_holds (vs := [.cell 6 37, .tmp 7]) (by kernel_rfl) Tryz.func28 rfl rfl (by kernel_rfl) (by kernel_rfl) rfl ?_
 have hrow := t1056 h 0 0 n (by decide) (by decide)
 rw [rowE_0] at hrow
 generalize rowF h 0 0 n = F at hrow
 have e2 : ansR h i n = if ansW h i n = 0 then ansF h i.toNat n.toNat else ⟨0, 0, [], 0⟩ := rfl
 by_cases hM : maySE h n = 0
 ·obtain ⟨hE, hn0, hn1⟩ := mayS_ok hM
  have e1 : ansW h i n = if 0 ≤ i ∧ i < h.length then 0 else 1 := by rw [ansW, if_pos hM]
  rw [hM] at hrow
  by_cases hin : 0 ≤ i ∧ i < h.length
  ·rw [if_pos hin] at e1
   rw [e1, if_pos rfl] at e2
   rw [e1, e2]
   obtain ⟨k, rfl⟩ : ∃ k : Nat, i = k := ⟨i.toNat, by omega⟩
   obtain ⟨N, rfl⟩ : ∃ N : Nat, n = N := ⟨n.toNat, by omega⟩
   rw [Int.toNat_natCast, Int.toNat_natCast]
   have hk : k < h.length := by omega
   obtain ⟨t, P⟩ := part_is hE hk
   have hE1 := check_take hE (show k + 1 ≤ h.length by omega)
   have hev : h.getD k ⟨0, 0, 0, 0⟩ = h[k] := by rw [List.getD_eq_getElem?_getD, List.getElem?_eq_getElem hk]; rfl
   have hid := P.idx
   have hlook := t1096 h k t hk hE (by rw [← hev]; exact P.idx)
   have hT6 := txns_len6 (h.take (k + 1))
   have hbl : ∀ s, bitsN (isSt (txns (h.take k)) s) (txns (h.take k)).length < 2 ^ (txns (h.take (k + 1))).length := fun s => Nat.lt_of_lt_of_le (bitsN_lt _ _) (Nat.pow_le_pow_right (by omega) P.len)
   have hans := t1097 (h.take (k + 1)) (txns (h.take (k + 1))) t (bitsN (isSt (txns (h.take k)) 2) (txns (h.take k)).length) (bitsN (isSt (txns (h.take k)) 1) (txns (h.take k)).length) h[k] N hE1 rfl (by
    rw [List.length_take, List.getElem?_take]
    rw [show min (k + 1) h.length - 1 = k by omega, if_pos (by omega), List.getElem?_eq_getElem hk]) P.lt (hbl 2) (hbl 1) (by omega) P.fl
   rw [ans_eq hT6 P.len P.lt (before_self P.fl)] at hans
   have eF : ansF h k N = ansP (txns (h.take (k + 1))) (txns (h.take k)) t h[k].kind N := by
    rw [ansF, P.idx, Int.toNat_natCast, hev]
   rw [eF]
   generalize ansP (txns (h.take (k + 1))) (txns (h.take k)) t h[k].kind N = an at *
   have i0 : ((k : Int) < 0) = False := eq_false (by omega)
   have i1 : ((k : Int) ≥ (h.length : Int)) = False := eq_false (by omega)
   (refine rO ?_; repeat' ((with_reducible first | refine rG ?_ | (refine rS ?_ ?_ <;> intro hp) | (refine rB ?_ ?_ <;> intro hb <;> try rw [hb]) | refine rD ?_ | refine rA ?_ | fail) <;> try simp only [go_sem, simprocAttr]))
   refine call_dat hrow ?_
   (refine rO ?_; repeat' ((with_reducible first | refine rG ?_ | (refine rS ?_ ?_ <;> intro hp) | (refine rB ?_ ?_ <;> intro hb <;> try rw [hb]) | refine rD ?_ | refine rA ?_ | fail) <;> try simp only [go_sem, simprocAttr, List.length_map, i0, i1]))
   refine call_dat hlook ?_
   (refine rO ?_; repeat' ((with_reducible first | refine rG ?_ | (refine rS ?_ ?_ <;> intro hp) | (refine rB ?_ ?_ <;> intro hb <;> try rw [hb]) | refine rD ?_ | refine rA ?_ | fail) <;> try simp only [go_sem, simprocAttr]))
   refine call_dat hans ?_
   (refine rO ?_; repeat' ((with_reducible first | refine rG ?_ | (refine rS ?_ ?_ <;> intro hp) | (refine rB ?_ ?_ <;> intro hb <;> try rw [hb]) | refine rD ?_ | refine rA ?_ | fail) <;> try simp only [go_sem, simprocAttr]))
  ·rw [if_neg hin] at e1
   rw [e1, if_neg (by decide)] at e2
   rw [e1, e2]
   (refine rO ?_; repeat' ((with_reducible first | refine rG ?_ | (refine rS ?_ ?_ <;> intro hp) | (refine rB ?_ ?_ <;> intro hb <;> try rw [hb]) | refine rD ?_ | refine rA ?_ | fail) <;> try simp only [go_sem, simprocAttr]))
   refine call_dat hrow ?_
   by_cases hi0 : i < 0
   ·have i0 : (i < 0) = True := eq_true hi0
    (refine rO ?_; repeat' ((with_reducible first | refine rG ?_ | (refine rS ?_ ?_ <;> intro hp) | (refine rB ?_ ?_ <;> intro hb <;> try rw [hb]) | refine rD ?_ | refine rA ?_ | fail) <;> try simp only [go_sem, simprocAttr, List.length_map, i0]))
    refine SemOp.old ?_
    (refine rO ?_; repeat' ((with_reducible first | refine rG ?_ | (refine rS ?_ ?_ <;> intro hp) | (refine rB ?_ ?_ <;> intro hb <;> try rw [hb]) | refine rD ?_ | refine rA ?_ | fail) <;> try simp only [go_sem, simprocAttr, y_build0]))
   ·have i0 : (i < 0) = False := eq_false hi0
    have i1 : (i ≥ (h.length : Int)) = True := eq_true (by omega)
    (refine rO ?_; repeat' ((with_reducible first | refine rG ?_ | (refine rS ?_ ?_ <;> intro hp) | (refine rB ?_ ?_ <;> intro hb <;> try rw [hb]) | refine rD ?_ | refine rA ?_ | fail) <;> try simp only [go_sem, simprocAttr, List.length_map, i0, i1]))
    refine SemOp.old ?_
    (refine rO ?_; repeat' ((with_reducible first | refine rG ?_ | (refine rS ?_ ?_ <;> intro hp) | (refine rB ?_ ?_ <;> intro hb <;> try rw [hb]) | refine rD ?_ | refine rA ?_ | fail) <;> try simp only [go_sem, simprocAttr, y_build0]))
 ·have e1 : ansW h i n = maySE h n := by rw [ansW, if_neg hM]
  rw [e1, if_neg hM] at e2
  rw [e1, e2]
  have hMI : (maySE h n = 0) = False := eq_false hM
  (refine rO ?_; repeat' ((with_reducible first | refine rG ?_ | (refine rS ?_ ?_ <;> intro hp) | (refine rB ?_ ?_ <;> intro hb <;> try rw [hb]) | refine rD ?_ | refine rA ?_ | fail) <;> try simp only [go_sem, simprocAttr]))
  refine call_dat hrow ?_
  (refine rO ?_; repeat' ((with_reducible first | refine rG ?_ | (refine rS ?_ ?_ <;> intro hp) | (refine rB ?_ ?_ <;> intro hb <;> try rw [hb]) | refine rD ?_ | refine rA ?_ | fail) <;> try simp only [go_sem, simprocAttr, hMI]))
  refine SemOp.old ?_
  (refine rO ?_; repeat' ((with_reducible first | refine rG ?_ | (refine rS ?_ ?_ <;> intro hp) | (refine rB ?_ ?_ <;> intro hb <;> try rw [hb]) | refine rD ?_ | refine rA ?_ | fail) <;> try simp only [go_sem, simprocAttr, y_build0]))
end Go.VC
end
section
set_option maxRecDepth 100000
namespace Go.VC
open Go.RowKit Go.Proofs Go.IntWalk
def aliveA : List Ev := [⟨0, 1, 0, 0⟩, ⟨1, 1, 0, 0⟩, ⟨4, 1, 0, 5⟩, ⟨5, 1, 0, 0⟩, ⟨6, 1, 0, 0⟩, ⟨0, 2, 0, 0⟩, ⟨1, 2, 0, 0⟩, ⟨2, 2, 0, 0⟩, ⟨3, 2, 0, 5⟩]
theorem aliveA_e : ansW aliveA 8 9 = 0 := by decide +kernel
theorem aliveA_v : ansR aliveA 8 9 = ⟨0, 1, [0], 2⟩ := by
 rw [ansR, if_pos aliveA_e]
 have h1 : (ansF aliveA (8 : Int).toNat (9 : Int).toNat).v = 0 := by decide +kernel
 have h2 : (ansF aliveA (8 : Int).toNat (9 : Int).toNat).c = 1 := by decide +kernel
 have h3 : (ansF aliveA (8 : Int).toNat (9 : Int).toNat).row = [0] := by decide +kernel
 have h4 : (ansF aliveA (8 : Int).toNat (9 : Int).toNat).s = 2 := by decide +kernel
 generalize ansF aliveA (8 : Int).toNat (9 : Int).toNat = F at *
 obtain ⟨v, c, r, s⟩ := F
 simp_all
theorem t1033 : Holds Tryz.prog GL 9 [] [.a (B true)] := by
 refine fn_holds (vs := [.tmp 0]) (by kernel_rfl) Tryz.func9 rfl rfl (by kernel_rfl) (by kernel_rfl) rfl ?_
 (refine rO ?_; repeat' ((with_reducible first | refine rG ?_ | (refine rS ?_ ?_ <;> intro hp) | (refine rB ?_ ?_ <;> intro hb <;> try rw [hb]) | refine rD ?_ | refine rA ?_ | fail) <;> try simp only [go_sem, simprocAttr]))
 refine call_rest _ (t1031 aliveA 8 9) ?_
 rw [aliveA_e, aliveA_v]
 simp only [go_sem, simprocAttr, aliveA, Ev.enc_eq]
 rfl
theorem q1033 {σ : S} {KR : R → Prop} (hK : KR (retR [B true])) : callVQ Tryz.prog GL 9 [] σ KR := callQ_dat (res := [B true]) t1033 hK
theorem scanR_bud {N : Nat} {good : List Int → Bool} {set : Nat} : ∀ (rs : List (List Int)) (s : Nat), s ≤ N → (∀ s', scanR N good set rs s = .inl s' → s' ≤ N) ∧ ∀ x, scanR N good set rs s = .inr x → x.s ≤ N ∧ (x.v = 0 → 1 ≤ x.s)
 | [], s, h => ⟨fun s' e => by cases e; exact h, fun x e => by cases e⟩
 | r :: rs, s, h => by
  unfold scanR
  split
  ·exact ⟨fun s' e => by (cases e), fun x e => by cases e; exact ⟨by simpa using h, fun e => by simp at e⟩⟩
  ·split
   ·exact ⟨fun s' e => by (cases e), fun x e => by cases e; exact ⟨by simp only; omega, fun _ => by simp only; omega⟩⟩
   ·exact scanR_bud rs (s + 1) (by omega)
theorem scanS_bud {N : Nat} {fits : Nat → Bool} {rows : Nat → List (List Int)} {good : Nat → List Int → Bool} : ∀ (l : List Nat) (s : Nat), s ≤ N → (scanS N fits rows good l s).s ≤ N ∧ ((scanS N fits rows good l s).v = 0 → 1 ≤ (scanS N fits rows good l s).s)
 | [], s, h => ⟨by simpa [scanS] using h, fun e => by simp [scanS] at e⟩
 | x :: l, s, h => by
  unfold scanS
  split
  ·obtain ⟨h1, h2⟩ := scanR_bud (good := good x) (set := x) (rows x) s h
   cases hr : scanR N (good x) x (rows x) s with
   | inl s' => exact scanS_bud l s' (h1 s' hr)
   | inr y => exact h2 y hr
  ·exact scanS_bud l s h
end Go.VC
end
section
set_option maxRecDepth 100000
namespace Go.VC
open Go.RowKit Go.Proofs Go.IntWalk
section
variable {H : Type} {enc : TypeId × Value → H} {w : World} {base : Nat} {held : Bool}
theorem fd_cells {fuel : Nat} {cs : List Value} {y : DataW H × List MemPlace} (h : DataW.trod enc Tryz.prog w base (fun _ => true) held fuel 37 cs = some y) : ∃ (x : Fd) (s : Value), cs = [.int .i64 x.v, .int .u32 x.c, s, .int .i64 x.s] ∧ Rd (fun _ => True) w s (.sl (x.row.map ienc)) := by
 obtain ⟨xs, n, _, rfl, hl, hlen, hf⟩ := DataW.trod_struct Tryz.underlying37 h
 have h4 : cs.length = 4 := by rw [hl]; kernel_rfl
 have c3 : Tryz.prog.cellsOf 3 = 1 := by kernel_rfl
 have c28 : Tryz.prog.cellsOf 34 = 1 := by kernel_rfl
 have c30 : Tryz.prog.cellsOf 35 = 1 := by kernel_rfl
 match cs, h4, xs, hlen with
 | [a, b, c, d], _, [x0, x1, x2, x3], _ =>
  have g := fun i f hi => hf i f hi
  obtain ⟨n0, e0⟩ := int_cell Tryz.underlying3 (by simpa [c3] using g 0 _ rfl)
  obtain ⟨n1, e1⟩ := int_cell Tryz.underlying34 (by simpa [c28] using g 1 _ rfl)
  obtain ⟨l, hr⟩ := rd_ints30 (v := c) (by simpa [c30] using g 2 _ rfl)
  obtain ⟨n3, e3⟩ := int_cell Tryz.underlying3 (by simpa [c3] using g 3 _ rfl)
  exact ⟨⟨n0, n1, l, n3⟩, c, by rw [e0, e1, e3], hr⟩
end
end Go.VC
end
section
set_option maxRecDepth 100000
namespace Go.VC
open Go.RowKit Go.Proofs Go.IntWalk
def Fd.enc (x : Fd) : List D := [dI x.v, .v (.int .u32 x.c), .sl (x.row.map ienc), dI x.s]
theorem Fd.enc_eq (x : Fd) : x.enc = [dI x.v, .v (.int .u32 x.c), .sl (x.row.map ienc), dI x.s] := rfl
structure Tr where
 v : Int
 at_ : Int
 own : List Fd
 s : Int
abbrev Tr.a (x : Tr) : A := .ag [dI x.v, dI x.at_, .sl (x.own.map Fd.enc), dI x.s]
theorem fds_len {l : List Fd} : ∀ c ∈ l.map Fd.enc, c.length = 4 := fun c hc => by
 obtain ⟨x, _, rfl⟩ := List.mem_map.1 hc; rfl
section
variable {H : Type} {enc : TypeId × Value → H} {w : World} {base : Nat} {held : Bool}
theorem rd_fds {fuel : Nat} {v : Value} {y : DataW H × List MemPlace} (h : DataW.trod enc Tryz.prog w base (fun _ => true) held fuel 23 [v] = some y) : ∃ l : List Fd, Rd (fun _ => True) w v (.sl (l.map Fd.enc)) := by
 rcases Go.Deep.open_slice Tryz.underlying23 h with ⟨hcs, _⟩ | ⟨a, len, cap, m, n, D0, Pl, hcs, hb, hlc, hcm, hm, _, hel⟩
 ·cases hcs; exact ⟨[], .nil⟩
 ·cases hcs
  simp only [if_true] at hm
  subst hm
  have c4 : Tryz.prog.cellsOf 37 = 4 := by kernel_rfl
  rw [c4] at hel
  have hev : ∀ i, i < m → ∃ p : Fd × Value, w.cells? base (a.add (i * 4)) 4 = some [.int .i64 p.1.v, .int .u32 p.1.c, p.2, .int .i64 p.1.s] ∧ Rd (fun _ => True) w p.2 (.sl (p.1.row.map ienc)) := fun i hi => by
   obtain ⟨cs', h1, h2⟩ := hel i hi
   obtain ⟨x, s, rfl, hr⟩ := fd_cells h2
   exact ⟨(x, s), h1, hr⟩
  have hevs : ∃ f : Nat → Fd × Value, ∀ i, i < m → w.cells? base (a.add (i * 4)) 4 = some [.int .i64 (f i).1.v, .int .u32 (f i).1.c, (f i).2, .int .i64 (f i).1.s] ∧ Rd (fun _ => True) w (f i).2 (.sl ((f i).1.row.map ienc)) :=
   ⟨fun i => if hi : i < m then (hev i hi).choose else (⟨0, 0, [], 0⟩, undef), fun i hi => by simp only [hi, dite_true]; exact (hev i hi).choose_spec⟩
  obtain ⟨f, hf⟩ := hevs
  have hcell : ∀ i, i < m → ∀ j, j < 4 → w.cell? ((a.add (i * 4)).add j) = [Value.int .i64 (f i).1.v, .int .u32 (f i).1.c, (f i).2, .int .i64 (f i).1.s][j]? := fun i hi j hj => by
   obtain ⟨_, _, h3⟩ := World.cells?_some (hf i hi).1
   exact h3 j hj
  by_cases hm0 : m = 0
  ·subst hm0
   obtain rfl : len = 0 := by omega
   exact ⟨[], .nil⟩
  ·have h00 := hcell 0 (by omega) 0 (by omega)
   obtain ⟨b, off, spot⟩ := a
   simp only [Nat.zero_mul, Addr.add, if_true, World.cell?] at h00
   split at h00
   ·rename_i arr e fr hblk
    cases spot with
    | some s => simp at h00
    | none =>
     have harr : ∀ i, i < m → ∀ j, j < 4 → arr[off + i * 4 + j]? = [Value.int .i64 (f i).1.v, .int .u32 (f i).1.c, (f i).2, .int .i64 (f i).1.s][j]? := fun i hi j hj => by
      have := hcell i hi j hj
      rw [add_at, add_at] at this
      simpa [World.cell?, hblk] using this
     refine ⟨(List.range len).map fun i => (f i).1, .sl (b := b) (off := off) (arr := arr) (e := e) (fr := fr) (sz := 4) (vs := fun i j => [Value.int .i64 (f i).1.v, .int .u32 (f i).1.c, (f i).2, .int .i64 (f i).1.s].getD j undef) trivial hblk (by simp) hlc hcm fds_len (fun i hi j hj => ?_) (fun i x j d hx hd => ?_)⟩
     ·simp only [List.length_map, List.length_range] at hi
      rw [harr i (by omega) j hj]
      match j, hj with
      | 0, _ => rfl
      | 1, _ => rfl
      | 2, _ => rfl
      | 3, _ => rfl
     ·simp only [List.getElem?_map, Option.map_eq_some_iff] at hx
      obtain ⟨e', ⟨i', hi', rfl⟩, rfl⟩ := hx
      obtain ⟨h1, h2⟩ := List.getElem?_eq_some_iff.1 hi'
      have : i' = i := by simpa using h2.symm
      subst this
      have hil : i' < m := by simp at h1; omega
      match j with
      | 0 => cases hd; exact .v rfl
      | 1 => cases hd; exact .v rfl
      | 2 => cases hd; exact (hf i' hil).2
      | 3 => cases hd; exact .v rfl
      | j + 4 => simp [Fd.enc] at hd
   ·cases h00
def trV (x : Tr) (s : Value) : Value := .agg #[.int .i64 x.v, .int .i64 x.at_, s, .int .i64 x.s]
theorem relA_tr {st : Nat → Prop} {x : Tr} {s : Value} (h : Rd st w s (.sl (x.own.map Fd.enc))) : RelA st w (trV x s) x.a :=
 ⟨[.int .i64 x.v, .int .i64 x.at_, s, .int .i64 x.s], rfl, F2.cons (.v rfl) (F2.cons (.v rfl) (F2.cons h (F2.cons (.v rfl) F2.nil)))⟩
theorem tr_cells {fuel : Nat} {cs : List Value} {y : DataW H × List MemPlace} (h : DataW.trod enc Tryz.prog w base (fun _ => true) held fuel 25 cs = some y) : ∃ (x : Tr) (s : Value), cs = [.int .i64 x.v, .int .i64 x.at_, s, .int .i64 x.s] ∧ Rd (fun _ => True) w s (.sl (x.own.map Fd.enc)) := by
 obtain ⟨xs, n, _, rfl, hl, hlen, hf⟩ := DataW.trod_struct Tryz.underlying25 h
 have h4 : cs.length = 4 := by rw [hl]; kernel_rfl
 have c3 : Tryz.prog.cellsOf 3 = 1 := by kernel_rfl
 have c30 : Tryz.prog.cellsOf 23 = 1 := by kernel_rfl
 match cs, h4, xs, hlen with
 | [a, b, c, d], _, [x0, x1, x2, x3], _ =>
  have g := fun i f hi => hf i f hi
  obtain ⟨n0, e0⟩ := int_cell Tryz.underlying3 (by simpa [c3] using g 0 _ rfl)
  obtain ⟨n1, e1⟩ := int_cell Tryz.underlying3 (by simpa [c3] using g 1 _ rfl)
  obtain ⟨l, hr⟩ := rd_fds (v := c) (by simpa [c30] using g 2 _ rfl)
  obtain ⟨n3, e3⟩ := int_cell Tryz.underlying3 (by simpa [c3] using g 3 _ rfl)
  exact ⟨⟨n0, n1, l, n3⟩, c, by rw [e0, e1, e3], hr⟩
theorem open_tr {r : Reach} {base' : Nat} {v : Value} {d : DataW H} {p : List MemPlace} (hv : Value.okWide Tryz.prog w r base' 25 v) (h : DataW.Trod enc Tryz.prog w base (fun _ => true) held 25 v d p) : ∃ (x : Tr) (s : Value), Rd (fun _ => True) w s (.sl (x.own.map Fd.enc)) ∧ v = trV x s := by
 unfold Value.okWide at hv
 rw [Tryz.underlying25] at hv
 obtain ⟨cs, rfl, _⟩ := hv
 obtain ⟨fuel, hf⟩ := h
 obtain ⟨x, s, he, hr⟩ := tr_cells hf
 refine ⟨x, s, hr, ?_⟩
 have : cs.toList = [.int .i64 x.v, .int .i64 x.at_, s, .int .i64 x.s] := he
 unfold trV
 congr 1
 exact Array.toList_inj.1 this
end
end Go.VC
end
section
set_option maxRecDepth 100000
namespace Go.VC
open Go.RowKit Go.Proofs Go.IntWalk
abbrev fdsA (l : List Fd) : A := .d (.sl (l.map Fd.enc))
def eqFs : List Fd → List Fd → Bool
 | [], [] => true
 | x :: xs, y :: ys => sameFd x y && eqFs xs ys
 | _, _ => false
theorem eqFs_len : ∀ {l l' : List Fd}, l.length ≠ l'.length → eqFs l l' = false
 | [], [], h => absurd rfl h
 | x :: xs, y :: ys, h => by rw [eqFs, eqFs_len (fun e => h (by simp [e])), Bool.and_false]
 | [], _ :: _, _ => rfl
 | _ :: _, [], _ => rfl
theorem eqFs_refl : ∀ l : List Fd, eqFs l l = true
 | [] => rfl
 | x :: xs => by rw [eqFs, sameFd_refl, eqFs_refl xs]; rfl
theorem t2097 (l l' : List Fd) (hl : l.length ≤ 1000) : Holds Tryz.prog GL 26 [fdsA l, fdsA l', .d (.fn 27 [])] [.a (B (eqFs l l'))] := by
 refine fn_holds (vs := [.tmp 6]) (by kernel_rfl) Tryz.func26 rfl rfl (by kernel_rfl) (by kernel_rfl) rfl ?_
 by_cases hlen : l.length = l'.length
 ·have hlI : ((l.length : Int) = (l'.length : Int)) = True := eq_true (by omega)
  (refine rO ?_; repeat' ((with_reducible first | refine rG ?_ | (refine rS ?_ ?_ <;> intro hp) | (refine rB ?_ ?_ <;> intro hb <;> try rw [hb]) | refine rD ?_ | refine rA ?_ | fail) <;> try simp only [go_sem, simprocAttr, List.length_map, hlI]))
  refine awp_loopA (fun k : Nat => [(1, .a (fdsA l')), (2, .a (.d (.fn 27 []))), (15, .a (fdsA l)), (16, .a (I l.length)), (17, .a (I k))]) (fun _ => []) (fun k => k ≤ l.length ∧ eqFs l l' = eqFs (l.drop k) (l'.drop k)) (l.length - ·) 0 ?_ ?_ ⟨Nat.zero_le _, rfl⟩ ?_
  ·simp only [go_sem, simprocAttr, List.length_map]
  ·simp only [go_sem, simprocAttr]
  intro k j ⟨hk, he⟩
  by_cases hkl : k < l.length
  ·have hkI : ((k : Int) < (l.length : Int)) = True := eq_true (by omega)
   have hw := wrap_succ (n := l.length) hkl (by simp only [maxLen]; omega)
   have hkl' : k < l'.length := by omega
   have hx : l[k]? = some l[k] := List.getElem?_eq_getElem hkl
   have hy : l'[k]? = some l'[k] := List.getElem?_eq_getElem hkl'
   rw [List.drop_eq_getElem_cons hkl, List.drop_eq_getElem_cons hkl', eqFs] at he
   generalize l[k] = x at hx he
   generalize l'[k] = y at hy he
   have hs := t1062 x y
   cases hxy : sameFd x y with
   | true =>
    rw [hxy] at hs he
    rw [Bool.true_and] at he
    (refine rO ?_; repeat' ((with_reducible first | refine rG ?_ | (refine rS ?_ ?_ <;> intro hp) | (refine rB ?_ ?_ <;> intro hb <;> try rw [hb]) | refine rD ?_ | refine rA ?_ | fail) <;> try simp only [go_sem, simprocAttr, hkI, hx, hy, Fd.enc_eq, hw]))
    refine call_dat hs ?_
    (refine rO ?_; repeat' ((with_reducible first | refine rG ?_ | (refine rS ?_ ?_ <;> intro hp) | (refine rB ?_ ?_ <;> intro hb <;> try rw [hb]) | refine rD ?_ | refine rA ?_ | fail) <;> try simp only [go_sem, simprocAttr, hw]))
    (refine ⟨k + 1, ?_, ?_, ⟨hkl, he⟩, by dsimp only; omega⟩ <;> simp only [go_sem, simprocAttr, hw])
   | false =>
    rw [hxy] at hs he
    rw [Bool.false_and] at he
    rw [he]
    (refine rO ?_; repeat' ((with_reducible first | refine rG ?_ | (refine rS ?_ ?_ <;> intro hp) | (refine rB ?_ ?_ <;> intro hb <;> try rw [hb]) | refine rD ?_ | refine rA ?_ | fail) <;> try simp only [go_sem, simprocAttr, hkI, hx, hy, Fd.enc_eq, hw]))
    refine call_dat hs ?_
    (refine rO ?_; repeat' ((with_reducible first | refine rG ?_ | (refine rS ?_ ?_ <;> intro hp) | (refine rB ?_ ?_ <;> intro hb <;> try rw [hb]) | refine rD ?_ | refine rA ?_ | fail) <;> try simp only [go_sem, simprocAttr, hw]))
  ·have hkI : ((k : Int) < (l.length : Int)) = False := eq_false (by omega)
   rw [List.drop_eq_nil_of_le (by omega), List.drop_eq_nil_of_le (by omega)] at he
   rw [he]
   (refine rO ?_; repeat' ((with_reducible first | refine rG ?_ | (refine rS ?_ ?_ <;> intro hp) | (refine rB ?_ ?_ <;> intro hb <;> try rw [hb]) | refine rD ?_ | refine rA ?_ | fail) <;> try simp only [go_sem, simprocAttr, hkI]))
   rfl
 ·have hlI : ((l.length : Int) = (l'.length : Int)) = False := eq_false (by omega)
  rw [eqFs_len hlen]
  (refine rO ?_; repeat' ((with_reducible first | refine rG ?_ | (refine rS ?_ ?_ <;> intro hp) | (refine rB ?_ ?_ <;> intro hb <;> try rw [hb]) | refine rD ?_ | refine rA ?_ | fail) <;> try simp only [go_sem, simprocAttr, List.length_map, hlI]))
def sameTr (a b : Tr) : Bool := a.v == b.v && (a.at_ == b.at_ && (eqFs a.own b.own && a.s == b.s))
theorem sameTr_refl (a : Tr) : sameTr a a = true := by simp [sameTr, eqFs_refl]
theorem t2021 (a b : Tr) (hl : a.own.length ≤ 1000) : Holds Tryz.prog GL 7 [a.a, b.a] [.a (B (sameTr a b))] := by
 refine fn_holds (vs := [.tmp 4]) (by kernel_rfl) Tryz.func7 rfl rfl (by kernel_rfl) (by kernel_rfl) rfl ?_
 have h := t2097 a.own b.own hl
 unfold sameTr
 obtain ⟨av, aa, ao, as_⟩ := a
 obtain ⟨bv, ba, bo, bs⟩ := b
 simp only at h ⊢
 generalize eqFs ao bo = e at h
 (refine rO ?_; repeat' ((with_reducible first | refine rG ?_ | (refine rS ?_ ?_ <;> intro hp) | (refine rB ?_ ?_ <;> intro hb <;> try rw [hb]) | refine rD ?_ | refine rA ?_ | fail) <;> try simp only [go_sem, simprocAttr]))
 ·refine call_dat h ?_
  (refine rO ?_; repeat' ((with_reducible first | refine rG ?_ | (refine rS ?_ ?_ <;> intro hp) | (refine rB ?_ ?_ <;> intro hb <;> try rw [hb]) | refine rD ?_ | refine rA ?_ | fail) <;> try simp only [go_sem, simprocAttr]))
  all_goals simp_all
 all_goals simp_all
theorem t2022 (a b : Tr) (hl : a.own.length ≤ 1000) : Holds Tryz.prog GL 8 [a.a, b.a] [.a (B (sameTr a b))] := by
 refine fn_holds (vs := [.tmp 4]) (by kernel_rfl) Tryz.func8 rfl rfl (by kernel_rfl) (by kernel_rfl) rfl ?_
 obtain ⟨av, aa, l, as_⟩ := a
 obtain ⟨bv, ba, l', bs⟩ := b
 simp only at hl
 have e : sameTr ⟨av, aa, l, as_⟩ ⟨bv, ba, l', bs⟩ = (av == bv && (aa == ba && (eqFs l l' && as_ == bs))) := rfl
 by_cases h1 : av = bv
 ·by_cases h2 : aa = ba
  ·by_cases h3 : as_ = bs
   ·by_cases h4 : l.length = l'.length
    ·have e2 : sameTr ⟨av, aa, l, as_⟩ ⟨bv, ba, l', bs⟩ = eqFs l l' := by rw [e]; simp [h1, h2, h3]
     rw [e2]
     have i1 : (av = bv) = True := eq_true h1
     have i2 : (aa = ba) = True := eq_true h2
     have i3 : (as_ = bs) = True := eq_true h3
     have i4 : ((l.length : Int) = (l'.length : Int)) = True := eq_true (by omega)
     (refine rO ?_; repeat' ((with_reducible first | refine rG ?_ | (refine rS ?_ ?_ <;> intro hp) | (refine rB ?_ ?_ <;> intro hb <;> try rw [hb]) | refine rD ?_ | refine rA ?_ | fail) <;> try simp only [go_sem, simprocAttr, List.length_map, i1, i2, i3, i4]))
     refine awp_loopA (fun k : Nat => [(2, .ref 2 0), (3, .ref 3 0), (36, .a (I l.length)), (37, .a (I k))]) (fun _ => [(2, .box [.a (I av), .a (I aa), .a (fdsA l), .a (I as_)]), (3, .box [.a (I bv), .a (I ba), .a (fdsA l'), .a (I bs)])]) (fun k => k ≤ l.length ∧ eqFs l l' = eqFs (l.drop k) (l'.drop k)) (l.length - ·) 0 ?_ ?_ ⟨Nat.zero_le _, rfl⟩ ?_
     ·simp only [go_sem, simprocAttr, List.length_map]
     ·simp only [go_sem, simprocAttr]
     intro k j ⟨hk, he⟩
     by_cases hkl : k < l.length
     ·have hkI : ((k : Int) < (l.length : Int)) = True := eq_true (by omega)
      have hw := wrap_succ (n := l.length) hkl (by simp only [maxLen]; omega)
      have hkl' : k < l'.length := by omega
      have hx : l[k]? = some l[k] := List.getElem?_eq_getElem hkl
      have hy : l'[k]? = some l'[k] := List.getElem?_eq_getElem hkl'
      rw [List.drop_eq_getElem_cons hkl, List.drop_eq_getElem_cons hkl', eqFs] at he
      generalize l[k] = x at hx he
      generalize l'[k] = y at hy he
      have hs := t1034 x y
      cases hxy : sameFd x y with
      | true =>
       rw [hxy] at hs he
       rw [Bool.true_and] at he
       (refine rO ?_; repeat' ((with_reducible first | refine rG ?_ | (refine rS ?_ ?_ <;> intro hp) | (refine rB ?_ ?_ <;> intro hb <;> try rw [hb]) | refine rD ?_ | refine rA ?_ | fail) <;> try simp only [go_sem, simprocAttr, hkI, hx, hy, Fd.enc_eq, hw]))
       refine callQ_dat (res := [_]) hs ?_
       (refine rO ?_; repeat' ((with_reducible first | refine rG ?_ | (refine rS ?_ ?_ <;> intro hp) | (refine rB ?_ ?_ <;> intro hb <;> try rw [hb]) | refine rD ?_ | refine rA ?_ | fail) <;> try simp only [go_sem, simprocAttr, hw]))
       (refine ⟨k + 1, ?_, ?_, ⟨hkl, he⟩, by dsimp only; omega⟩ <;> simp only [go_sem, simprocAttr, hw])
      | false =>
       rw [hxy] at hs he
       rw [Bool.false_and] at he
       rw [he]
       (refine rO ?_; repeat' ((with_reducible first | refine rG ?_ | (refine rS ?_ ?_ <;> intro hp) | (refine rB ?_ ?_ <;> intro hb <;> try rw [hb]) | refine rD ?_ | refine rA ?_ | fail) <;> try simp only [go_sem, simprocAttr, hkI, hx, hy, Fd.enc_eq, hw]))
       refine callQ_dat (res := [_]) hs ?_
       (refine rO ?_; repeat' ((with_reducible first | refine rG ?_ | (refine rS ?_ ?_ <;> intro hp) | (refine rB ?_ ?_ <;> intro hb <;> try rw [hb]) | refine rD ?_ | refine rA ?_ | fail) <;> try simp only [go_sem, simprocAttr, hw]))
     ·have hkI : ((k : Int) < (l.length : Int)) = False := eq_false (by omega)
      rw [List.drop_eq_nil_of_le (by omega), List.drop_eq_nil_of_le (by omega)] at he
      rw [he]
      (refine rO ?_; repeat' ((with_reducible first | refine rG ?_ | (refine rS ?_ ?_ <;> intro hp) | (refine rB ?_ ?_ <;> intro hb <;> try rw [hb]) | refine rD ?_ | refine rA ?_ | fail) <;> try simp only [go_sem, simprocAttr, hkI]))
      rfl
    ·have e2 : sameTr ⟨av, aa, l, as_⟩ ⟨bv, ba, l', bs⟩ = false := by rw [e, eqFs_len h4]; simp
     rw [e2]
     have i1 : (av = bv) = True := eq_true h1
     have i2 : (aa = ba) = True := eq_true h2
     have i3 : (as_ = bs) = True := eq_true h3
     have i4 : ((l.length : Int) = (l'.length : Int)) = False := eq_false (by omega)
     (refine rO ?_; repeat' ((with_reducible first | refine rG ?_ | (refine rS ?_ ?_ <;> intro hp) | (refine rB ?_ ?_ <;> intro hb <;> try rw [hb]) | refine rD ?_ | refine rA ?_ | fail) <;> try simp only [go_sem, simprocAttr, List.length_map, i1, i2, i3, i4]))
   ·have e2 : sameTr ⟨av, aa, l, as_⟩ ⟨bv, ba, l', bs⟩ = false := by rw [e]; simp [h3]
    rw [e2]
    have i1 : (av = bv) = True := eq_true h1
    have i2 : (aa = ba) = True := eq_true h2
    have i3 : (as_ = bs) = False := eq_false h3
    (refine rO ?_; repeat' ((with_reducible first | refine rG ?_ | (refine rS ?_ ?_ <;> intro hp) | (refine rB ?_ ?_ <;> intro hb <;> try rw [hb]) | refine rD ?_ | refine rA ?_ | fail) <;> try simp only [go_sem, simprocAttr, List.length_map, i1, i2, i3]))
  ·have e2 : sameTr ⟨av, aa, l, as_⟩ ⟨bv, ba, l', bs⟩ = false := by rw [e]; simp [h2]
   rw [e2]
   have i1 : (av = bv) = True := eq_true h1
   have i2 : (aa = ba) = False := eq_false h2
   (refine rO ?_; repeat' ((with_reducible first | refine rG ?_ | (refine rS ?_ ?_ <;> intro hp) | (refine rB ?_ ?_ <;> intro hb <;> try rw [hb]) | refine rD ?_ | refine rA ?_ | fail) <;> try simp only [go_sem, simprocAttr, List.length_map, i1, i2]))
 ·have e2 : sameTr ⟨av, aa, l, as_⟩ ⟨bv, ba, l', bs⟩ = false := by rw [e]; simp [h1]
  rw [e2]
  have i1 : (av = bv) = False := eq_false h1
  (refine rO ?_; repeat' ((with_reducible first | refine rG ?_ | (refine rS ?_ ?_ <;> intro hp) | (refine rB ?_ ?_ <;> intro hb <;> try rw [hb]) | refine rD ?_ | refine rA ?_ | fail) <;> try simp only [go_sem, simprocAttr, List.length_map, i1]))
end Go.VC
end
section
set_option maxRecDepth 100000
namespace Go.VC
open Go.RowKit Go.Proofs Go.IntWalk
def chkF (ans : Nat → Fd) (len : Nat) : Nat → Nat → List Fd → Int → Tr
 | 0, _, own, s => ⟨0, len, own, s⟩
 | f + 1, k, own, s => if (ans k).v = 0 then chkF ans len f (k + 1) (own ++ [ans k]) (s + (ans k).s) else ⟨(ans k).v, (k + 1 : Nat), own, s + (ans k).s⟩
def chkT (h : List Ev) (N : Nat) : Tr := chkF (fun k => ansF h k N) h.length h.length 0 [] 0
theorem scanR_pos {N : Nat} {good : List Int → Bool} {set : Nat} : ∀ (rs : List (List Int)) (s : Nat), ∀ x, scanR N good set rs s = .inr x → 0 ≤ x.s
 | [], s => fun x e => by cases e
 | r :: rs, s => fun x e => by
  unfold scanR at e
  split at e
  ·cases e; simp
  ·split at e
   ·cases e; simp only; omega
   ·exact scanR_pos rs (s + 1) x e
theorem scanS_pos {N : Nat} {fits : Nat → Bool} {rows : Nat → List (List Int)} {good : Nat → List Int → Bool} : ∀ (l : List Nat) (s : Nat), 0 ≤ (scanS N fits rows good l s).s
 | [], s => by simp [scanS]
 | x :: l, s => by
  unfold scanS
  split
  ·cases hr : scanR N (good x) x (rows x) s with
   | inl s' => exact scanS_pos l s'
   | inr y => exact scanR_pos _ _ y hr
  ·exact scanS_pos l s
theorem ansF_s (h : List Ev) (k N : Nat) : 0 ≤ (ansF h k N).s ∧ (ansF h k N).s ≤ N := by
 unfold ansF ansP
 split
 ·exact ⟨scanS_pos _ _, (scanS_bud _ 0 (Nat.zero_le _)).1⟩
 ·exact ⟨Int.le_refl _, by simp⟩
def stopA (h : List Ev) (N k : Nat) : Prop := k = h.length ∨ (ansF h k N).v ≠ 0
def CellT (h : List Ev) (N k : Nat) (own : List Fd) (r : R) (m : Option Ob) : Prop := (stopA h N k ∧ r = .a (fdsA own)) ∨ (¬ stopA h N k ∧ ((r = .cs [] ∧ own = []) ∨ (r = .own 41 ∧ m = some (.log 37 4 (own.map Fd.enc)))))
theorem t2025 (h : List Ev) (N : Nat) (hE : checkE h = 0) (hN : N ≤ 1000000) : Holds Tryz.prog GL 11 [evsA h, I N] [.a (chkT h N).a] := by
 refine fn_holds (vs := [.cell 4 25]) (by kernel_rfl) Tryz.func11 rfl rfl (by kernel_rfl) (by kernel_rfl) rfl ?_
 have h60 := check60 hE
 have hT : chkT h N = chkF (fun k => ansF h k N) h.length h.length 0 [] 0 := rfl
 generalize chkT h N = tr at hT
 (refine rO ?_; repeat' ((with_reducible first | refine rG ?_ | (refine rS ?_ ?_ <;> intro hp) | (refine rB ?_ ?_ <;> intro hb <;> try rw [hb]) | refine rD ?_ | refine rA ?_ | fail) <;> try simp only [go_sem, simprocAttr, List.length_map]))
 by_cases hst : stopA h N 0
 case' pos =>
  refine SemOp.old ?_
  (refine rO ?_; repeat' ((with_reducible first | refine rG ?_ | (refine rS ?_ ?_ <;> intro hp) | (refine rB ?_ ?_ <;> intro hb <;> try rw [hb]) | refine rD ?_ | refine rA ?_ | fail) <;> try simp only [go_sem, simprocAttr, y_build0, List.length_map]))
 case' neg =>
  refine sem_build (ti := ⟨4, 48, true, [.int .i64 0, .int .i64 0, .slice none 0 0, .int .i64 0]⟩) (offs := [(0, 1, false), (1, 1, false), (2, 1, false), (3, 1, false)]) (l := [(1, .tmp 9)]) (ps := [(1, [.a (I h.length)])]) (rs := [.a (I 0), .a (I h.length), .cs [], .a (I 0)]) (by kernel_rfl) (by kernel_rfl) rfl rfl (by simp only [partsR, go_sem, simprocAttr]) rfl ?_
  (refine rO ?_; repeat' ((with_reducible first | refine rG ?_ | (refine rS ?_ ?_ <;> intro hp) | (refine rB ?_ ?_ <;> intro hb <;> try rw [hb]) | refine rD ?_ | refine rA ?_ | fail) <;> try simp only [go_sem, simprocAttr, List.length_map]))
 all_goals
  refine awp_loopG (fun (x : Nat × List Fd × Int) σ => (x.1 ≤ h.length ∧ x.2.1.length = x.1 ∧ 0 ≤ x.2.2 ∧ x.2.2 ≤ x.1 * 1000000 ∧ tr = chkF (fun k => ansF h k N) h.length (h.length - x.1) x.1 x.2.1 x.2.2) ∧ σ.regs 0 = .a (evsA h) ∧ σ.regs 1 = .a (I N) ∧ σ.regs 4 = .ref 4 0 ∧ σ.regs 5 = .ref 5 0 ∧ σ.regs 12 = .a (I h.length) ∧ σ.regs 13 = .a (I x.1) ∧ σ.mem 4 = some (.box [.a (I 0), .a (I 0), .a (.d (.sl [])), .a (I 0)]) ∧ ∃ r, σ.mem 5 = some (.box [.a (I 0), .a (I h.length), r, .a (I x.2.2)]) ∧ CellT h N x.1 x.2.1 r (σ.mem 41)) (fun x => h.length - x.1) (0, [], 0) ⟨_, Ghost.refl _, ⟨Nat.zero_le _, rfl, Int.le_refl _, by simp, hT⟩, ?_, ?_, ?_, ?_, ?_, ?_, ?_, ?_⟩ ?_
  iterate 7 (· simp only [go_sem, simprocAttr, List.length_map])
  ·first
    | exact ⟨.a (fdsA []), by simp only [go_sem, simprocAttr, List.length_map]; rfl, .inl ⟨hst, rfl⟩⟩
    | exact ⟨.cs [], by simp only [go_sem, simprocAttr, List.length_map], .inr ⟨hst, .inl ⟨rfl, rfl⟩⟩⟩
  rintro ⟨k, own, s⟩ τ ⟨⟨hk, hol, hs0, hs1, ht⟩, r0, r1, r4, r5, r12, r13, m4, r, m5, hr⟩
  dsimp only at hk hol hs0 hs1 ht r13 m5 hr
  by_cases hkl : k < h.length
  ·have hkI : ((k : Int) < (h.length : Int)) = True := eq_true (by omega)
   have hw := wrap_succ (n := h.length) hkl (by simp only [maxLen]; omega)
   obtain ⟨t, P⟩ := part_is hE hkl
   have hE1 := check_take hE (show k + 1 ≤ h.length by omega)
   have hev : h.getD k ⟨0, 0, 0, 0⟩ = h[k] := by rw [List.getD_eq_getElem?_getD, List.getElem?_eq_getElem hkl]; rfl
   have hpart := t1036 h k t hkl hE (by rw [← hev]; exact P.idx)
   have hans := t1035 (txns (h.take (k + 1))) (txns (h.take k)) t h[k].kind N (txns_len6 _) (txns_len6 _) (stT _) P.lt (txns_ops hE1) (by omega)
   have eF : ansF h k N = ansP (txns (h.take (k + 1))) (txns (h.take k)) t h[k].kind N := by
    rw [ansF, P.idx, Int.toNat_natCast, hev]
   rw [← eF] at hans
   obtain ⟨a0, a1⟩ := ansF_s h k N
   rw [show h.length - k = (h.length - (k + 1)) + 1 by omega, chkF] at ht
   have hstk : stopA h N k ↔ (ansF h k N).v ≠ 0 := ⟨fun h => h.elim (fun e => by omega) id, .inr⟩
   unfold CellT at hr
   rw [hstk] at hr
   generalize ansF h k N = an at *
   have hwr : IntKind.i64.wrap (s + an.s) = s + an.s := i64_in _ (by
    have : (k : Int) ≤ 60 := by omega
    constructor <;> omega)
   have hk1 : s + an.s ≤ ((k + 1 : Nat) : Int) * 1000000 := by omega
   (refine rO ?_; repeat' ((with_reducible first | refine rG ?_ | (refine rS ?_ ?_ <;> intro hp) | (refine rB ?_ ?_ <;> intro hb <;> try rw [hb]) | refine rD ?_ | refine rA ?_ | fail) <;> try simp only [go_sem, simprocAttr, r0, r1, r4, r5, r12, r13, m4, m5, hkI]))
   refine call_dat hpart ?_
   (refine rO ?_; repeat' ((with_reducible first | refine rG ?_ | (refine rS ?_ ?_ <;> intro hp) | (refine rB ?_ ?_ <;> intro hb <;> try rw [hb]) | refine rD ?_ | refine rA ?_ | fail) <;> try simp only [go_sem, simprocAttr, r0, r1, r4, r5, r12, r13, m4, m5, hkI]))
   refine call_dat hans ?_
   by_cases hv : an.v = 0
   ·have hvI : (an.v = 0) = True := eq_true hv
    rw [if_pos hv] at ht
    rcases hr with ⟨hx, _⟩ | ⟨_, ⟨rfl, rfl⟩ | ⟨rfl, m41⟩⟩
    ·exact absurd hv hx
    ·(refine rO ?_; repeat' ((with_reducible first | refine rG ?_ | (refine rS ?_ ?_ <;> intro hp) | (refine rB ?_ ?_ <;> intro hb <;> try rw [hb]) | refine rD ?_ | refine rA ?_ | fail) <;> try simp only [go_sem, simprocAttr, r0, r1, r4, r5, r12, r13, m4, m5, hwr, hvI, hw]))
     have hol2 : ([] ++ [an]).length = k + 1 := by rw [List.length_append, hol]; rfl
     have hs2' : 0 ≤ s + an.s := by omega
     by_cases hs2 : stopA h N (k + 1)
     ·refine ⟨_, (k + 1, [] ++ [an], s + an.s), g_frz (t := 41) (o := 41) (e := 37) (z := 4) (xs := ([] ++ [an]).map Fd.enc) ?_ ?_ (by omega), ⟨⟨hkl, hol2, hs2', hk1, ht⟩, ?_, ?_, ?_, ?_, ?_, ?_, ?_, .a (fdsA ([] ++ [an])), ?_, .inl ⟨hs2, rfl⟩⟩, by show h.length - (k + 1) < h.length - k; omega⟩
      ·simp only [go_sem, simprocAttr]
      ·simp only [go_sem, simprocAttr, List.map_append, List.map_cons, List.map_nil, Fd.enc_eq, List.nil_append]
      iterate 7 (· simp only [go_sem, simprocAttr, r0, r1, r4, r5, r12, r13, m4, hw])
      ·simp only [go_sem, simprocAttr, r0, r1, r4, r5, r12, r13, m4, hw, List.map_append, List.map_cons, List.map_nil, Fd.enc_eq, List.nil_append]; first | rfl | (rw [show fdsA (own ++ [an]) = .d (.sl (own.map Fd.enc ++ [an.enc])) by rw [fdsA, List.map_append]; rfl]; rfl)
     ·refine ⟨_, (k + 1, [] ++ [an], s + an.s), Ghost.refl _, ⟨⟨hkl, hol2, hs2', hk1, ht⟩, ?_, ?_, ?_, ?_, ?_, ?_, ?_, .own 41, ?_, .inr ⟨hs2, .inr ⟨rfl, ?_⟩⟩⟩, by show h.length - (k + 1) < h.length - k; omega⟩
      iterate 7 (· simp only [go_sem, simprocAttr, r0, r1, r4, r5, r12, r13, m4, hw])
      ·simp only [go_sem, simprocAttr]; try rfl
      ·simp only [go_sem, simprocAttr, List.map_append, List.map_cons, List.map_nil, Fd.enc_eq, List.nil_append]
    ·(refine rO ?_; repeat' ((with_reducible first | refine rG ?_ | (refine rS ?_ ?_ <;> intro hp) | (refine rB ?_ ?_ <;> intro hb <;> try rw [hb]) | refine rD ?_ | refine rA ?_ | fail) <;> try simp only [go_sem, simprocAttr, r0, r1, r4, r5, r12, r13, m4, m5, m41, hwr, hvI, hw, List.length_map]))
     have hol2 : (own ++ [an]).length = k + 1 := by rw [List.length_append, hol]; rfl
     have hs2' : 0 ≤ s + an.s := by omega
     by_cases hs2 : stopA h N (k + 1)
     ·refine ⟨_, (k + 1, own ++ [an], s + an.s), g_frz (t := 41) (o := 41) (e := 37) (z := 4) (xs := (own ++ [an]).map Fd.enc) ?_ ?_ (by omega), ⟨⟨hkl, hol2, hs2', hk1, ht⟩, ?_, ?_, ?_, ?_, ?_, ?_, ?_, .a (fdsA (own ++ [an])), ?_, .inl ⟨hs2, rfl⟩⟩, by show h.length - (k + 1) < h.length - k; omega⟩
      ·simp only [go_sem, simprocAttr]
      ·simp only [go_sem, simprocAttr, List.map_append, List.map_cons, List.map_nil, Fd.enc_eq, List.nil_append]
      iterate 7 (· simp only [go_sem, simprocAttr, r0, r1, r4, r5, r12, r13, m4, hw])
      ·simp only [go_sem, simprocAttr, r0, r1, r4, r5, r12, r13, m4, hw, List.map_append, List.map_cons, List.map_nil, Fd.enc_eq, List.nil_append]; first | rfl | (rw [show fdsA (own ++ [an]) = .d (.sl (own.map Fd.enc ++ [an.enc])) by rw [fdsA, List.map_append]; rfl]; rfl)
     ·refine ⟨_, (k + 1, own ++ [an], s + an.s), Ghost.refl _, ⟨⟨hkl, hol2, hs2', hk1, ht⟩, ?_, ?_, ?_, ?_, ?_, ?_, ?_, .own 41, ?_, .inr ⟨hs2, .inr ⟨rfl, ?_⟩⟩⟩, by show h.length - (k + 1) < h.length - k; omega⟩
      iterate 7 (· simp only [go_sem, simprocAttr, r0, r1, r4, r5, r12, r13, m4, hw])
      ·simp only [go_sem, simprocAttr]; try rfl
      ·simp only [go_sem, simprocAttr, List.map_append, List.map_cons, List.map_nil, Fd.enc_eq, List.nil_append]
   ·have hvI : (an.v = 0) = False := eq_false hv
    rw [if_neg hv] at ht
    rw [ht]
    rcases hr with ⟨_, rfl⟩ | ⟨hx, _⟩
    ·(refine rO ?_; repeat' ((with_reducible first | refine rG ?_ | (refine rS ?_ ?_ <;> intro hp) | (refine rB ?_ ?_ <;> intro hb <;> try rw [hb]) | refine rD ?_ | refine rA ?_ | fail) <;> try simp only [go_sem, simprocAttr, r0, r1, r4, r5, r12, r13, m4, m5, hwr, hvI, hw]))
    ·exact absurd hv hx
  ·have hkI : ((k : Int) < (h.length : Int)) = False := eq_false (by omega)
   rw [show h.length - k = 0 by omega, chkF] at ht
   rw [ht]
   rcases hr with ⟨_, rfl⟩ | ⟨hx, _⟩
   ·(refine rO ?_; repeat' ((with_reducible first | refine rG ?_ | (refine rS ?_ ?_ <;> intro hp) | (refine rB ?_ ?_ <;> intro hb <;> try rw [hb]) | refine rD ?_ | refine rA ?_ | fail) <;> try simp only [go_sem, simprocAttr, r0, r1, r4, r5, r12, r13, m4, m5, hkI]))
   ·exact absurd (.inl (by omega)) hx
end Go.VC
end
section
set_option maxRecDepth 100000
namespace Go.VC
open Go.RowKit Go.Proofs Go.IntWalk
def CellV (h : List Ev) (N k : Nat) (own : List Fd) (r : R) (m : Option Ob) : Prop := (stopA h N k ∧ r = .a (fdsA own)) ∨ (¬ stopA h N k ∧ ((r = .cs [] ∧ own = []) ∨ (r = .own 53 ∧ m = some (.log 37 4 (own.map Fd.enc)))))
theorem t1078 (h : List Ev) (N : Nat) (hM : maySE h N = 0) : Holds Tryz.prog GL 6 [evsA h, I N] [.a (chkT h N).a, .a (I 0)] := by
 refine fn_holds (vs := [.cell 4 25, .tmp 5]) (by kernel_rfl) Tryz.func6 rfl rfl (by kernel_rfl) (by kernel_rfl) rfl ?_
 obtain ⟨hE, hn0, hn1⟩ := mayS_ok hM
 have hN : N ≤ 1000000 := by omega
 have hrow := t1056 h 0 0 N (by decide) (by decide)
 rw [rowE_0, hM] at hrow
 generalize rowF h 0 0 N = F at hrow
 have h60 := check60 hE
 have hT : chkT h N = chkF (fun k => ansF h k N) h.length h.length 0 [] 0 := rfl
 generalize chkT h N = tr at hT
 (refine rO ?_; repeat' ((with_reducible first | refine rG ?_ | (refine rS ?_ ?_ <;> intro hp) | (refine rB ?_ ?_ <;> intro hb <;> try rw [hb]) | refine rD ?_ | refine rA ?_ | fail) <;> try simp only [go_sem, simprocAttr, List.length_map]))
 refine call_dat hrow ?_
 (refine rO ?_; repeat' ((with_reducible first | refine rG ?_ | (refine rS ?_ ?_ <;> intro hp) | (refine rB ?_ ?_ <;> intro hb <;> try rw [hb]) | refine rD ?_ | refine rA ?_ | fail) <;> try simp only [go_sem, simprocAttr, List.length_map]))
 by_cases hst : stopA h N 0
 case' pos =>
  refine SemOp.old ?_
  (refine rO ?_; repeat' ((with_reducible first | refine rG ?_ | (refine rS ?_ ?_ <;> intro hp) | (refine rB ?_ ?_ <;> intro hb <;> try rw [hb]) | refine rD ?_ | refine rA ?_ | fail) <;> try simp only [go_sem, simprocAttr, y_build0, List.length_map]))
 case' neg =>
  refine sem_build (ti := ⟨4, 48, true, [.int .i64 0, .int .i64 0, .slice none 0 0, .int .i64 0]⟩) (offs := [(0, 1, false), (1, 1, false), (2, 1, false), (3, 1, false)]) (l := [(1, .tmp 22)]) (ps := [(1, [.a (I h.length)])]) (rs := [.a (I 0), .a (I h.length), .cs [], .a (I 0)]) (by kernel_rfl) (by kernel_rfl) rfl rfl (by simp only [partsR, go_sem, simprocAttr]) rfl ?_
  (refine rO ?_; repeat' ((with_reducible first | refine rG ?_ | (refine rS ?_ ?_ <;> intro hp) | (refine rB ?_ ?_ <;> intro hb <;> try rw [hb]) | refine rD ?_ | refine rA ?_ | fail) <;> try simp only [go_sem, simprocAttr, List.length_map]))
 all_goals
  refine awp_loopG (fun (x : Nat × List Fd × Int) σ => (x.1 ≤ h.length ∧ x.2.1.length = x.1 ∧ 0 ≤ x.2.2 ∧ x.2.2 ≤ x.1 * 1000000 ∧ tr = chkF (fun k => ansF h k N) h.length (h.length - x.1) x.1 x.2.1 x.2.2) ∧ σ.regs 0 = .a (evsA h) ∧ σ.regs 1 = .a (I N) ∧ σ.regs 4 = .ref 4 0 ∧ σ.regs 8 = .ref 8 0 ∧ σ.regs 25 = .a (I h.length) ∧ σ.regs 26 = .a (I x.1) ∧ σ.mem 4 = some (.box [.a (I 0), .a (I 0), .a (.d (.sl [])), .a (I 0)]) ∧ ∃ r, σ.mem 8 = some (.box [.a (I 0), .a (I h.length), r, .a (I x.2.2)]) ∧ CellV h N x.1 x.2.1 r (σ.mem 53)) (fun x => h.length - x.1) (0, [], 0) ⟨_, Ghost.refl _, ⟨Nat.zero_le _, rfl, Int.le_refl _, by simp, hT⟩, ?_, ?_, ?_, ?_, ?_, ?_, ?_, ?_⟩ ?_
  iterate 7 (· simp only [go_sem, simprocAttr, List.length_map])
  ·first
    | exact ⟨.a (fdsA []), by simp only [go_sem, simprocAttr, List.length_map]; rfl, .inl ⟨hst, rfl⟩⟩
    | exact ⟨.cs [], by simp only [go_sem, simprocAttr, List.length_map], .inr ⟨hst, .inl ⟨rfl, rfl⟩⟩⟩
  rintro ⟨k, own, s⟩ τ ⟨⟨hk, hol, hs0, hs1, ht⟩, r0, r1, r4, r8, r25, r26, m4, r, m8, hr⟩
  dsimp only at hk hol hs0 hs1 ht r26 m8 hr
  by_cases hkl : k < h.length
  ·have hkI : ((k : Int) < (h.length : Int)) = True := eq_true (by omega)
   have hw := wrap_succ (n := h.length) hkl (by simp only [maxLen]; omega)
   obtain ⟨t, P⟩ := part_is hE hkl
   have hE1 := check_take hE (show k + 1 ≤ h.length by omega)
   have hev : h.getD k ⟨0, 0, 0, 0⟩ = h[k] := by rw [List.getD_eq_getElem?_getD, List.getElem?_eq_getElem hkl]; rfl
   have hpart := t1096 h k t hkl hE (by rw [← hev]; exact P.idx)
   have hT6 := txns_len6 (h.take (k + 1))
   have hbl : ∀ s, bitsN (isSt (txns (h.take k)) s) (txns (h.take k)).length < 2 ^ (txns (h.take (k + 1))).length := fun s => Nat.lt_of_lt_of_le (bitsN_lt _ _) (Nat.pow_le_pow_right (by omega) P.len)
   have hans := t1097 (h.take (k + 1)) (txns (h.take (k + 1))) t (bitsN (isSt (txns (h.take k)) 2) (txns (h.take k)).length) (bitsN (isSt (txns (h.take k)) 1) (txns (h.take k)).length) h[k] N hE1 rfl (by
    rw [List.length_take, List.getElem?_take]
    rw [show min (k + 1) h.length - 1 = k by omega, if_pos (by omega), List.getElem?_eq_getElem hkl]) P.lt (hbl 2) (hbl 1) hN P.fl
   rw [ans_eq hT6 P.len P.lt (before_self P.fl)] at hans
   have eF : ansF h k N = ansP (txns (h.take (k + 1))) (txns (h.take k)) t h[k].kind N := by
    rw [ansF, P.idx, Int.toNat_natCast, hev]
   rw [← eF] at hans
   obtain ⟨a0, a1⟩ := ansF_s h k N
   rw [show h.length - k = (h.length - (k + 1)) + 1 by omega, chkF] at ht
   have hstk : stopA h N k ↔ (ansF h k N).v ≠ 0 := ⟨fun h => h.elim (fun e => by omega) id, .inr⟩
   unfold CellV at hr
   rw [hstk] at hr
   generalize ansF h k N = an at *
   have hwr : IntKind.i64.wrap (s + an.s) = s + an.s := i64_in _ (by
    have : (k : Int) ≤ 60 := by omega
    constructor <;> omega)
   have hk1 : s + an.s ≤ ((k + 1 : Nat) : Int) * 1000000 := by omega
   (refine rO ?_; repeat' ((with_reducible first | refine rG ?_ | (refine rS ?_ ?_ <;> intro hp) | (refine rB ?_ ?_ <;> intro hb <;> try rw [hb]) | refine rD ?_ | refine rA ?_ | fail) <;> try simp only [go_sem, simprocAttr, r0, r1, r4, r8, r25, r26, m4, m8, hkI]))
   refine call_dat hpart ?_
   (refine rO ?_; repeat' ((with_reducible first | refine rG ?_ | (refine rS ?_ ?_ <;> intro hp) | (refine rB ?_ ?_ <;> intro hb <;> try rw [hb]) | refine rD ?_ | refine rA ?_ | fail) <;> try simp only [go_sem, simprocAttr, r0, r1, r4, r8, r25, r26, m4, m8, hkI]))
   refine call_dat hans ?_
   by_cases hv : an.v = 0
   ·have hvI : (an.v = 0) = True := eq_true hv
    rw [if_pos hv] at ht
    rcases hr with ⟨hx, _⟩ | ⟨_, ⟨rfl, rfl⟩ | ⟨rfl, m53⟩⟩
    ·exact absurd hv hx
    ·(refine rO ?_; repeat' ((with_reducible first | refine rG ?_ | (refine rS ?_ ?_ <;> intro hp) | (refine rB ?_ ?_ <;> intro hb <;> try rw [hb]) | refine rD ?_ | refine rA ?_ | fail) <;> try simp only [go_sem, simprocAttr, r0, r1, r4, r8, r25, r26, m4, m8, hwr, hvI, hw]))
     have hol2 : ([] ++ [an]).length = k + 1 := by rw [List.length_append, hol]; rfl
     have hs2' : 0 ≤ s + an.s := by omega
     by_cases hs2 : stopA h N (k + 1)
     ·refine ⟨_, (k + 1, [] ++ [an], s + an.s), g_frz (t := 53) (o := 53) (e := 37) (z := 4) (xs := ([] ++ [an]).map Fd.enc) ?_ ?_ (by omega), ⟨⟨hkl, hol2, hs2', hk1, ht⟩, ?_, ?_, ?_, ?_, ?_, ?_, ?_, .a (fdsA ([] ++ [an])), ?_, .inl ⟨hs2, rfl⟩⟩, by show h.length - (k + 1) < h.length - k; omega⟩
      ·simp only [go_sem, simprocAttr]
      ·simp only [go_sem, simprocAttr, List.map_append, List.map_cons, List.map_nil, Fd.enc_eq, List.nil_append]
      iterate 7 (· simp only [go_sem, simprocAttr, r0, r1, r4, r8, r25, r26, m4, hw])
      ·simp only [go_sem, simprocAttr, r0, r1, r4, r8, r25, r26, m4, hw, List.map_append, List.map_cons, List.map_nil, Fd.enc_eq, List.nil_append]; first | rfl | (rw [show fdsA (own ++ [an]) = .d (.sl (own.map Fd.enc ++ [an.enc])) by rw [fdsA, List.map_append]; rfl]; rfl)
     ·refine ⟨_, (k + 1, [] ++ [an], s + an.s), Ghost.refl _, ⟨⟨hkl, hol2, hs2', hk1, ht⟩, ?_, ?_, ?_, ?_, ?_, ?_, ?_, .own 53, ?_, .inr ⟨hs2, .inr ⟨rfl, ?_⟩⟩⟩, by show h.length - (k + 1) < h.length - k; omega⟩
      iterate 7 (· simp only [go_sem, simprocAttr, r0, r1, r4, r8, r25, r26, m4, hw])
      ·simp only [go_sem, simprocAttr]; try rfl
      ·simp only [go_sem, simprocAttr, List.map_append, List.map_cons, List.map_nil, Fd.enc_eq, List.nil_append]
    ·(refine rO ?_; repeat' ((with_reducible first | refine rG ?_ | (refine rS ?_ ?_ <;> intro hp) | (refine rB ?_ ?_ <;> intro hb <;> try rw [hb]) | refine rD ?_ | refine rA ?_ | fail) <;> try simp only [go_sem, simprocAttr, r0, r1, r4, r8, r25, r26, m4, m8, m53, hwr, hvI, hw, List.length_map]))
     have hol2 : (own ++ [an]).length = k + 1 := by rw [List.length_append, hol]; rfl
     have hs2' : 0 ≤ s + an.s := by omega
     by_cases hs2 : stopA h N (k + 1)
     ·refine ⟨_, (k + 1, own ++ [an], s + an.s), g_frz (t := 53) (o := 53) (e := 37) (z := 4) (xs := (own ++ [an]).map Fd.enc) ?_ ?_ (by omega), ⟨⟨hkl, hol2, hs2', hk1, ht⟩, ?_, ?_, ?_, ?_, ?_, ?_, ?_, .a (fdsA (own ++ [an])), ?_, .inl ⟨hs2, rfl⟩⟩, by show h.length - (k + 1) < h.length - k; omega⟩
      ·simp only [go_sem, simprocAttr]
      ·simp only [go_sem, simprocAttr, List.map_append, List.map_cons, List.map_nil, Fd.enc_eq, List.nil_append]
      iterate 7 (· simp only [go_sem, simprocAttr, r0, r1, r4, r8, r25, r26, m4, hw])
      ·simp only [go_sem, simprocAttr, r0, r1, r4, r8, r25, r26, m4, hw, List.map_append, List.map_cons, List.map_nil, Fd.enc_eq, List.nil_append]; first | rfl | (rw [show fdsA (own ++ [an]) = .d (.sl (own.map Fd.enc ++ [an.enc])) by rw [fdsA, List.map_append]; rfl]; rfl)
     ·refine ⟨_, (k + 1, own ++ [an], s + an.s), Ghost.refl _, ⟨⟨hkl, hol2, hs2', hk1, ht⟩, ?_, ?_, ?_, ?_, ?_, ?_, ?_, .own 53, ?_, .inr ⟨hs2, .inr ⟨rfl, ?_⟩⟩⟩, by show h.length - (k + 1) < h.length - k; omega⟩
      iterate 7 (· simp only [go_sem, simprocAttr, r0, r1, r4, r8, r25, r26, m4, hw])
      ·simp only [go_sem, simprocAttr]; try rfl
      ·simp only [go_sem, simprocAttr, List.map_append, List.map_cons, List.map_nil, Fd.enc_eq, List.nil_append]
   ·have hvI : (an.v = 0) = False := eq_false hv
    rw [if_neg hv] at ht
    rw [ht]
    rcases hr with ⟨_, rfl⟩ | ⟨hx, _⟩
    ·(refine rO ?_; repeat' ((with_reducible first | refine rG ?_ | (refine rS ?_ ?_ <;> intro hp) | (refine rB ?_ ?_ <;> intro hb <;> try rw [hb]) | refine rD ?_ | refine rA ?_ | fail) <;> try simp only [go_sem, simprocAttr, r0, r1, r4, r8, r25, r26, m4, m8, hwr, hvI, hw]))
    ·exact absurd hv hx
  ·have hkI : ((k : Int) < (h.length : Int)) = False := eq_false (by omega)
   rw [show h.length - k = 0 by omega, chkF] at ht
   rw [ht]
   rcases hr with ⟨_, rfl⟩ | ⟨hx, _⟩
   ·(refine rO ?_; repeat' ((with_reducible first | refine rG ?_ | (refine rS ?_ ?_ <;> intro hp) | (refine rB ?_ ?_ <;> intro hb <;> try rw [hb]) | refine rD ?_ | refine rA ?_ | fail) <;> try simp only [go_sem, simprocAttr, r0, r1, r4, r8, r25, r26, m4, m8, hkI]))
   ·exact absurd (.inl (by omega)) hx
end Go.VC
end
section
set_option maxRecDepth 100000
namespace Go.VC
open Go.RowKit Go.Proofs Go.IntWalk
def Fck3 : List (List Nat) := [[5, 6, 7, 8, 9, 10, 11, 12, 13, 14, 15, 16, 17, 18], [12, 13, 14, 15, 16, 17, 18], []]
theorem t1078e (h : List Ev) (n : Int) (hM : ¬ maySE h n = 0) : Holds Tryz.prog GL 6 [evsA h, I n] [.a (Tr.a ⟨0, 0, [], 0⟩), .a (I (maySE h n))] := by
 refine fn_holds (vs := [.cell 4 25, .tmp 5]) (by kernel_rfl) Tryz.func6 rfl rfl (by kernel_rfl) (by kernel_rfl) rfl ?_
 have hrow := t1056 h 0 0 n (by decide) (by decide)
 rw [rowE_0] at hrow
 generalize rowF h 0 0 n = F at hrow
 have hMI : (maySE h n = 0) = False := eq_false hM
 (refine rO ?_; repeat' ((with_reducible first | refine rG ?_ | (refine rS ?_ ?_ <;> intro hp) | (refine rB ?_ ?_ <;> intro hb <;> try rw [hb]) | refine rD ?_ | refine rA ?_ | fail) <;> try simp only [go_sem, simprocAttr, List.length_map]))
 refine call_dat hrow ?_
 (refine rO ?_; repeat' ((with_reducible first | refine rG ?_ | (refine rS ?_ ?_ <;> intro hp) | (refine rB ?_ ?_ <;> intro hb <;> try rw [hb]) | refine rD ?_ | refine rA ?_ | fail) <;> try simp only [go_sem, simprocAttr, hMI]))
 refine SemOp.old ?_
 (refine rO ?_; repeat' ((with_reducible first | refine rG ?_ | (refine rS ?_ ?_ <;> intro hp) | (refine rB ?_ ?_ <;> intro hb <;> try rw [hb]) | refine rD ?_ | refine rA ?_ | fail) <;> try simp only [go_sem, simprocAttr, y_build0]))
theorem cutFd (k : Nat) (l : List Fd) : List.take (min (l.length : Int) k).toNat (l.map Fd.enc) = (l.take k).map Fd.enc := by
 rw [List.map_take]
 by_cases h : l.length ≤ k
 ·rw [List.take_of_length_le (by simp; omega), List.take_of_length_le (by simp; omega)]
 ·congr 1; omega
theorem chkF_len {ans : Nat → Fd} {len : Nat} : ∀ (f k : Nat) (own : List Fd) (s : Int), (chkF ans len f k own s).own.length ≤ own.length + f
 | 0, k, own, s => by simp [chkF]
 | f + 1, k, own, s => by
  unfold chkF
  split
  ·have := chkF_len (ans := ans) (len := len) f (k + 1) (own ++ [ans k]) (s + (ans k).s)
   simp at this; omega
  ·simp
theorem t2003 (h0 : List Ev) (n : Int) (x y : Tr) : Holds Tryz.prog GL 3 [evsA h0, I n, x.a, y.a] [.a (B true)] := by
 refine fn_holds (vs := [.tmp 8]) (by kernel_rfl) Tryz.func3 rfl rfl (by kernel_rfl) (by kernel_rfl) rfl ?_
 have m0 : (0 : Int) ≤ min (h0.length : Int) 65 := by omega
 have m1 : min (h0.length : Int) 65 ≤ (h0.length : Int) := by omega
 have hc : List.take (min (h0.length : Int) 65).toNat (h0.map Ev.enc) = (h0.take 65).map Ev.enc := cutN 65 h0
 generalize h0.take 65 = h at hc
 obtain ⟨xv, xa, xl, xs⟩ := x
 obtain ⟨yv, ya, yl, ys⟩ := y
 have mx0 : (0 : Int) ≤ min (xl.length : Int) 10 := by omega
 have mx1 : min (xl.length : Int) 10 ≤ (xl.length : Int) := by omega
 have hx : List.take (min (xl.length : Int) 10).toNat (xl.map Fd.enc) = (xl.take 10).map Fd.enc := cutFd 10 xl
 have my0 : (0 : Int) ≤ min (yl.length : Int) 10 := by omega
 have my1 : min (yl.length : Int) 10 ≤ (yl.length : Int) := by omega
 have hy : List.take (min (yl.length : Int) 10).toNat (yl.map Fd.enc) = (yl.take 10).map Fd.enc := cutFd 10 yl
 have lx : (xl.take 10).length ≤ 1000 := by simp; omega
 have ly : (yl.take 10).length ≤ 1000 := by simp; omega
 generalize xl.take 10 = xl' at hx lx
 generalize yl.take 10 = yl' at hy ly
 (refine rO ?_; repeat' ((with_reducible first | refine rG ?_ | (refine rS ?_ ?_ <;> intro hp) | (refine rB ?_ ?_ <;> intro hb <;> try rw [hb]) | refine rD ?_ | refine draw_F Fck3 (by decide +kernel) ?_ | refine rA ?_ | fail) <;> try simp only [go_sem, simprocAttr, List.length_map, m0, m1, hc, mx0, mx1, hx, my0, my1, hy, Int.toNat_zero, List.drop_zero, fds_len, PG, Fck3]))
 refine ⟨fds_len, fds_len, ⟨fds_len, fds_len⟩, fds_len, ?_⟩
 have hwy := t1032 h n
 have hxy := t2021 ⟨xv, xa, xl', xs⟩ ⟨yv, ya, yl', ys⟩ lx
 have hxy2 := t2022 ⟨xv, xa, xl', xs⟩ ⟨yv, ya, yl', ys⟩ lx
 have hxx := t2021 ⟨xv, xa, xl', xs⟩ ⟨xv, xa, xl', xs⟩ lx
 rw [sameTr_refl] at hxx
 generalize sameTr ⟨xv, xa, xl', xs⟩ ⟨yv, ya, yl', ys⟩ = e at hxy hxy2
 by_cases hM : maySE h n = 0
 ·obtain ⟨hE, hn0, hn1⟩ := mayS_ok hM
  obtain ⟨N, rfl⟩ : ∃ N : Nat, n = N := ⟨n.toNat, by omega⟩
  have hchk := t1078 h N hM
  have href := t2025 h N hE (by omega)
  have hl : (chkT h N).own.length ≤ 1000 := by
   have := chkF_len (ans := fun k => ansF h k N) (len := h.length) h.length 0 [] 0
   have h60 := check60 hE
   simp at this
   unfold chkT; omega
  have hs := t2022 (chkT h N) (chkT h N) hl
  rw [sameTr_refl] at hs
  rw [hM] at hwy
  generalize chkT h N = tr at *
  refine call_dat hchk ?_
  (refine rO ?_; repeat' ((with_reducible first | refine rG ?_ | (refine rS ?_ ?_ <;> intro hp) | (refine rB ?_ ?_ <;> intro hb <;> try rw [hb]) | refine rD ?_ | refine rA ?_ | fail) <;> try simp only [go_sem, simprocAttr, hx, hy]))
  refine callQ_dat (res := [_]) hxy ?_
  (refine rO ?_; repeat' ((with_reducible first | refine rG ?_ | (refine rS ?_ ?_ <;> intro hp) | (refine rB ?_ ?_ <;> intro hb <;> try rw [hb]) | refine rD ?_ | refine rA ?_ | fail) <;> try simp only [go_sem, simprocAttr, hc]))
  refine callQ_dat (res := [_]) hxy2 ?_
  (refine rO ?_; repeat' ((with_reducible first | refine rG ?_ | (refine rS ?_ ?_ <;> intro hp) | (refine rB ?_ ?_ <;> intro hb <;> try rw [hb]) | refine rD ?_ | refine rA ?_ | fail) <;> try simp only [go_sem, simprocAttr, hc]))
  ·cases e <;> simp at hb
  ·(
   refine callQ_dat (res := [_]) hxx ?_
   (refine rO ?_; repeat' ((with_reducible first | refine rG ?_ | (refine rS ?_ ?_ <;> intro hp) | (refine rB ?_ ?_ <;> intro hb <;> try rw [hb]) | refine rD ?_ | apply q1033 | refine rA ?_ | fail) <;> try simp only [go_sem, simprocAttr, hc]))
   refine call_dat hwy ?_
   (refine rO ?_; repeat' ((with_reducible first | refine rG ?_ | (refine rS ?_ ?_ <;> intro hp) | (refine rB ?_ ?_ <;> intro hb <;> try rw [hb]) | refine rD ?_ | refine rA ?_ | fail) <;> try simp only [go_sem, simprocAttr, hc]))
   refine callQ_dat (res := [_]) href ?_
   (refine rO ?_; repeat' ((with_reducible first | refine rG ?_ | (refine rS ?_ ?_ <;> intro hp) | (refine rB ?_ ?_ <;> intro hb <;> try rw [hb]) | refine rD ?_ | refine rA ?_ | fail) <;> try simp only [go_sem, simprocAttr, hc]))
   refine callQ_dat (res := [_]) hs ?_
   (refine rO ?_; repeat' ((with_reducible first | refine rG ?_ | (refine rS ?_ ?_ <;> intro hp) | (refine rB ?_ ?_ <;> intro hb <;> try rw [hb]) | refine rD ?_ | refine rA ?_ | fail) <;> try simp only [go_sem, simprocAttr, hc])))
 ·have hz := t2022 ⟨0, 0, [], 0⟩ ⟨0, 0, [], 0⟩ (by simp)
  rw [sameTr_refl] at hz
  have hMI : (maySE h n = 0) = False := eq_false hM
  refine call_dat (t1078e h n hM) ?_
  (refine rO ?_; repeat' ((with_reducible first | refine rG ?_ | (refine rS ?_ ?_ <;> intro hp) | (refine rB ?_ ?_ <;> intro hb <;> try rw [hb]) | refine rD ?_ | refine rA ?_ | fail) <;> try simp only [go_sem, simprocAttr, hx, hy]))
  refine callQ_dat (res := [_]) hxy ?_
  (refine rO ?_; repeat' ((with_reducible first | refine rG ?_ | (refine rS ?_ ?_ <;> intro hp) | (refine rB ?_ ?_ <;> intro hb <;> try rw [hb]) | refine rD ?_ | refine rA ?_ | fail) <;> try simp only [go_sem, simprocAttr, hc]))
  refine callQ_dat (res := [_]) hxy2 ?_
  (refine rO ?_; repeat' ((with_reducible first | refine rG ?_ | (refine rS ?_ ?_ <;> intro hp) | (refine rB ?_ ?_ <;> intro hb <;> try rw [hb]) | refine rD ?_ | refine rA ?_ | fail) <;> try simp only [go_sem, simprocAttr, hc]))
  ·cases e <;> simp at hb
  ·(
   refine callQ_dat (res := [_]) hxx ?_
   (refine rO ?_; repeat' ((with_reducible first | refine rG ?_ | (refine rS ?_ ?_ <;> intro hp) | (refine rB ?_ ?_ <;> intro hb <;> try rw [hb]) | refine rD ?_ | apply q1033 | refine rA ?_ | fail) <;> try simp only [go_sem, simprocAttr, hc]))
   refine call_dat hwy ?_
   (refine rO ?_; repeat' ((with_reducible first | refine rG ?_ | (refine rS ?_ ?_ <;> intro hp) | (refine rB ?_ ?_ <;> intro hb <;> try rw [hb]) | refine rD ?_ | refine rA ?_ | fail) <;> try simp only [go_sem, simprocAttr, hc, hMI]))
   refine SemOp.old ?_
   (refine rO ?_; repeat' ((with_reducible first | refine rG ?_ | (refine rS ?_ ?_ <;> intro hp) | (refine rB ?_ ?_ <;> intro hb <;> try rw [hb]) | refine rD ?_ | refine rA ?_ | fail) <;> try simp only [go_sem, simprocAttr, y_build0, hc]))
   refine call_dat hz ?_
   (refine rO ?_; repeat' ((with_reducible first | refine rG ?_ | (refine rS ?_ ?_ <;> intro hp) | (refine rB ?_ ?_ <;> intro hb <;> try rw [hb]) | refine rD ?_ | refine rA ?_ | fail) <;> try simp only [go_sem, simprocAttr, hc])))
end Go.VC
end
