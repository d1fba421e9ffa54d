/- Operations that are told by what they do: rows that are held against nil, the ends of rows that are cleared. -/
import Derived.Test.YtjmbgnncokeliaaDoorVMe
import Derived.Lib.SliceRun
set_option maxRecDepth 100000
set_option linter.unusedSimpArgs false
set_option linter.unusedVariables false
namespace Go.VC
open Go.RowKit Go.Proofs
section
variable {P : Program} {gl : Nat → Option (List D)} {σ : S} {K : S → Prop} {dst : Option Tmp} {ty : TypeId} {pos : String} {after : Array Edge} {g : Option (Nat × Bool)}
/-- What a register tells of a row. -/
def slR : R → Option (List (List D))
  | .a (.d (.sl xs)) => some xs
  | .cs xs => some xs
  | _ => none
theorem slR_rel {β : Nat → Value} {st : Nat → Prop} {w : World} {v : Value} {r : R} {xs : List (List D)} (h : RelR β st w v r) (hx : slR r = some xs) : ∃ p c, v = .slice p xs.length c ∧ (xs ≠ [] → p.isNone = false) := by
  have key : Rd st w v (.sl xs) → ∃ p c, v = .slice p xs.length c ∧ (xs ≠ [] → p.isNone = false) := fun k => by
    rcases k.inv_sl with ⟨⟨p, rfl⟩, rfl⟩ | ⟨b, off, n, cap, sz, arr, e', fr, rfl, hn, _⟩
    · exact ⟨p, 0, rfl, fun h => absurd rfl h⟩
    · exact ⟨_, cap, by rw [hn], fun _ => rfl⟩
  unfold slR at hx
  split at hx
  · cases hx; exact key h.inv_d
  · cases hx; obtain ⟨p, n, rfl, hr⟩ := h.inv_cs; exact key hr
  · cases hx
theorem run_bin_nil {w : World} {op : BinOp} {neg : Bool} (hop : (op = .eql ∧ neg = false) ∨ (op = .neq ∧ neg = true)) {t e : TypeId} (ht : P.underlying t = some (.slice e)) {x : Operand} {p : Option Addr} {n c : Nat} :
    (do eqGuard op t x (.const (.slice none 0 0)) (.slice p n c) (.slice none 0 0); binOp op t (.slice p n c) (.slice none 0 0) : Sem Value).run P w = .ok (.bool (p.isNone != neg)) w := by
  rcases hop with ⟨rfl, rfl⟩ | ⟨rfl, rfl⟩
  · have := Go.Lib.run_eql_slice_nil (P := P) w t e p n c 0 0 ht
    simp only [binOp] at this
    simp only [Sem.run_bind, eqGuard, Result.andThen_ok, binOp]
    simpa using this
  · have := Go.Lib.run_equalIn_slice_nil (P := P) w 9999 t e p n c 0 0 ht
    simp [eqGuard, binOp, Op.equal, Op.maxDepth, this]
/-- A row is held against nil: one that is not empty is not nil; of an empty one nobody knows. -/
theorem sem_nil {op : BinOp} {neg : Bool} (hop : (op = .eql ∧ neg = false) ∨ (op = .neq ∧ neg = true)) {t e u : TypeId} (ht : tk P t = .slice e) {x : Operand} {xs : List (List D)} (hx : slR (σ.eval gl x) = some xs)
    (h1 : xs ≠ [] → K (σ.put dst (.a (B neg)))) (h2 : xs = [] → ∀ b, K (σ.put dst (.a (B b)))) : SemOp P gl ⟨dst, .binOp op t x (.const (.slice none 0 0)) u, ty, pos, after, g⟩ σ K := by
  intro c β a w hP hgl hs hd
  subst hP; subst hgl
  obtain ⟨p, cp, hv, hp⟩ := slR_rel (hs.eval x) hx
  have hr := run_bin_nil (P := c.P) (w := w) hop (tk_slice ht) (x := x) (p := p) (n := xs.length) (c := cp)
  refine Run.val (v := .bool (p.isNone != neg)) (w' := w) (fun _ e => by cases e) ?_ ⟨_, β, ?_, hs.put hd (.a (x := B (p.isNone != neg)) (.v rfl))⟩
  · simp only [execOp, hv, Sem.run_bind] at hr ⊢
    rw [show a.eval (.const (.slice none 0 0)) = .slice none 0 0 from rfl, hr]; rfl
  · by_cases hxs : xs = []
    · exact h2 hxs _
    · have := h1 hxs
      rw [hp hxs]
      cases neg <;> exact this

/-! ### The end of a row of one's own -/
def SubIs (b v : Value) (l sz : Nat) : Prop := ∃ p q n c, b = .slice p n c ∧ v = .slice q (n - l) (c - l) ∧ (l < n → ∃ g, p = some ⟨g, 0, none⟩ ∧ q = some ⟨g, l * sz, none⟩)
/-- The end of the row 'o', from element 'l' on. -/
def subR (o l sz : Nat) : R := .sem [o] fun β v => SubIs (β o) v l sz
theorem RowIs.shape {w : World} {e : TypeId} {sz n : Nat} {v : Value} {cells : List Value} (h : RowIs w e sz v n cells) : (n = 0 ∧ ∃ p c, v = .slice p 0 c) ∨ ∃ g cap arr, v = .slice (some ⟨g, 0, none⟩) n cap ∧ w.heap[g]? = some (.cells arr e (0, 0)) ∧ n ≤ cap ∧ arr.size = cap * sz ∧ arr.toList.take (n * sz) = cells := by
  rcases h with ⟨h1, ⟨hp, h0⟩ | ⟨g, cap, cur, hp, hb, hg, hnc, hcm, hsz, htake⟩⟩ | ⟨h0, _, p, hp⟩
  · exact .inl ⟨h0, none, 0, hp⟩
  · exact .inr ⟨g, cap, cur, hp, hg, hnc, hsz, htake⟩
  · exact .inl ⟨h0, p, 0, hp⟩
theorem sem_view {t e e' : TypeId} {ti : TI} (ht : tk P t = .slice e) (hti : tinf P e = some ti) {x l : Operand} {o sz : Nat} {xs : List (List D)} {k : IntKind} {n : Int} (hx : σ.eval gl x = .own o) (hm : σ.mem o = some (.log e' sz xs)) (hl : σ.eval gl l = .a (.d (.v (.int k n)))) (hsz : ti.sz = sz)
    (h0 : 0 ≤ n) (h1 : n ≤ xs.length) (hk : K (σ.put dst (subR o n.toNat sz))) : SemOp P gl ⟨dst, .slice t x (some l) none none, ty, pos, after, g⟩ σ K := by
  intro c β a w hP hgl hs hd
  subst hP; subst hgl
  have hv := hs.eval x
  rw [hx] at hv
  have hlv := hs.eval l
  rw [hl] at hlv
  obtain ⟨cells, hrow, _⟩ := hs.obj o _ hm
  have hshape : ∃ p cap, β o = .slice p xs.length cap ∧ xs.length ≤ cap ∧ (n.toNat < xs.length → ∃ g, p = some ⟨g, 0, none⟩) := by
    rcases hrow.shape with ⟨h, p, cp, hp⟩ | ⟨g, cap, arr, hp, _, hc, _⟩
    · rw [h]; exact ⟨p, cp, hp, Nat.zero_le _, fun h' => by omega⟩
    · exact ⟨_, cap, hp, hc, fun _ => ⟨g, rfl⟩⟩
  obtain ⟨p, cap, hp, hc, hpg⟩ := hshape
  have hb := sliceBounds_run (P := c.P) (w := w) (len := xs.length) (cap := cap) (m := cap) (lo := n) (hi := xs.length) (vl := some (.int k n)) (vh := none) (vm := none) h0 h1 (Int.le_refl _) hc (.inr ⟨k, rfl⟩) (.inl ⟨rfl, rfl⟩) (.inl ⟨rfl, rfl⟩)
  simp only [Int.toNat_natCast] at hb
  refine Run.val (v := .slice (if cap = n.toNat then p else p.map (·.add (n.toNat * ti.sz))) (xs.length - n.toNat) (cap - n.toNat)) (w' := w) (fun _ e => by cases e) ?_ ⟨_, β, hk, hs.put hd (.sem ⟨p, _, xs.length, cap, hp, rfl, fun hlt => ?_⟩ fun β' hβ => ?_)⟩
  · simp only [execOp, hv.inv_own, hp, Instr.sliceAt, Option.map_some, Option.map_none, hlv.inv_v, Sem.run_bind, run_under (tk_slice ht), Result.andThen_ok, Instr.slice, hb, run_size hti, Sem.run_pure]
  · obtain ⟨g', rfl⟩ := hpg hlt
    refine ⟨g', rfl, ?_⟩
    rw [if_neg (by omega), hsz]
    simp [add_at]
  · rw [hβ o (by simp)]
    refine ⟨p, _, xs.length, cap, hp, rfl, fun hlt => ?_⟩
    obtain ⟨g', rfl⟩ := hpg hlt
    refine ⟨g', rfl, ?_⟩
    rw [if_neg (by omega), hsz]
    simp [add_at]
theorem zeroCells_eq (zero : Array Value) (h : 0 < zero.size) : ∀ n, (Builtin.zeroCells zero n).toList = (List.replicate n zero.toList).flatten
  | 0 => by simp [Builtin.zeroCells]
  | n + 1 => by
    have ih := zeroCells_eq zero h n
    rw [List.replicate_succ', List.flatten_append, ← ih]
    simp only [Builtin.zeroCells, Array.toList_map, Array.toList_range, List.flatten_cons, List.flatten_nil, List.append_nil]
    rw [Nat.add_mul, Nat.one_mul, List.range_add, List.map_append]
    congr 1
    apply List.ext_getElem (by simp)
    intro i h1 h2
    simp at h1
    simp [Nat.add_mod, Nat.mod_eq_of_lt h1, h1]
theorem sem_clear {t e : TypeId} {ti : TI} (ht : tk P t = .slice e) (hti : tinf P e = some ti) {x : Operand} {o l sz : Nat} {xs : List (List D)} (hx : σ.eval gl x = subR o l sz) (hm : σ.mem o = some (.log e sz xs)) (hsz : ti.sz = sz) (hz : ti.z.length = sz) (h1 : ti.z.all Value.oneCell' = true) (hpos : 0 < sz) (hl : l ≤ xs.length)
    (hk : K ((σ.setOb o (.log e sz (xs.take l ++ List.replicate (xs.length - l) (ti.z.map cellD)))).put dst .any)) : SemOp P gl ⟨dst, .call ⟨.builtin .clear, #[x], #[t]⟩, ty, pos, after, g⟩ σ K := by
  intro c β a w hP hgl hs hd
  subst hP; subst hgl
  have hv := hs.eval x
  rw [hx] at hv
  obtain ⟨z, hz1, hz2⟩ := run_zero (w := w) hti
  obtain ⟨cells, hrow, hf, hall⟩ := hs.obj o _ hm
  have hsub : SubIs (β o) (a.eval x) l sz := by
    generalize a.eval x = v at hv
    cases hv with | sem h _ => exact h
  obtain ⟨p, q, n, cp, hb, hxv, hg⟩ := hsub
  have hn : n = xs.length := by
    rcases hrow.shape with ⟨h, p', cp', hp⟩ | ⟨g, cap, arr, hp, _⟩
    · rw [hb] at hp; cases hp; exact h.symm
    · rw [hb] at hp; cases hp; rfl
  subst hn
  rcases Nat.lt_or_ge l xs.length with hlt | hge
  · obtain ⟨g', rfl, rfl⟩ := hg hlt
    obtain ⟨g2, cap, arr, hp, hh, hnc, hasz, htake⟩ := hrow.shape.resolve_left (fun h => by omega)
    rw [hb] at hp
    simp only [Value.slice.injEq, Option.some.injEq, Addr.mk.injEq] at hp
    obtain ⟨⟨rfl, _, _⟩, _, rfl⟩ := hp
    have hmax : cp ≤ maxLen := by
      rcases hrow with ⟨_, ⟨hp, _⟩ | ⟨_, _, _, hp, _, _, _, hcm, _⟩⟩ | ⟨_, _, _, hp⟩
      · rw [hb] at hp; cases hp
      · rw [hb] at hp; cases hp; exact hcm
      · rw [hb] at hp; simp only [Value.slice.injEq] at hp; omega
    have hzs : z.cells.size = sz := by rw [← hz, hz2]; simp
    have hvals := zeroCells_eq z.cells (by omega) (xs.length - l)
    have hvl : (Builtin.zeroCells z.cells (xs.length - l)).toList.length = (xs.length - l) * sz := by simp [Builtin.zeroCells, hzs]
    have hle : (xs.length - l) * sz + l * sz = xs.length * sz := by rw [← Nat.add_mul]; congr 1; omega
    have hle2 : xs.length * sz ≤ cp * sz := Nat.mul_le_mul_right _ hnc
    have hv1 : ∀ v ∈ (Builtin.zeroCells z.cells (xs.length - l)).toList, v.oneCell' = true := fun v hv => by
      rw [hvals] at hv
      obtain ⟨r, hr, hvr⟩ := List.mem_flatten.1 hv
      rw [List.eq_of_mem_replicate hr] at hvr
      exact List.all_eq_true.1 h1 v (by rw [hz2]; exact hvr)
    have hst := run_storeCells_at c.P g' (l * sz) e (Builtin.zeroCells z.cells (xs.length - l)).toList 0 arr w hh (by rw [hvl, hasz]; omega) hv1
    simp only [Nat.add_zero] at hst
    have hown : ownB (β o) = some g' := by rw [hb]; cases cp with | zero => omega | succ k => rfl
    generalize hZ : (Builtin.zeroCells z.cells (xs.length - l)).toList = Z at *
    refine Run.val (v := .tuple #[]) (w' := w.setRow g' (arr.toList.take (l * sz) ++ Z ++ arr.toList.drop (l * sz + Z.length)).toArray) (fun _ e => by cases e) ?_ ⟨_, β, hk, ?_⟩
    · obtain ⟨m, hm'⟩ : ∃ m, xs.length - l = m + 1 := ⟨xs.length - l - 1, by omega⟩
      have hZ' := hZ
      rw [hm'] at hZ'
      simp [execOp, resolve, invoke, builtin, Builtin.clear_, hxv, hm', run_under (tk_slice ht), hz1, hZ', hst]
    · refine (hs.setOb hm (setRow_keep hown) ?_).put hd .any
      have hxl : (xs.take l ++ List.replicate (xs.length - l) (ti.z.map cellD)).length = xs.length := by simp; omega
      have hal : arr.toList.length = cp * sz := by simpa using hasz
      have hcells : cells.length = xs.length * sz := by rw [← htake, List.length_take, hal]; omega
      refine ⟨cells.take (l * sz) ++ Z, .inl ⟨?_, .inr ⟨g', cp, _, hb.trans (by rw [hxl]), Nat.zero_le _, setRow_heap _ _ _ _ _ _ hh, by rw [hxl]; exact hnc, hmax, ?_, ?_⟩⟩, ?_, ?_⟩
      · rw [hxl]; simp only [List.length_append, List.length_take, hvl, hcells]; omega
      · simp only [List.size_toArray, List.length_append, List.length_take, List.length_drop, hal, hvl]; omega
      · rw [hxl]
        simp only []
        rw [take_splice arr.toList Z _ _ (by rw [hvl]; omega) (by rw [hal]; omega), htake]
        rw [List.drop_eq_nil_of_le (by rw [hcells, hvl]; omega), List.append_nil]
      · rw [List.flatten_append]
        have e1 : (xs.take l).flatten = xs.flatten.take (l * sz) := by
          have : ∀ (xs : List (List D)) (l : Nat), (∀ x ∈ xs, x.length = sz) → (xs.take l).flatten = xs.flatten.take (l * sz) := by
            intro xs
            induction xs with
            | nil => intro l _; simp
            | cons y ys ih =>
              intro l h
              cases l with
              | zero => simp
              | succ l =>
                have hy := h y (by simp)
                rw [List.take_succ_cons, List.flatten_cons, List.flatten_cons, ih l (fun x hx => h x (by simp [hx])), Nat.add_mul, Nat.one_mul]
                rw [show l * sz + sz = y.length + l * sz by rw [hy]; omega, List.take_length_add_append]
          exact this xs l hall
        rw [e1]
        refine F2.append (F2.mono (hf.take _) fun u r hr => hr.mono (st_setOb hm hown)) ?_
        have : ∀ m, F2 (Rd (stF c (σ.setOb o (.log e sz (xs.take l ++ List.replicate (xs.length - l) (ti.z.map cellD)))) β (w.setRow g' (arr.toList.take (l * sz) ++ Z ++ arr.toList.drop (l * sz + Z.length)).toArray)) (w.setRow g' (arr.toList.take (l * sz) ++ Z ++ arr.toList.drop (l * sz + Z.length)).toArray)) (List.replicate m z.cells.toList).flatten (List.replicate m (ti.z.map cellD)).flatten := by
          intro m
          induction m with
          | zero => exact F2.nil
          | succ m ih =>
            rw [List.replicate_succ, List.replicate_succ, List.flatten_cons, List.flatten_cons]
            refine F2.append ?_ ih
            rw [hz2]
            refine ⟨by simp, fun i u d hu hd' => ?_⟩
            simp only [List.getElem?_map, hu, Option.map_some, Option.some.injEq] at hd'
            subst hd'
            exact cellD_rd (List.all_eq_true.1 h1 u (by rw [hz2]; exact List.mem_of_getElem? hu))
        have hF := this (xs.length - l)
        rw [← hvals] at hF
        exact hF
      · intro x hx'
        rcases List.mem_append.1 hx' with h | h
        · exact hall x (List.mem_of_mem_take h)
        · rw [List.eq_of_mem_replicate h, List.length_map, hz]
  · have hle : l = xs.length := by omega
    subst hle
    have hx0 : (Builtin.clear_ #[t] ty #[a.eval x]).run c.P w = .ok (.tuple #[]) w := by
      rw [hxv, Nat.sub_self]
      cases q <;> simp [Builtin.clear_, run_under (tk_slice ht)]
    refine Run.val (v := .tuple #[]) (w' := w) (fun _ e => by cases e) (by simp [execOp, resolve, invoke, builtin, hx0]) ⟨_, β, hk, ?_⟩
    refine (hs.setOb hm (Keep.refl _ _) ?_).put hd .any
    simp only [Nat.sub_self, List.replicate_zero, List.append_nil, List.take_length]
    refine ObRel.mono (fun b hst => ⟨⟨hst.1, hst.2.1, fun o' z' hz' => ?_, hst.2.2.2⟩, rfl⟩) (hs.obj o _ hm) fun _ _ => rfl
    simp only [S.setOb, upd] at hz'
    split at hz'
    · rename_i eo; subst eo; exact hst.2.2.1 _ _ hm
    · exact hst.2.2.1 _ _ hz'
end
end Go.VC
