/- Objects under other names; loops at whose heads the memory is told otherwise. -/
import Derived.Test.YtjmbgnncokeliaaDoorVTa
set_option maxRecDepth 100000
set_option linter.unusedSimpArgs false
set_option linter.unusedVariables false
set_option linter.defProp false
namespace Go.VC
open Go.RowKit Go.Proofs
/-- The name 'a' becomes 'b'. -/
def nm (a b o : Nat) : Nat := if o = a then b else o
def R.mv0 (a b : Nat) : R → R
  | .ref o f => .ref (nm a b o) f
  | .eref o i s j => .eref (nm a b o) i s j
  | .own o => .own (nm a b o)
  | .omp o => .omp (nm a b o)
  | .clo f caps => .clo f (caps.map fun c => (nm a b c.1, c.2))
  | .tp (_ :: _) => .any
  | .agr _ => .any
  | .sem os p => .sem (os.map (nm a b)) fun β v => p (fun o => β (nm a b o)) v
  | r => r
def R.mv (a b : Nat) (r : R) : R := if r.says b then .any else r.mv0 a b
def SemOb.mv (a b : Nat) (x : SemOb) : SemOb where
  os := x.os.map (nm a b)
  p := fun β st w bv => x.p (fun o => β (nm a b o)) st w bv
  lt := fun h => x.lt h
  mono := fun H h k => x.mono H h k
  dep := fun h => x.dep fun o ho => h _ (List.mem_map.2 ⟨o, ho, rfl⟩)
def Ob.mv (a b : Nat) : Ob → Ob
  | .box cs => .box (cs.map (R.mv a b))
  | .frame vs rs => .frame vs fun t => (rs t).mv a b
  | .sem x => if x.os.any (fun o => o == b) then .lost else .sem (x.mv a b)
  | x => x
def S.mv (a b : Nat) (σ : S) : S where
  regs := fun t => (σ.regs t).mv a b
  mem := fun o => if o = b then (σ.mem a).map (Ob.mv a b) else if o = a then none else (σ.mem o).map (Ob.mv a b)
section
variable {β : Nat → Value} {st : Nat → Prop} {w : World} {v : Value} {a b : Nat}
theorem RelR.mv {r : R} (h : RelR β st w v r) : RelR (upd β b (β a)) st w v (r.mv a b) := by
  have T : ∀ o, o ≠ b → upd β b (β a) (nm a b o) = β o := fun o ho => by
    unfold upd nm
    by_cases h : o = a
    · simp [h]
    · simp [h, ho]
  unfold R.mv
  split
  · exact .any
  · rename_i hk
    cases h with
    | any => exact .any
    | a h => exact .a h
    | cs h => exact .cs h
    | ref h => exact .ref ((T _ (by simpa [R.says, R.says0] using hk)).trans h)
    | eref h => exact .eref ((T _ (by simpa [R.says, R.says0] using hk)).trans h)
    | own h h1 => exact .own ((T _ (by simpa [R.says, R.says0] using hk)).trans h) h1
    | omp h h1 => exact .omp ((T _ (by simpa [R.says, R.says0] using hk)).trans h) h1
    | clo h =>
      simp only [R.says, R.says0, Bool.not_eq_true, List.any_eq_false, beq_iff_eq] at hk
      refine .clo ⟨by simp [h.1], fun i v c hv hc => ?_⟩
      simp only [List.getElem?_map, Option.map_eq_some_iff] at hc
      obtain ⟨c', hc', rfl⟩ := hc
      obtain ⟨bl, hb, e⟩ := h.2 i v c' hv hc'
      exact ⟨bl, (T _ (hk c' (List.mem_of_getElem? hc'))).trans hb, e⟩
    | @tp vs xs hl hd =>
      cases xs with
      | nil => exact .tp hl fun j v r _ hr => by simp at hr
      | cons x xs => exact .any
    | agr _ _ _ => exact .any
    | @sem os p v h hp =>
      simp only [R.says, R.says0, Bool.not_eq_true, List.any_eq_false, beq_iff_eq] at hk
      refine .sem (hp _ fun o ho => T o (hk o ho)) fun β2 h2 => hp _ fun o ho => ?_
      rw [h2 _ (List.mem_map.2 ⟨o, ho, rfl⟩), T o (hk o ho)]
theorem ObRel.mv {x : Ob} (h : ObRel β st w v x) : ObRel (upd β b (β a)) st w v (x.mv a b) := by
  have T : ∀ o, o ≠ b → upd β b (β a) (nm a b o) = β o := fun o ho => by
    unfold upd nm
    by_cases h : o = a
    · simp [h]
    · simp [h, ho]
  cases x with
  | box cs =>
    obtain ⟨bl, arr, e, rfl, hb, hr⟩ := h
    refine ⟨bl, arr, e, rfl, hb, by simp [hr.1], fun i v r hv hr' => ?_⟩
    simp only [List.getElem?_map, Option.map_eq_some_iff] at hr'
    obtain ⟨r0, h0, rfl⟩ := hr'
    exact ⟨(hr.2 i v r0 hv h0).1, (hr.2 i v r0 hv h0).2.mv⟩
  | log e sz xs => exact h
  | mpo kv => exact h
  | iter kv seen => exact h
  | frame vs rs => exact ⟨h.1, fun t => (h.2 t).mv⟩
  | sem x =>
    simp only [Ob.mv]
    split
    · exact fun b hb => x.lt h b hb
    · rename_i hk
      simp only [Bool.not_eq_true, List.any_eq_false, beq_iff_eq] at hk
      exact x.dep (β := β) (fun o ho => T o (hk o ho)) h
  | lost => exact h
end
/-- An object under another name. -/
theorem g_mv {σ : S} {a b : Nat} (ha : a < 1000000000) (hab : a ≠ b) : Ghost σ (σ.mv a b) := fun c β act w hs => by
  have at_ : ∀ o x, (σ.mv a b).mem o = some x → ∃ o' y, σ.mem o' = some y ∧ x = y.mv a b ∧ o' = (if o = b then a else o) ∧ o ≠ a ∧ upd β b (β a) o = β o' := fun o x hx => by
    simp only [S.mv] at hx
    split at hx
    · rename_i e
      obtain ⟨y, hy, rfl⟩ := Option.map_eq_some_iff.1 hx
      exact ⟨a, y, hy, rfl, by simp [e], by rw [e]; exact Ne.symm hab, by simp [upd, e]⟩
    · rename_i e
      split at hx
      · cases hx
      · rename_i e2
        obtain ⟨y, hy, rfl⟩ := Option.map_eq_some_iff.1 hx
        exact ⟨o, y, hy, rfl, by simp [e], e2, by simp [upd, e]⟩
  have hst : ∀ bl, stF c σ β w bl → stF c (σ.mv a b) (upd β b (β a)) w bl ∧ w.heap[bl]? = w.heap[bl]? := fun bl hbl => ⟨⟨hbl.1, hbl.2.1, fun o x hx => by
    obtain ⟨o', y, hy, _, _, _, e⟩ := at_ o x hx
    rw [e]; exact hbl.2.2.1 o' y hy, hbl.2.2.2⟩, rfl⟩
  refine ⟨upd β b (β a), hs.keep, hs.size, hs.dfs (fun _ _ => rfl) (fun o x hx => let ⟨o', y, hy, _, _, _, e⟩ := at_ o x hx; .inl ⟨o', y, hy, e⟩), c.hE hst hs.ext, fun o x hx => ?_, fun o x bl hx hb => ?_, fun o1 o2 x1 x2 bl h1 h2 h3 h4 => ?_, fun t => ((hs.reg t).mono hst).mv, hs.env.mono hst⟩
  · obtain ⟨o', y, hy, rfl, _, _, e⟩ := at_ o x hx
    rw [e]
    exact ((hs.obj o' y hy).mono hst fun _ _ => rfl).mv
  · obtain ⟨o', y, hy, rfl, e1, _, e⟩ := at_ o x hx
    rw [e] at hb
    refine (hs.blk o' y bl hy hb).imp id fun hX => ⟨hX.1, ?_⟩
    split at e1
    · have := hX.2; omega
    · subst e1; exact hX.2
  · obtain ⟨o1', y1, hy1, _, e1, n1, f1⟩ := at_ o1 x1 h1
    obtain ⟨o2', y2, hy2, _, e2, n2, f2⟩ := at_ o2 x2 h2
    rw [f1] at h3; rw [f2] at h4
    have := hs.dis o1' o2' y1 y2 bl hy1 hy2 h3 h4
    rw [e1, e2] at this
    split at this <;> split at this <;> simp_all
theorem rrow_mv {a b : Nat} {e : TypeId} {ids : List Nat} : (rrow e ids).mv a b = rrow e (ids.map (nm a b)) := by
  unfold SemOb.mv rrow
  congr 1
  funext β st w bv
  simp only [ObRel, List.map_map]
  rfl
theorem rmp_mv {a b : Nat} {kv : List (Int × Nat)} : (rmp kv).mv a b = rmp (kv.map fun p => (p.1, nm a b p.2)) := by
  unfold SemOb.mv rmp
  congr 1
  · simp [List.map_map]
  · funext β st w bv
    simp only [ObRel, List.map_map]
    rfl
/-! ### Rules -/
section
variable {σ : S} {a b o t f : Nat}
theorem mv_r : (σ.mv a b).regs t = (σ.regs t).mv a b := rfl
theorem mv_mb : (σ.mv a b).mem b = (σ.mem a).map (Ob.mv a b) := by simp [S.mv]
theorem mv_mo (h1 : (o == b) = false) (h2 : (o == a) = false) : (σ.mv a b).mem o = (σ.mem o).map (Ob.mv a b) := by
  simp only [S.mv]; rw [if_neg (by simpa using h1), if_neg (by simpa using h2)]
theorem mv_any : R.mv a b .any = .any := rfl
theorem mv_a {x : A} : R.mv a b (.a x) = .a x := rfl
theorem mv_cs {xs : List (List D)} : R.mv a b (.cs xs) = .cs xs := rfl
theorem mv_tp : R.mv a b (.tp []) = .tp [] := rfl
theorem mv_own (h : (a == b) = false) : R.mv a b (.own a) = .own b := by simp [R.mv, R.says, R.says0, R.mv0, nm, h]
theorem mv_ref (h : (a == b) = false) : R.mv a b (.ref a f) = .ref b f := by simp [R.mv, R.says, R.says0, R.mv0, nm, h]
theorem mv_ownn (h1 : (o == b) = false) (h2 : (o == a) = false) : R.mv a b (.own o) = .own o := by
  have : ¬ o = a := by simpa using h2
  simp [R.mv, R.says, R.says0, R.mv0, nm, h1, this]
theorem mv_ompn (h1 : (o == b) = false) (h2 : (o == a) = false) : R.mv a b (.omp o) = .omp o := by
  have : ¬ o = a := by simpa using h2
  simp [R.mv, R.says, R.says0, R.mv0, nm, h1, this]
theorem mv_refn (h1 : (o == b) = false) (h2 : (o == a) = false) : R.mv a b (.ref o f) = .ref o f := by
  have : ¬ o = a := by simpa using h2
  simp [R.mv, R.says, R.says0, R.mv0, nm, h1, this]
theorem mo_log {e : TypeId} {z : Nat} {xs : List (List D)} : Ob.mv a b (.log e z xs) = .log e z xs := rfl
theorem mo_mpo {kv : List (Int × D)} : Ob.mv a b (.mpo kv) = .mpo kv := rfl
theorem mo_box {cs : List R} : Ob.mv a b (.box cs) = .box (cs.map (R.mv a b)) := rfl
theorem mv0_up {r : R} (h : a < 1000000) : r.up.mv0 a b = r.up := by
  have hn : ∀ o, nm a b (upId o) = upId o := fun o => by
    unfold nm; rw [if_neg (by have := upId_le o; omega)]
  cases r with
  | any => rfl
  | a x => rfl
  | cs x => rfl
  | ref o f => simp only [R.up, R.mv0, hn]
  | eref o i s j => simp only [R.up, R.mv0, hn]
  | own o => simp only [R.up, R.mv0, hn]
  | omp o => simp only [R.up, R.mv0, hn]
  | clo g caps => simp only [R.up, R.mv0, List.map_map, Function.comp_def, hn]
  | tp xs => cases xs <;> rfl
  | agr xs => rfl
  | sem os p => simp only [R.up, R.mv0, List.map_map, Function.comp_def, hn]
theorem mo_frame {vs : List Value} {reg : Nat → R} {q : Nat} (h : decide (a < 1000000) = true) : Ob.mv a (upId q) (.frame vs (upF reg)) = .frame vs (upF (killR q reg)) := by
  simp only [Ob.mv]
  congr 1
  funext t
  show R.mv a (upId q) (reg t).up = ((reg t).kill q).up
  rw [← kill_up_hi]
  unfold R.mv R.kill
  split
  · rfl
  · exact mv0_up (of_decide_eq_true h)
end
def PM :=
  And.intro (@mv_r) <| And.intro (@mv_mb) <| And.intro (@mv_mo) <| And.intro (@mv_any) <| And.intro (@mv_a) <| And.intro (@mv_cs) <| And.intro (@mv_tp) <| And.intro (@mv_own) <| And.intro (@mv_ref) <| And.intro (@mv_ownn) <| And.intro (@mv_ompn) <| And.intro (@mv_refn) <| And.intro (@mo_log) <| And.intro (@mo_mpo) <| And.intro (@mo_box) <| @mo_frame
/-! ### Loops -/
theorem awp_loopG {P : Program} {gl : Nat → Option (List D)} {α : Type} (Inv : α → S → Prop) (m : α → Nat) {c : Code} {Q : Ex → S → Prop} {σ : S} (a0 : α) (h0 : ∃ σ0, Ghost σ σ0 ∧ Inv a0 σ0)
    (h : ∀ a σ, Inv a σ → awp P gl c (Ex.then (fun σ' => ∃ σ'' a', Ghost σ' σ'' ∧ Inv a' σ'' ∧ m a' < m a) Q) σ) : awp P gl (.loop c) Q σ := by
  intro I hI hG
  have key : ∀ n σ, (∃ σ'' a, Ghost σ σ'' ∧ Inv a σ'' ∧ m a = n) → I σ := by
    intro n
    induction n using Nat.strongRecOn with
    | _ n ih =>
      rintro σ ⟨σ'', a, hg, hi, hn⟩
      refine hG σ σ'' hg (hI σ'' (awp_mono c (fun e σ' he => ?_) (h a σ'' hi)))
      cases e with
      | normal =>
        obtain ⟨σ3, a', hg', hi', hm⟩ := he
        exact ih (m a') (by omega) σ' ⟨σ3, a', hg', hi', rfl⟩
      | exit id => exact he
      | ret => exact he
  obtain ⟨σ0, hg, hi⟩ := h0
  exact key _ σ ⟨σ0, a0, hg, hi, rfl⟩
end Go.VC
