/- table.Table: what it keeps, by whose names; the order of the keepers as data. -/
import Derived.Test.YtjmbgnncokeliaaDoorVTc
set_option maxRecDepth 100000
set_option linter.unusedSimpArgs false
set_option linter.unusedVariables false
namespace Go.VC
open Go.RowKit Go.Proofs Go.IntWalk
/-! ### Names of keepers and of their rows -/
theorem kidEx : ∃ f : Nat → Nat, ∀ j, f j = j + 2000000 := ⟨_, fun _ => rfl⟩
noncomputable def kid (j : Nat) : Nat := Classical.choose kidEx j
theorem kid_eq (j : Nat) : kid j = j + 2000000 := Classical.choose_spec kidEx j
theorem ridEx : ∃ f : Nat → Nat, ∀ j, f j = j + 3000000 := ⟨_, fun _ => rfl⟩
noncomputable def rid (j : Nat) : Nat := Classical.choose ridEx j
theorem rid_eq (j : Nat) : rid j = j + 3000000 := Classical.choose_spec ridEx j
theorem kid_lt {j : Nat} (h : j < 100) : decide (kid j < 999000000) = true := by have := kid_eq j; exact decide_eq_true (by omega)
theorem rid_lt {j : Nat} (h : j < 100) : decide (rid j < 999000000) = true := by have := rid_eq j; exact decide_eq_true (by omega)
theorem kid_rid {i j : Nat} (h : i < 100) : (kid i == rid j) = false := by have := kid_eq i; have := rid_eq j; simp; omega
theorem rid_kid {i j : Nat} (h : j < 100) : (rid i == kid j) = false := by have := rid_eq i; have := kid_eq j; simp; omega
theorem kid_ne {i j : Nat} (h : i ≠ j) : (kid i == kid j) = false := by have := kid_eq i; have := kid_eq j; simp; omega
theorem rid_ne {i j : Nat} (h : i ≠ j) : (rid i == rid j) = false := by have := rid_eq i; have := rid_eq j; simp; omega
theorem kid_lo {j d : Nat} (h : decide (d < 1000000) = true) : (kid j == d) = false := by have := kid_eq j; have := of_decide_eq_true h; simp; omega
theorem rid_lo {j d : Nat} (h : decide (d < 1000000) = true) : (rid j == d) = false := by have := rid_eq j; have := of_decide_eq_true h; simp; omega
theorem lo_kid {j d : Nat} (h : decide (d < 1000000) = true) : (d == kid j) = false := by have := kid_eq j; have := of_decide_eq_true h; simp; omega
theorem lo_rid {j d : Nat} (h : decide (d < 1000000) = true) : (d == rid j) = false := by have := rid_eq j; have := of_decide_eq_true h; simp; omega
/-! ### What a call of take leaves as it is -/
theorem fineR_a {q : Nat} {x : A} : FineR q (.a x) := ⟨rfl, rfl⟩
theorem down_own {o : Nat} : (R.own (upId o)).down = .own o := by simp [R.down, upId_le, upId_sub]
theorem down_omp {o : Nat} : (R.omp (upId o)).down = .omp o := by simp [R.down, upId_le, upId_sub]
theorem fineR_own {q o : Nat} (h : (o == q) = false) : FineR q (.own o) := ⟨down_own, by
  have : (R.own o).kill q = .own o := by unfold R.kill; rw [show (R.own o).says q = false from h]; rfl
  rw [this]; exact down_own⟩
theorem fineR_omp {q o : Nat} (h : (o == q) = false) : FineR q (.omp o) := ⟨down_omp, by
  have : (R.omp o).kill q = .omp o := by unfold R.kill; rw [show (R.omp o).says q = false from h]; rfl
  rw [this]; exact down_omp⟩
theorem fineO_log {q : Nat} {e : TypeId} {z : Nat} {xs : List (List D)} : FineO q (.log e z xs) := ⟨rfl, rfl, fun _ _ => rfl⟩
theorem sem_ext {x y : SemOb} (h1 : x.os = y.os) (h2 : x.p = y.p) : x = y := by
  cases x; cases y; cases h1; cases h2; rfl
theorem sem_up_down {x : SemOb} : (Ob.sem x).up.down = .sem x := by
  have h : ∀ o ∈ x.up.os, 1000000 ≤ o := fun o ho => by
    obtain ⟨o', _, rfl⟩ := List.mem_map.1 ho
    exact upId_le o'
  show Ob.down (.sem x.up) = _
  simp only [Ob.down]
  rw [dif_pos h]
  congr 1
  refine sem_ext ?_ ?_
  · simp [SemOb.up, SemOb.down, List.map_map, Function.comp_def, upId_sub]
  · funext β st w bv
    simp [SemOb.up, SemOb.down, upId_sub]
theorem fineO_sem {q : Nat} {x : SemOb} (h : q ∉ x.os) : FineO q (.sem x) := by
  have hq : x.up.os.any (fun o' => o' == upId q) = false := by
    simp only [List.any_eq_false, beq_iff_eq, SemOb.up, List.mem_map]
    rintro o ⟨o', ho, rfl⟩ e
    exact h (upId_inj e ▸ ho)
  refine ⟨sem_up_down, ?_, fun a ha => ?_⟩
  · have : (Ob.sem x).up.kill (upId q) = (Ob.sem x).up := by
      show (if _ then _ else _) = _
      rw [hq]; rfl
    rw [this]; exact sem_up_down
  · have : (Ob.sem x).up.mv a (upId q) = (Ob.sem x).up := by
      show (if _ then _ else _) = Ob.sem x.up
      rw [hq]
      show Ob.sem (x.up.mv a (upId q)) = _
      congr 1
      have hn : ∀ o, nm a (upId q) (upId o) = upId o := fun o => by
        unfold nm; rw [if_neg (by have := upId_le o; omega)]
      refine sem_ext ?_ ?_
      · simp [SemOb.up, SemOb.mv, List.map_map, Function.comp_def, hn]
      · funext β st w bv
        simp [SemOb.up, SemOb.mv, hn]
    rw [this]; exact sem_up_down
theorem fineO_kp {kp : Kp} {i q : Nat} (h : (i == q) = false) : FineO q (.box (kp.cells i)) := by
  have hn : ∀ a, a < 1000000 → nm a (upId q) (upId i) = upId i := fun a ha => by
    unfold nm; rw [if_neg (by have := upId_le i; omega)]
  have hu : (upId i == upId q) = false := by rw [up_up]; exact h
  cases hops : kp.ops with
  | nil =>
    refine ⟨?_, ?_, fun a ha => ?_⟩ <;> simp [Kp.cells, hops, opsR, Ob.up, Ob.down, Ob.kill, Ob.mv, R.up, R.down, R.kill, R.says, R.says0, R.mv, R.mv0]
  | cons x xs =>
    refine ⟨?_, ?_, fun a ha => ?_⟩ <;> simp [Kp.cells, hops, opsR, Ob.up, Ob.down, Ob.kill, Ob.mv, R.up, R.down, R.kill, R.says, R.says0, R.mv, R.mv0, hu, upId_le, upId_sub, hn, *]
/-! ### The order, as data -/
def Kp.data (kp : Kp) : List D := [dI kp.name, dI kp.first, dI kp.last, dI kp.st, .sl (kp.ops.map Op.enc), dI kp.ask.kind, dI kp.ask.tx, dI kp.ask.var, dI kp.ask.val]
/-- A cell's datum, when nobody writes it any more. -/
inductive CellD (σ : S) : R → D → Prop
  | a {x : D} : CellD σ (.a (.d x)) x
  | cs {xs : List (List D)} : CellD σ (.cs xs) (.sl xs)
  | own {q : Nat} {e : TypeId} {z : Nat} {xs : List (List D)} (hq : q < 1000000000) (h : σ.mem q = some (.log e z xs)) : CellD σ (.own q) (.sl xs)
def ordS (σ : S) (o : Nat) (e : TypeId) (dss : List (List D)) : S where
  regs := fun t => match σ.regs t with
    | .a x => .a x
    | .own o' => if o' = o then .own o else .any
    | _ => .any
  mem := fun o' => if o' = o then some (.log e 1 (dss.map fun ds => [.pt ds])) else none
theorem g_order {σ : S} {o : Nat} {e : TypeId} {ids : List Nat} {dss : List (List D)} (hm : σ.mem o = some (.sem (rrow e ids))) (hl : ids.length = dss.length)
    (hd : ∀ (j i : Nat) (ds : List D), ids[j]? = some i → dss[j]? = some ds → i ≠ o ∧ i < 1000000000 ∧ ∃ cs, σ.mem i = some (.box cs) ∧ F2 (fun r x => (∀ q, r = .own q → q ≠ o) ∧ CellD σ r x) cs ds) : Ghost σ (ordS σ o e dss) := fun c β a w hs => by
  have memo : ∀ o' x, (ordS σ o e dss).mem o' = some x → o' = o ∧ x = .log e 1 (dss.map fun ds => [.pt ds]) := fun o' x hx => by
    simp only [ordS] at hx
    split at hx
    · rename_i h; cases hx; exact ⟨h, rfl⟩
    · cases hx
  have hst : ∀ b, stF c σ β w b → stF c (ordS σ o e dss) β w b := fun b hb => ⟨hb.1, hb.2.1, fun o' x hx => by
    obtain ⟨rfl, _⟩ := memo o' x hx
    exact hb.2.2.1 _ _ hm, hb.2.2.2⟩
  have hst' : ∀ b, stF c σ β w b → stF c (ordS σ o e dss) β w b ∧ w.heap[b]? = w.heap[b]? := fun b hb => ⟨hst b hb, rfl⟩
  -- a block of another object's
  have hob : ∀ q x b, σ.mem q = some x → q ≠ o → q < 1000000000 → ownB (β q) = some b → NotDef w b → stF c (ordS σ o e dss) β w b := fun q x b hq hne hlt hb hnd => by
    refine ⟨(hs.obj q x hq).lt hb, fun hw => ?_, fun o' y hy hb' => ?_, hnd⟩
    · rcases hs.blk q x b hq hb with h | h
      · omega
      · exact absurd h.2 (by omega)
    · obtain ⟨rfl, _⟩ := memo o' y hy
      exact hne (hs.dis _ _ _ _ b hq hm hb hb')
  refine ⟨β, hs.keep, hs.size, hs.dfs (fun _ _ => rfl) (fun o' x hx => let ⟨e, _⟩ := memo o' x hx; .inl ⟨o, _, hm, by rw [e]⟩), c.hE hst' hs.ext, fun o' x hx => ?_, fun o' x b hx hb => ?_, fun o1 o2 x1 x2 b h1 h2 _ _ => ?_, fun t => ?_, hs.env.mono hst'⟩
  · obtain ⟨rfl, rfl⟩ := memo o' x hx
    obtain ⟨cells, hr, hf, hlen⟩ := hs.obj _ _ hm
    have hfl : ∀ l : List Nat, (l.map fun i => [D.v (β i)]).flatten = l.map fun i => .v (β i) := fun l => by
      induction l with
      | nil => rfl
      | cons x l ih => simp [ih]
    have hfl' : ∀ l : List (List D), (l.map fun ds => [D.pt ds]).flatten = l.map fun ds => .pt ds := fun l => by
      induction l with
      | nil => rfl
      | cons x l ih => simp [ih]
    rw [hfl] at hf
    refine ⟨cells, by simpa [hl] using hr, ?_, fun x hx => ?_⟩
    · rw [hfl']
      refine ⟨by have := hf.1; simp at this ⊢; omega, fun j u d hu hd' => ?_⟩
      simp only [List.getElem?_map, Option.map_eq_some_iff] at hd'
      obtain ⟨ds, hds, rfl⟩ := hd'
      obtain ⟨i, hi⟩ : ∃ i, ids[j]? = some i := by
        have := (List.getElem?_eq_some_iff.1 hds).1
        exact ⟨_, List.getElem?_eq_getElem (by omega)⟩
      have hui := hf.2 j u (.v (β i)) hu (by simp [hi])
      obtain ⟨hio, hilt, cs, hbox, hcs⟩ := hd j i ds hi hds
      have hu' : u = β i := by cases hui with | v h => rfl
      obtain ⟨bl, arr, e', hb, hh, hcf⟩ := hs.obj i _ hbox
      rw [hu', hb]
      refine Rd.mk_pt (hob i _ bl hbox hio hilt (by rw [hb]; rfl) (nd_cells hh)) hh fun k d hk => ?_
      obtain ⟨r, hrk⟩ : ∃ r, cs[k]? = some r := by
        have := (List.getElem?_eq_some_iff.1 hk).1
        have := hcs.1
        exact ⟨_, List.getElem?_eq_getElem (by omega)⟩
      obtain ⟨hno, hcd⟩ := hcs.2 k r d hrk hk
      obtain ⟨v, hv, _, hrel⟩ := hcf.get hrk
      refine ⟨v, by simpa using hv, ?_⟩
      cases hcd with
      | a => exact hrel.inv_d.mono hst'
      | cs => obtain ⟨p, n, rfl, hr'⟩ := hrel.inv_cs; exact hr'.mono hst'
      | @own q e2 z xs hq hmq =>
        obtain ⟨cells2, hr2, hf2, hl2⟩ := hs.obj q _ hmq
        rw [hrel.inv_own]
        exact row_rd hr2 hf2 hl2 hst fun b hb => hob q _ b hmq (hno q rfl) hq hb (hr2.nd hb)
    · obtain ⟨ds, _, rfl⟩ := List.mem_map.1 hx; rfl
  · obtain ⟨rfl, _⟩ := memo o' x hx
    exact hs.blk _ _ b hm hb
  · rw [(memo o1 x1 h1).1, (memo o2 x2 h2).1]
  · have ht := hs.reg t
    simp only [ordS]
    split
    · rename_i x he; rw [he] at ht; exact (ht.mono hst')
    · rename_i o' he
      split
      · rename_i e'; subst e'; rw [he] at ht; exact ht.mono hst'
      · exact .any
    · exact .any
end Go.VC
