/- Operations that lay objects to rest, append, build; calls; and all operations together. -/
import Derived.Test.YtjmbgnncokeliaaDoorVQ
set_option linter.unusedVariables false
set_option linter.unusedSimpArgs false
namespace Go.VC
open Go.RowKit

section
variable {c : Cx} {σ : S} {β : Nat → Value} {a : Act} {w : World} {o : Oper} {K : S → Prop}

theorem rest1_sound (h : Sim c σ β a w) {v : Value} {r : R} {x : A} (hv : RelR β (stF c σ β w) w v r) (ha : argA σ r = some x) (hl : r.low) :
    Sim c (σ.rest1 r) β a w ∧ (∀ b, stF c σ β w b → stF c (σ.rest1 r) β w b) ∧ RelA (stF c (σ.rest1 r) β w) w v x := by
  unfold argA at ha
  split at ha
  · cases ha; cases hv with | a h' => exact ⟨h, fun _ hb => hb, h'⟩
  · cases ha; obtain ⟨p, n, rfl, hr⟩ := hv.inv_cs; exact ⟨h, fun _ hb => hb, hr⟩
  · split at ha
    · rename_i ob _ e sz xs hm
      cases ha
      obtain ⟨cells, hr, hf, hall⟩ := h.obj _ _ hm
      have hx : ∀ st, (∀ b, stF c σ β w b → st b) → (∀ b, ownB (β ob) = some b → st b) → Rd st w (β ob) (.sl xs) := fun st h1 h2 => row_rd hr hf hall h1 h2
      have hz := h.frz (f := fun _ => .sl xs) hm (fun st h1 h2 => .inl (hx st h1 h2)) (fun st h1 h2 off b hb => by
        rw [hb] at hr
        rcases hr with hr | ⟨_, _, p, hp⟩
        · rcases hr.2 with ⟨hp, _⟩ | ⟨_, _, _, hp, _⟩ <;> cases hp
        · cases hp) hl (fun b' hb' => hr.nd hb')
      have e1 : σ.rest1 (.own ob) = σ.frz ob fun _ => .sl xs := by simp [S.rest1, hm]
      rw [e1]
      exact ⟨hz.1, hz.2.1, by rw [hv.inv_own]; exact hx _ hz.2.1 hz.2.2⟩
    · cases ha
  · split at ha
    · rename_i ob _ kv hm
      cases ha
      obtain ⟨r, clock, es, vs, hb, hh, hl', hs', hk, hd⟩ := h.obj _ _ hm
      have hx : ∀ st, (∀ b, stF c σ β w b → st b) → (∀ b, ownB (β ob) = some b → st b) → Rd st w (β ob) (.mp kv) := fun st h1 h2 => by
        rw [hb]
        exact .mp (h2 r (by rw [hb]; rfl)) hh hl' hs' hk fun i p a => (hd i p a).mono fun b hb => ⟨h1 b hb, rfl⟩
      have hz := h.frz (f := fun _ => .mp kv) hm (fun st h1 h2 => .inl (hx st h1 h2)) (fun st h1 h2 off b hb' => by rw [hb] at hb'; cases hb') hl (fun b' hb' => by rw [hb] at hb'; cases hb'; exact nd_map hh)
      have e1 : σ.rest1 (.omp ob) = σ.frz ob fun _ => .mp kv := by simp [S.rest1, hm]
      rw [e1]
      refine ⟨hz.1, hz.2.1, ?_⟩
      cases hv with | omp e _ => rw [← e]; exact hx _ hz.2.1 hz.2.2
    · cases ha
  · split at ha
    · rename_i ob off x cs hm
      obtain ⟨ds, h1, rfl⟩ := Option.map_eq_some_iff.1 ha
      obtain ⟨b, arr, e, hb, hh, hf⟩ := h.obj _ _ hm
      have hds := allD_inv h1
      have hx : ∀ st, (∀ b, stF c σ β w b → st b) → (∀ b, ownB (β ob) = some b → st b) → ∀ k b', β ob = .pointer (some ⟨b', 0, none⟩) → Rd st w (.pointer (some ⟨b', k, none⟩)) (.pt (ds.drop k)) := fun st h1 h2 k b' hb' => by
        rw [hb] at hb'; cases hb'
        refine Rd.mk_pt (h2 b (by rw [hb]; rfl)) hh fun j d hj => ?_
        rw [List.getElem?_drop] at hj
        obtain ⟨u, hu, _, hr⟩ := hf.get (show cs[k + j]? = some (.a (.d d)) by rw [hds]; simp [hj])
        exact ⟨u, by simpa using hu, hr.inv_d.mono fun b hb => ⟨h1 b hb, rfl⟩⟩
      have hz := h.frz (f := fun k => .pt (ds.drop k)) hm (fun st h1 h2 => .inr ⟨b, hb⟩) hx hl (fun b' hb' => by rw [hb] at hb'; cases hb'; exact nd_cells hh)
      have e1 : σ.rest1 (.ref ob off) = σ.frz ob fun k => .pt (ds.drop k) := by simp [S.rest1, hm, h1]
      rw [e1]
      obtain ⟨b', hb', rfl⟩ := hv.inv_ref
      exact ⟨hz.1, hz.2.1, hx _ hz.2.1 hz.2.2 off b' hb'⟩
    · cases ha
  all_goals cases ha

theorem rest_sound : ∀ (rs : List R) {σ : S} (h : Sim c σ β a w) {K : S → List A → Prop} {vs avs : List Value} {acc : List A}, F2 (RelR β (stF c σ β w) w) vs rs → F2 (RelA (stF c σ β w) w) avs acc → σ.rest rs acc K →
    ∃ σ' as, Sim c σ' β a w ∧ (∀ b, stF c σ β w b → stF c σ' β w b) ∧ F2 (RelA (stF c σ' β w) w) (avs.reverse ++ vs) as ∧ K σ' as
  | [], σ, h, K, vs, avs, acc, hv, hacc, hk => by
    rw [hv.of_nil]
    refine ⟨σ, acc.reverse, h, fun _ hb => hb, ?_, hk⟩
    rw [List.append_nil]
    refine ⟨by simp [hacc.1], fun i u x hu hx => ?_⟩
    have hl := hacc.1
    have hi := (List.getElem?_eq_some_iff.1 hu).1
    rw [List.length_reverse] at hi
    rw [List.getElem?_reverse hi] at hu
    rw [List.getElem?_reverse (by rw [← hl]; exact hi), ← hl] at hx
    exact hacc.2 _ u x hu hx
  | r :: rs, σ, h, K, vs, avs, acc, hv, hacc, hk => by
    obtain ⟨v, vs', rfl, hr, hvs⟩ := hv.of_cons
    simp only [S.rest] at hk
    split at hk
    · rename_i x hx
      obtain ⟨hlow, hk⟩ := hk
      obtain ⟨hs, hst, hrel⟩ := rest1_sound h hr hx hlow
      have H : ∀ b, stF c σ β w b → stF c (σ.rest1 r) β w b ∧ w.heap[b]? = w.heap[b]? := fun b hb => ⟨hst b hb, rfl⟩
      obtain ⟨σ', as, h1, h2, h3, h4⟩ := rest_sound rs hs (vs := vs') (avs := v :: avs) (acc := x :: acc) (hvs.mono fun _ _ => RelR.mono H) (F2.cons hrel (hacc.mono fun _ _ => RelA.mono H)) hk
      exact ⟨σ', as, h1, fun b hb => h2 b (hst b hb), by simpa using h3, h4⟩
    · exact hk.elim

theorem a_slice {t : TypeId} {x : Operand} {l hi m : Option Operand} (h : Sim c σ β a w) (ho : o.op = .slice t x l hi m) (hd : ∀ d, o.dst = some d → d < c.N) (hq : opA0 c.P c.gl o σ K) : Run c.P o a w (AOut c a o K) := by
  have hdf : ∀ c : Call, o.op ≠ .defer c := fun _ e => by rw [ho] at e; cases e
  simp only [opA0, ho] at hq
  split at hq
  · rename_i ob he
    have hx := h.eval x
    rw [he] at hx
    split at hq
    · rename_i e0 z xs e hm ht
      split at hq
      · rename_i ti hti
        obtain ⟨hlow, hq⟩ := hq
        have e1 : argA σ (.own ob) = some (.d (.sl xs)) := by simp [argA, hm]
        have e2 : σ.rest1 (.own ob) = σ.frz ob fun _ => .sl xs := by simp [S.rest1, hm]
        obtain ⟨hs, hst, hrel⟩ := rest1_sound h hx e1 hlow
        rw [e2] at hs hrel
        obtain ⟨u, r, hk, hrun, hr⟩ := slice_run h (st := stF c (σ.frz ob fun _ => .sl xs) β w) ht hti hrel hq.2 hq.1
        refine Run.val hdf (v := u) (w' := w) (by simp [execOp, ho, hrun]) ⟨_, β, hk, hs.put hd (hr β)⟩
      · exact hq.elim
    · exact hq.elim
  · exact a_quiet h hd (opQ_sound h hq)

theorem flat_len {sz : Nat} : ∀ {l : List (List D)}, (∀ c ∈ l, c.length = sz) → l.flatten.length = l.length * sz
  | [], _ => by simp
  | x :: l, h => by
    have h1 := flat_len (l := l) fun y hy => h y (List.mem_cons_of_mem _ hy)
    have h2 := h x (by simp)
    simp only [List.flatten_cons, List.length_append, List.length_cons, h1, h2, Nat.add_mul]
    omega
/-- As below; it is told, too, which objects stay where they are. -/
abbrev AOutB (c : Cx) (a : Act) (o : Oper) (β : Nat → Value) (ob : Nat) (K : S → Prop) : Value → World → Prop :=
  fun v w' => ∃ σ' β', K σ' ∧ (∀ i, i ≠ ob → β' i = β i) ∧ Sim c σ' β' (a.put o.dst v) w'
theorem appK_soundB {t : TypeId} {x y : Operand} {k : Call} (h : Sim c σ β a w) (ho : o.op = .call k) (hc : k.callee = .builtin .append) (hargs : k.args = #[x, y]) (hty : k.argTypes = #[t, t])
    (hd : ∀ d, o.dst = some d → d < c.N) (hq : appK c.P σ t (σ.eval c.gl x) (σ.eval c.gl y) o.dst K) : ∃ ob, (∀ o', σ.eval c.gl x = .own o' → ob = o') ∧ Run c.P o a w (AOutB c a o β ob K) := by
  have hdf : ∀ c : Call, o.op ≠ .defer c := fun _ e => by rw [ho] at e; cases e
  have hx := h.eval x
  have hy := h.eval y
  unfold appK at hq
  split at hq
  · rename_i e d ys ht hdst hys
    split at hq
    · rename_i ti hti
      obtain ⟨hz, hsz, hbs, hyl, hq⟩ := hq
      obtain ⟨i, u, z0, hi, hu, hz0, hti'⟩ := tinf_info hti
      have htsz : i.size = ti.sz := by rw [hti']
      have htbs : i.bytes = ti.bs := by rw [hti']
      have htz : z0.cells.size = ti.sz := by rw [← hz, hti']; simp
      have hst := tk_slice ht
      have exec : ∀ (v' : Value) (w' : World), (Builtin.append_ #[t, t] o.type #[a.eval x, a.eval y]).run c.P w = .ok v' w' → (execOp a.eval o).run c.P w = .ok (.value v') w' := by
        intro v' w' hr
        simp [execOp, ho, resolve, hc, hargs, hty, invoke, builtin, hr]
      -- what is appended: its cells
      have hnew : ∃ (p : Option Addr) (cp : Nat) (news : List Value), a.eval y = .slice p ys.length cp ∧ news.length = ys.length * ti.sz ∧ F2 (Rd (stF c σ β w) w) news ys.flatten ∧ (p = none → ys = []) ∧ (∀ ad, p = some ad → ys ≠ [] → ∀ j u, news[j]? = some u → w.cell? (ad.add j) = some u) := by
        have fromRd : ∀ {v}, Rd (stF c σ β w) w v (.sl ys) → ∃ (p : Option Addr) (cp : Nat) (news : List Value), v = .slice p ys.length cp ∧ news.length = ys.length * ti.sz ∧ F2 (Rd (stF c σ β w) w) news ys.flatten ∧ (p = none → ys = []) ∧ (∀ ad, p = some ad → ys ≠ [] → ∀ j u, news[j]? = some u → w.cell? (ad.add j) = some u) := by
          intro v hr
          have hfl : ys.flatten.length = ys.length * ti.sz := flat_len hyl
          rcases hr.inv_sl with ⟨⟨p, rfl⟩, rfl⟩ | ⟨b, off, n, cap, sz, arr, e', fr, rfl, rfl, hn, hm, hstb, hb, hl, hcell⟩
          · exact ⟨p, 0, [], rfl, by simp, F2.nil, fun _ => rfl, fun _ _ h => absurd rfl h⟩
          · have hs : ys = [] ∨ sz = ti.sz := by
              cases ys with
              | nil => exact .inl rfl
              | cons x _ => exact .inr ((hl x (by simp)).symm.trans (hyl x (by simp)))
            have hflat : ∀ k d, ys.flatten[k]? = some d → ∃ u, arr[off + k]? = some u ∧ Rd (stF c σ β w) w u d := by
              intro k d hk
              rcases hs with rfl | rfl
              · simp at hk
              · have hk' : k < ys.length * ti.sz := by rw [← hfl]; exact (List.getElem?_eq_some_iff.1 hk).1
                have hq' : k / ti.sz < ys.length := by rw [Nat.div_lt_iff_lt_mul hsz]; exact hk'
                have hmod : k % ti.sz < ti.sz := Nat.mod_lt _ hsz
                have hx' : ys[k / ti.sz]? = some ys[k / ti.sz] := List.getElem?_eq_getElem hq'
                have hd' : ys[k / ti.sz][k % ti.sz]? = some (ys[k / ti.sz][k % ti.sz]'(by rw [hyl _ (List.getElem_mem hq')]; exact hmod)) := List.getElem?_eq_getElem _
                have := flat_get hyl hx' hd'
                rw [Nat.div_add_mod' k ti.sz, hk] at this
                obtain ⟨u, hu, hr⟩ := hcell _ _ _ _ hx' hd'
                rw [Nat.add_assoc, Nat.div_add_mod' k ti.sz] at hu
                exact ⟨u, hu, by cases this; exact hr⟩
            refine ⟨_, cap, (List.range (ys.length * ti.sz)).map fun k => arr.getD (off + k) undef, rfl, by simp, ⟨by simp [hfl], fun k u d hu hd => ?_⟩, fun h => (by cases h), fun ad had _ j u hu => ?_⟩
            · simp only [List.getElem?_map, Option.map_eq_some_iff] at hu
              obtain ⟨k', hk', rfl⟩ := hu
              obtain ⟨hlt, rfl⟩ := List.getElem?_eq_some_iff.1 hk'
              obtain ⟨u, hu, hr⟩ := hflat k d hd
              simp only [List.getElem_range, Array.getD_eq_getD_getElem?, hu]
              exact hr
            · cases had
              simp only [List.getElem?_map, Option.map_eq_some_iff] at hu
              obtain ⟨k', hk', rfl⟩ := hu
              obtain ⟨hlt, rfl⟩ := List.getElem?_eq_some_iff.1 hk'
              simp only [List.length_range] at hlt
              obtain ⟨u, hu, hr⟩ := hflat j _ (List.getElem?_eq_getElem (by rw [hfl]; exact hlt))
              rw [add_at, cell_at hb]
              simp only [List.getElem_range, Array.getD_eq_getD_getElem?, hu, Option.getD_some]
        unfold rowsR at hys
        split at hys
        · rename_i xs he
          cases hys
          rw [he] at hy
          exact fromRd (RelR.inv_d hy)
        · rename_i xs he
          cases hys
          rw [he] at hy
          obtain ⟨p, n, hv, hr⟩ := hy.inv_cs
          rw [hv]; exact fromRd hr
        · rename_i ob he
          rw [he] at hy
          split at hys
          · rename_i e' z' xs hm
            cases hys
            obtain ⟨cells, hr, hf, hl⟩ := h.obj ob _ hm
            rw [hy.inv_own]
            rcases hr.cells with ⟨rfl, h0, _, p, cp, hv⟩ | ⟨g, cap, cur, hv, hg, hn, hm', _, _, hcl, hk⟩
            · have : ys = [] := List.eq_nil_of_length_eq_zero h0
              subst this
              exact ⟨p, cp, [], hv, by simp, F2.nil, fun _ => rfl, fun _ _ h => absurd rfl h⟩
            · refine ⟨_, cap, cells, hv, ?_, hf, fun h => (by cases h), fun ad had _ j u hu => ?_⟩
              · cases hys' : ys with
                | nil => subst hys'; simpa using hcl
                | cons x l =>
                  have h1 := hl x (by rw [hys']; simp)
                  have h2 := hyl x (by rw [hys']; simp)
                  rw [← hys', hcl, ← h1, h2]
              · cases had
                rw [add_at, cell_at hg]
                simpa using hk j u hu
          · cases hys
        · cases hys
      obtain ⟨p, cp, news, hyv, hnl, hnf, hp0, hnc⟩ := hnew
      have h1 : ∀ u ∈ news, u.oneCell' = true := fun u hu => by
        obtain ⟨i, hi⟩ := List.mem_iff_getElem?.1 hu
        have hi' := (List.getElem?_eq_some_iff.1 hi).1
        exact (hnf.2 i u _ hi (List.getElem?_eq_getElem (by rw [← hnf.1]; exact hi'))).one
      -- the end: the new row is object ob
      have fin : ∀ (ob : Nat) (xs : List (List D)) (cells : List Value) (v' : Value) (w' : World) (row : Option Nat), F2 (Rd (stF c σ β w) w) cells xs.flatten → (∀ x ∈ xs, x.length = ti.sz) →
          (Builtin.append_ #[t, t] o.type #[a.eval x, a.eval y]).run c.P w = .ok v' w' → RowIs w' e ti.sz v' (xs ++ ys).length (cells ++ news) → w.grownBy w' row →
          (∀ b, row = some b → ∃ y, σ.mem ob = some y ∧ ownB (β ob) = some b) → (∀ b, ownB v' = some b → w.heap.size ≤ b ∨ row = some b) →
          K ((σ.newOb ob (.log e ti.sz (xs ++ ys))).put (some d) (.own ob)) → Run c.P o a w (AOutB c a o β ob K) := by
        intro ob xs cells v' w' row hf hxl hrun hrow hg hrb hvb hk
        have hn : ∀ b, ownB v' = some b → w.heap.size ≤ b ∨ ∃ y, σ.mem ob = some y ∧ ownB (β ob) = some b := fun b hb => (hvb b hb).imp id (hrb b)
        have kp : Keep (fun b => ∃ y, σ.mem ob = some y ∧ ownB (β ob) = some b) w w' := Keep.grown hg hrb
        have hs := h.new (o := ob) (x := .log e ti.sz (xs ++ ys)) (bv := v') kp hn ⟨cells ++ news, hrow, by
          rw [List.flatten_append]
          exact (hf.append hnf).mono fun _ _ => Rd.mono fun b hb => ⟨st_new kp.size (fun b hb => kp.block b hb.1 fun ⟨y, h1, h2⟩ => hb.2.2.1 ob y h1 h2) hn hb, kp.block b hb.1 fun ⟨y, h1, h2⟩ => hb.2.2.1 ob y h1 h2⟩, fun c hc => by
          rcases List.mem_append.1 hc with h1 | h1
          · exact hxl c h1
          · exact hyl c h1⟩
        refine Run.val hdf (exec v' w' hrun) ⟨_, upd β ob v', hk, fun i hi => by simp [upd, hi], ?_⟩
        rw [hdst]
        refine hs.put (fun d' e => hd d' (hdst.trans e)) (.own (by simp [upd]) ?_)
        rcases hrow with hr | ⟨_, _, p, rfl⟩
        · rcases hr.2 with ⟨rfl, _⟩ | ⟨g, cap, cur, rfl, _⟩ <;> rfl
        · rfl
      -- a row that grows into new memory
      have grow : ∀ (ob : Nat) (xs : List (List D)) (cells : List Value) (q : Option Addr) (cap : Nat), a.eval x = .slice q xs.length cap → F2 (Rd (stF c σ β w) w) cells xs.flatten → (∀ x ∈ xs, x.length = ti.sz) → cells.length = xs.length * ti.sz →
          (∀ ad, q = some ad → ∀ j v, cells[j]? = some v → w.cell? (ad.add j) = some v) → (q = none → xs = [] ∧ cap = 0) → cap < xs.length + ys.length → xs.length ≤ cap → (xs.length + ys.length) * ti.bs ≤ 140737488355328 →
          K ((σ.newOb ob (.log e ti.sz (xs ++ ys))).put (some d) (.own ob)) → Run c.P o a w (AOutB c a o β ob K) := by
        intro ob xs cells q cap hxv hf hxl hcl hcc hq0 hcap hxc hbytes hk
        have hyne : ys ≠ [] := fun h => by subst h; simp at hcap; omega
        obtain ⟨ad, rfl⟩ : ∃ ad, p = some ad := by
          cases p with
          | none => exact absurd (hp0 rfl) hyne
          | some ad => exact ⟨ad, rfl⟩
        have hlen : xs.length + ys.length ≤ 140737488355328 := Nat.le_trans (Nat.le_mul_of_pos_right _ hbs) hbytes
        have hge := grownCap_ge w (xs.length + ys.length) cap e
        have hcm := grownCap_le_maxLen w (xs.length + ys.length) cap e (by simp only [maxLen]; omega)
        have mk : ∀ (cs : Array Value), cs.toList = cells ++ news ++ (Builtin.zeroCells z0.cells (grownCap w (xs.length + ys.length) cap e - (xs.length + ys.length))).toList →
            (Builtin.append_ #[t, t] o.type #[a.eval x, a.eval y]).run c.P w = .ok (.slice (some ⟨w.heap.size, 0, none⟩) (xs.length + ys.length) (grownCap w (xs.length + ys.length) cap e)) (w.drew.alloc (.cells cs e)) → Run c.P o a w (AOutB c a o β ob K) := by
          intro cs hcs hrun
          refine fin ob xs cells _ _ none hf hxl hrun (.inl ⟨by simp [hcl, hnl, Nat.add_mul], .inr ⟨w.heap.size, _, cs, by simp, Nat.zero_le _, heap_alloc_new w.drew _, by simpa using hge, hcm, ?_, ?_⟩⟩) ⟨rfl, rfl, rfl, by simp, fun k hk _ => heap_alloc_old w.drew _ k hk⟩ (fun b hb => by cases hb) (fun b hb => ?_) hk
          · rw [← Array.length_toList, hcs]
            simp only [List.length_append, hcl, hnl, Array.length_toList, size_zeroCells, htz, ← Nat.add_mul]
            congr 1; omega
          · rw [hcs]
            have e1 : (xs ++ ys).length * ti.sz = (cells ++ news).length := by simp [hcl, hnl, Nat.add_mul]
            rw [e1, List.take_left]
          · left
            cases hcp : grownCap w (xs.length + ys.length) cap e with
            | zero => rw [hcp] at hb; cases hb
            | succ k => rw [hcp] at hb; cases hb; exact Nat.le_refl _
        cases q with
        | none =>
          obtain ⟨rfl, rfl⟩ := hq0 rfl
          obtain rfl : cells = [] := List.eq_nil_of_length_eq_zero (by simpa using hcl)
          have hpos : 0 < ys.length := by cases ys with | nil => exact absurd rfl hyne | cons => simp
          simp only [List.length_nil, Nat.zero_add] at hbytes hlen hcap mk
          refine mk _ ?_ (by rw [hxv, hyv]; exact run_append_nil (P := c.P) w t o.type e i z0 hst hi hz0 ad ys.length cp news (by rw [hnl, htsz]) (hnc ad rfl hyne) hpos (by omega) (by rw [htbs]; omega))
          simp
        | some bd =>
          have hnx : Builtin.nextslicecap (xs.length + ys.length) cap * i.bytes ≤ 281474976710656 := by
            have := nextslicecap_le hcap
            rw [htbs]
            calc _ ≤ (2 * (xs.length + ys.length)) * ti.bs := Nat.mul_le_mul_right _ this
              _ = 2 * ((xs.length + ys.length) * ti.bs) := by rw [Nat.mul_assoc]
              _ ≤ _ := by omega
          refine mk _ ?_ (by rw [hxv, hyv]; exact run_append_grow (P := c.P) w t o.type e i z0 hst hi hz0 bd xs.length cap cells (by rw [hcl, htsz]) (hcc bd rfl) ad ys.length cp news (by rw [hnl, htsz]) (hnc ad rfl hyne) hcap (by omega) hnx)
          simp
      split at hq
      · rename_i ob he
        rw [he] at hx
        split at hq
        · rename_i e' z' xs hm
          obtain ⟨rfl, rfl, hbytes, hk⟩ := hq
          obtain ⟨cells, hr, hf, hl⟩ := h.obj ob _ hm
          have hxv := hx.inv_own
          have hlen : xs.length + ys.length ≤ 140737488355328 := Nat.le_trans (Nat.le_mul_of_pos_right _ hbs) hbytes
          refine ⟨ob, fun o' e => by rw [he] at e; cases e; rfl, ?_⟩
          by_cases hyne : ys = []
          · -- nothing is appended
            subst hyne
            obtain rfl : news = [] := List.eq_nil_of_length_eq_zero (by simpa using hnl)
            have hrun : (Builtin.append_ #[t, t] o.type #[a.eval x, a.eval y]).run c.P w = .ok (a.eval x) w := by
              have hshape : ∃ q cap, a.eval x = .slice q xs.length cap ∧ xs.length ≤ cap := by
                rw [hxv]
                rcases hr.cells with ⟨_, h0, _, q, cap, hv⟩ | ⟨g, cap, cur, hv, _, hn, _⟩
                · exact ⟨q, cap, by rw [hv, h0], by omega⟩
                · exact ⟨_, cap, hv, hn⟩
              obtain ⟨q, cap, hv, hle⟩ := hshape
              have hfc : ∀ w : World, (Builtin.firstCells ti.sz 0 (.slice p 0 cp)).run c.P w = .ok #[] w := by
                intro w
                cases p <;> simp [Builtin.firstCells, loadCells, loadCellsFrom]
              simp only [List.length_nil] at hyv
              have hsf : ∀ (b : Option Addr), (if let some a := b then storeCells (a.add (xs.length * ti.sz)) (#[] : Array Value).toList else pure () : Sem Unit).run c.P w = .ok () w := by
                intro b; cases b <;> rfl
              rw [hv, hyv]
              simp only [Builtin.append_, List.getElem?_toArray, List.getElem?_cons_zero, List.getElem?_cons_succ, Sem.run_bind, run_under hst, Result.andThen_ok, run_size hti]
              cases q <;> simp [Builtin.lenOf, hle, hfc, storeCells]
            refine fin ob xs cells _ w (ownB (β ob)) hf hl hrun (by rw [hxv]; simpa using hr) ⟨rfl, rfl, rfl, Nat.le_refl _, fun _ _ _ => rfl⟩ (fun b hb => ⟨_, hm, hb⟩) (fun b hb => .inr (by rw [← hxv]; exact hb)) hk
          · rcases hr.cells with ⟨rfl, h0, hob, q, cap, hv⟩ | ⟨g, cap, cur, hv, hg, hn, hmx, hcpos, hcs, hcl, hkk⟩
            · have hxs : xs = [] := List.eq_nil_of_length_eq_zero h0
              subst hxs
              have hpos : 0 < ys.length := by cases ys with | nil => exact absurd rfl hyne | cons => simp
              have hcap0 : cap = 0 ∨ ∃ k, cap = k + 1 ∧ q = none := by
                cases cap with
                | zero => exact .inl rfl
                | succ k =>
                  cases q with
                  | none => exact .inr ⟨k, rfl, rfl⟩
                  | some ad => rw [hv] at hob; cases hob
              rcases hcap0 with rfl | ⟨k, rfl, rfl⟩
              · exact grow ob [] [] q 0 (hxv.trans hv) hf hl (by simp) (fun _ _ j v hj => by simp at hj) (fun _ => ⟨rfl, rfl⟩) (by simpa using hpos) (by simp) hbytes hk
              · exfalso
                rw [hv] at hr
                rcases hr with hr | ⟨_, _, p', e'⟩
                · rcases hr.2 with ⟨e', _⟩ | ⟨_, _, _, e', _⟩ <;> cases e'
                · cases e'
            · by_cases hroom : xs.length + ys.length ≤ cap
              · obtain ⟨ad, rfl⟩ : ∃ ad, p = some ad := by
                  cases p with
                  | none => exact absurd (hp0 rfl) hyne
                  | some ad => exact ⟨ad, rfl⟩
                have hfit : xs.length * i.size + news.length ≤ cur.size := by rw [hnl, hcs, htsz, ← Nat.add_mul]; exact Nat.mul_le_mul_right _ hroom
                have hrun := run_append_room (P := c.P) w t o.type _ i hst hi g xs.length cap cur hg ad ys.length cp news (by rw [hnl, htsz]) (hnc ad rfl hyne) h1 hroom hfit
                have hob : ownB (β ob) = some g := by rw [hv]; cases cap with | zero => omega | succ k => rfl
                refine fin ob xs cells _ _ (some g) hf hl (by rw [hxv, hv, hyv]; exact hrun) (.inl ⟨by simp [hcl, hnl, Nat.add_mul], .inr ⟨g, cap, _, by simp, Nat.zero_le _, setRow_heap w g cur _ _ _ hg, by simpa using hroom, hmx, ?_, ?_⟩⟩) ⟨rfl, rfl, rfl, by simp [World.setRow], fun k _ hk => setRow_other w g k _ (fun e => hk (by rw [e]))⟩ (fun b hb => ⟨_, hm, by rw [hob]; exact hb⟩) (fun b hb => .inr ?_) hk
                · rw [← htsz] at *
                  simp only [List.size_toArray, List.length_append, List.length_take, List.length_drop, Array.length_toList]
                  omega
                · rw [← htsz]
                  have hcl' : cells = cur.toList.take (xs.length * i.size) := by
                    apply List.ext_getElem?
                    intro k
                    rw [List.getElem?_take]
                    by_cases hk' : k < xs.length * i.size
                    · rw [if_pos hk']
                      have : k < cells.length := by rw [hcl, ← htsz]; exact hk'
                      rw [List.getElem?_eq_getElem this]
                      have := hkk k _ (List.getElem?_eq_getElem this)
                      simpa using this.symm
                    · rw [if_neg hk', List.getElem?_eq_none (by rw [hcl, ← htsz]; omega)]
                  have e1 : (xs ++ ys).length * i.size = (cells ++ news).length := by simp [hcl, hnl, htsz, Nat.add_mul]
                  rw [hcl'] at e1 ⊢
                  rw [e1, List.take_left]
                · cases cap with
                  | zero => omega
                  | succ k => cases hb; rfl
              · exact grow ob xs cells _ cap (hxv.trans hv) hf hl hcl (fun ad had j v hj => by cases had; rw [add_at, cell_at hg]; simpa using hkk j v hj) (fun h => by cases h) (by omega) hn hbytes hk
        · exact hq.elim
      · rename_i xs he
        rw [he] at hx
        obtain ⟨hyne, hxl, hbytes, hk⟩ := hq
        obtain ⟨q, n, hv, hr⟩ := hx.inv_cs
        refine ⟨d, fun o' e => (by rw [he] at e; cases e), ?_⟩
        have hpos : 0 < ys.length := by cases ys with | nil => exact absurd rfl hyne | cons => simp
        rcases hr.inv_sl with ⟨⟨q', e1⟩, rfl⟩ | ⟨b, off, n', cap, sz, arr, e', fr, e1, hn, hc1, hc2, hstb, hb, hall, hcell⟩
        · cases e1
          exact grow d [] [] q 0 hv F2.nil (by simp) (by simp) (fun _ _ j v hj => by simp at hj) (fun _ => ⟨rfl, rfl⟩) (by simpa using hpos) (by simp) hbytes hk
        · cases e1
          subst hn
          have hs : xs = [] ∨ sz = ti.sz := by
            cases xs with
            | nil => exact .inl rfl
            | cons x _ => exact .inr ((hall x (by simp)).symm.trans (hxl x (by simp)))
          have hfl : xs.flatten.length = xs.length * ti.sz := flat_len hxl
          have hflat : ∀ k d, xs.flatten[k]? = some d → ∃ u, arr[off + k]? = some u ∧ Rd (stF c σ β w) w u d := by
            intro k d' hk'
            rcases hs with rfl | rfl
            · simp at hk'
            · have hlt : k < xs.length * ti.sz := by rw [← hfl]; exact (List.getElem?_eq_some_iff.1 hk').1
              have hq' : k / ti.sz < xs.length := by rw [Nat.div_lt_iff_lt_mul hsz]; exact hlt
              have hx' : xs[k / ti.sz]? = some xs[k / ti.sz] := List.getElem?_eq_getElem hq'
              have hd' : xs[k / ti.sz][k % ti.sz]? = some (xs[k / ti.sz][k % ti.sz]'(by rw [hxl _ (List.getElem_mem hq')]; exact Nat.mod_lt _ hsz)) := List.getElem?_eq_getElem _
              have := flat_get hxl hx' hd'
              rw [Nat.div_add_mod' k ti.sz, hk'] at this
              obtain ⟨u, hu, hr⟩ := hcell _ _ _ _ hx' hd'
              rw [Nat.add_assoc, Nat.div_add_mod' k ti.sz] at hu
              exact ⟨u, hu, by cases this; exact hr⟩
          refine grow d xs ((List.range (xs.length * ti.sz)).map fun k => arr.getD (off + k) undef) _ xs.length hv ⟨by simp [hfl], fun k u d' hu hd' => ?_⟩ hxl (by simp) (fun ad had j v hj => ?_) (fun h => by cases h) (by omega) (Nat.le_refl _) hbytes hk
          · simp only [List.getElem?_map, Option.map_eq_some_iff] at hu
            obtain ⟨k', hk', rfl⟩ := hu
            obtain ⟨hlt, rfl⟩ := List.getElem?_eq_some_iff.1 hk'
            obtain ⟨u, hu, hr⟩ := hflat k d' hd'
            simp only [List.getElem_range, Array.getD_eq_getD_getElem?, hu]
            exact hr
          · cases had
            simp only [List.getElem?_map, Option.map_eq_some_iff] at hj
            obtain ⟨k', hk', rfl⟩ := hj
            obtain ⟨hlt, rfl⟩ := List.getElem?_eq_some_iff.1 hk'
            simp only [List.length_range] at hlt
            obtain ⟨u, hu, hr⟩ := hflat j _ (List.getElem?_eq_getElem (by rw [hfl]; exact hlt))
            rw [add_at, cell_at hb]
            simp only [List.getElem_range, Array.getD_eq_getD_getElem?, hu, Option.getD_some]
      · exact hq.elim
    · exact hq.elim
  · exact hq.elim
theorem appK_sound {t : TypeId} {x y : Operand} {k : Call} (h : Sim c σ β a w) (ho : o.op = .call k) (hc : k.callee = .builtin .append) (hargs : k.args = #[x, y]) (hty : k.argTypes = #[t, t])
    (hd : ∀ d, o.dst = some d → d < c.N) (hq : appK c.P σ t (σ.eval c.gl x) (σ.eval c.gl y) o.dst K) : Run c.P o a w (AOut c a o K) := by
  obtain ⟨ob, _, hr⟩ := appK_soundB h ho hc hargs hty hd hq
  exact hr.mono fun v w' ⟨σ', β', hk, _, hs⟩ => ⟨σ', β', hk, hs⟩
end
end Go.VC
