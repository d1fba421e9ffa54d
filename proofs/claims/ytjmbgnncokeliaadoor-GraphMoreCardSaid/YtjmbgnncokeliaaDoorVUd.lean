/- The reference's table, name by name, is the program's. -/
import Derived.Test.YtjmbgnncokeliaaDoorVTo
set_option linter.unusedSimpArgs false
set_option linter.unusedVariables false
namespace Go.VC
open Go.RowKit Go.Proofs Go.IntWalk
/-- Of one name, behind k events: what the program's keeper tells is as the reference's words tell it. -/
structure Told (h : List Ev) (k : Nat) (kp : Kp) : Prop where
  fl : flTo h kp.name k = (kp.first, kp.last)
  st : kp.st = stateOf (lastK (h.take k) kp.name)
  ops : kp.ops = opsTo h kp.name k
  ask : lastK (h.take k) kp.name = 2 ∨ lastK (h.take k) kp.name = 4 → kp.ask = lastEv (h.take k) kp.name
  pos : 0 ≤ kp.first
theorem told_other {h : List Ev} {k : Nat} {kp : Kp} (hk : k < h.length) (hne : h[k].tx ≠ kp.name) (t : Told h k kp) : Told h (k + 1) kp := by
  obtain ⟨a, b, c, d, e⟩ := t
  have hx : h[k]? = some h[k] := List.getElem?_eq_getElem hk
  have hl : lastK (h.take (k + 1)) kp.name = lastK (h.take k) kp.name := by rw [last_s hk, lastStep, if_neg hne]
  refine ⟨?_, ?_, ?_, ?_, e⟩
  · simp only [flTo, hx, if_neg hne]; exact a
  · rw [hl]; exact b
  · simp only [opsTo, hx, if_neg hne, List.append_nil]; exact c
  · rw [hl, lastEv_s hk, if_neg hne]; exact d
theorem may_got {l : Int} (h : may l 3 = true) : l = 2 := by
  unfold may at h; (repeat' split at h) <;> simp_all
theorem may_wrote {l : Int} (h : may l 5 = true) : l = 4 := by
  unfold may at h; (repeat' split at h) <;> simp_all
theorem told_take {h : List Ev} {k : Nat} {kp : Kp} (hk : k < h.length) (he : h[k].tx = kp.name) (hm : may (lastK (h.take k) kp.name) h[k].kind = true) (t : Told h k kp) : Told h (k + 1) (takeK kp k h[k]) := by
  obtain ⟨a, b, c, d, e⟩ := t
  have hx : h[k]? = some h[k] := List.getElem?_eq_getElem hk
  have hn := @takeK_name kp k h[k]
  have hl : lastK (h.take (k + 1)) kp.name = h[k].kind := by rw [last_s hk, lastStep, if_pos he]
  have hev : lastEv (h.take (k + 1)) kp.name = h[k] := by rw [lastEv_s hk, if_pos he]
  have hf : (takeK kp k h[k]).first = kp.first := by unfold takeK; (repeat' split) <;> rfl
  have hla : (takeK kp k h[k]).last = k := by unfold takeK; (repeat' split) <;> rfl
  refine ⟨?_, ?_, ?_, ?_, by rw [hf]; exact e⟩
  · rw [hn, hf, hla]
    simp only [flTo, hx, if_pos he, a, if_neg (show ¬ kp.first < 0 by omega)]
  · rw [hn, hl]
    unfold takeK stateOf
    by_cases h24 : h[k].kind = 2 ∨ h[k].kind = 4
    · rw [if_pos h24]; rcases h24 with h2 | h2 <;> simp [h2]
    · by_cases h3 : h[k].kind = 3
      · simp [h3]
      · by_cases h5 : h[k].kind = 5
        · simp [h5]
        · rw [if_neg h24, if_neg h3, if_neg h5]
          by_cases h6 : h[k].kind = 6
          · simp [h6]
          · by_cases h7 : h[k].kind = 7
            · simp [h7]
            · by_cases h9 : h[k].kind = 9 <;> simp [h6, h7, h9]
  · rw [hn]
    simp only [opsTo, hx, if_pos he]
    unfold takeK
    by_cases h24 : h[k].kind = 2 ∨ h[k].kind = 4
    · rw [if_pos h24]
      rw [if_neg (by omega), if_neg (by omega)]; simpa using c
    · by_cases h3 : h[k].kind = 3
      · rw [h3] at hm
        have hask := d (.inl (may_got hm))
        rw [if_neg h24, if_pos h3, if_pos h3, if_neg (by omega)]
        simp [c, hask]
      · by_cases h5 : h[k].kind = 5
        · rw [h5] at hm
          have hask := d (.inr (may_wrote hm))
          rw [if_neg h24, if_neg h3, if_pos h5, if_neg h3, if_pos h5]
          simp [c, hask]
        · rw [if_neg h24, if_neg h3, if_neg h5, if_neg h3, if_neg h5]; simpa using c
  · rw [hn, hl, hev]
    intro h24
    unfold takeK
    rw [if_pos h24]
theorem pos_none {n : Int} : ∀ {ks : List Kp}, pos ks n = none → ∀ kp ∈ ks, kp.name ≠ n
  | [], _, kp, h => by cases h
  | k :: ks, hp, kp, h => by
    simp only [pos] at hp
    split at hp
    · cases hp
    · rename_i hk
      rcases List.mem_cons.1 h with rfl | h
      · exact hk
      · exact pos_none (Option.map_eq_none_iff.1 hp) kp h
structure TabT (h : List Ev) (k : Nat) : Prop where
  names : (tabAt h k).map Kp.name = namesE (h.take k)
  nodup : ((tabAt h k).map Kp.name).Nodup
  told : ∀ kp ∈ tabAt h k, Told h k kp
  other : ∀ n, (∀ kp ∈ tabAt h k, kp.name ≠ n) → flTo h n k = (-1, 0) ∧ opsTo h n k = [] ∧ lastK (h.take k) n = -1
theorem tabT {h : List Ev} (hw : WFl h) : ∀ k, k ≤ h.length → TabT h k
  | 0, _ => ⟨rfl, by simp [tabAt], fun kp hk => by simp [tabAt] at hk, fun n _ => ⟨rfl, rfl, rfl⟩⟩
  | k + 1, hk => by
    obtain ⟨a, b, c, d⟩ := tabT hw k (by omega)
    have hkl : k < h.length := by omega
    have hx : h[k]? = some h[k] := List.getElem?_eq_getElem hkl
    have hm : may (lastK (h.take k) h[k].tx) h[k].kind = true := hw (h.take k) h[k] (h.drop (k + 1)) (by rw [← List.drop_eq_getElem_cons hkl, List.take_append_drop])
    have hany : (namesE (h.take k)).any (fun y => h[k].tx == y) = (pos (tabAt h k) h[k].tx).isSome := by
      rw [← a]
      cases hp : pos (tabAt h k) h[k].tx with
      | none =>
        have := pos_none hp
        simp only [List.any_map, Option.isSome_none, List.any_eq_false, Function.comp, beq_iff_eq]
        exact fun kp hkp e => this kp hkp e.symm
      | some j =>
        obtain ⟨kp, h1, h2⟩ := pos_at hp
        simp only [List.any_map, Option.isSome_some, List.any_eq_true, Function.comp, beq_iff_eq]
        exact ⟨kp, List.mem_of_getElem? h1, h2.symm⟩
    cases hp : pos (tabAt h k) h[k].tx with
    | some j =>
      obtain ⟨kp, h1, h2⟩ := pos_at hp
      have hset := tab_set hx hp h1
      have hjl := (List.getElem?_eq_some_iff.1 h1).1
      have hmap : (tabAt h (k + 1)).map Kp.name = (tabAt h k).map Kp.name := by
        rw [hset, List.map_set, takeK_name]
        refine List.ext_getElem? fun i => ?_
        rw [List.getElem?_set]
        split
        · rename_i e; subst e
          rw [if_pos (by simpa using hjl), List.getElem?_map, h1]; rfl
        · rfl
      refine ⟨?_, by rw [hmap]; exact b, fun kp' hk' => ?_, fun n hn => ?_⟩
      · rw [hmap, names_s hkl, nameStep, hany, hp, a]; rfl
      · rw [hset] at hk'
        obtain ⟨i, hi⟩ := List.getElem?_of_mem hk'
        rw [List.getElem?_set] at hi
        split at hi
        · cases hi
          exact told_take hkl h2.symm (by rw [h2]; exact hm) (c kp (List.mem_of_getElem? h1))
        · rename_i hne
          refine told_other hkl (fun e => hne ?_) (c kp' (List.mem_of_getElem? hi))
          have e1 : ((tabAt h k).map Kp.name)[j]? = some h[k].tx := by rw [List.getElem?_map, h1]; exact congrArg some h2
          have e2 : ((tabAt h k).map Kp.name)[i]? = some h[k].tx := by rw [List.getElem?_map, hi]; exact congrArg some e.symm
          have hj2 := (List.getElem?_eq_some_iff.1 e1)
          have hi2 := (List.getElem?_eq_some_iff.1 e2)
          exact (List.getElem_inj b).1 (hj2.2.trans hi2.2.symm)
      · have hn' : ∀ kp ∈ tabAt h k, kp.name ≠ n := fun kp' hk' e => by
          have : n ∈ (tabAt h (k + 1)).map Kp.name := by rw [hmap]; exact List.mem_map.2 ⟨kp', hk', e⟩
          obtain ⟨q, hq, e'⟩ := List.mem_map.1 this
          exact hn q hq e'
        have hne : h[k].tx ≠ n := fun e => hn' kp (List.mem_of_getElem? h1) (h2.trans e)
        obtain ⟨d1, d2, d3⟩ := d n hn'
        refine ⟨?_, ?_, ?_⟩
        · simp only [flTo, hx, if_neg hne]; exact d1
        · simp only [opsTo, hx, if_neg hne, List.append_nil]; exact d2
        · rw [last_s hkl, lastStep, if_neg hne]; exact d3
    | none =>
      have happ := tab_app hx hp
      have hno := pos_none hp
      obtain ⟨d1, d2, d3⟩ := d h[k].tx hno
      rw [d3] at hm
      have hk0 : h[k].kind = 0 := by unfold may at hm; simpa using hm
      have hnm : (newKp k h[k]).name = h[k].tx := by rw [newKp, takeK_name]
      refine ⟨?_, ?_, fun kp' hk' => ?_, fun n hn => ?_⟩
      · rw [happ, List.map_append, names_s hkl, nameStep, hany, hp, a]; simp [hnm]
      · rw [happ, List.map_append, List.nodup_append]
        refine ⟨b, by simp, ?_⟩
        intro x hx1 y hy1 e
        simp only [List.map_cons, List.map_nil, List.mem_singleton, hnm] at hy1
        obtain ⟨q, hq, rfl⟩ := List.mem_map.1 hx1
        exact hno q hq (e.trans hy1)
      · rw [happ] at hk'
        rcases List.mem_append.1 hk' with h1 | h1
        · exact told_other hkl (fun e => hno kp' h1 e.symm) (c kp' h1)
        · simp only [List.mem_singleton] at h1
          subst h1
          have hl : lastK (h.take (k + 1)) h[k].tx = 0 := by rw [last_s hkl, lastStep, if_pos rfl, hk0]
          have e1 : newKp k h[k] = ⟨h[k].tx, k, k, 0, [], ⟨0, 0, 0, 0⟩⟩ := by simp [newKp, takeK, hk0]
          rw [e1]
          refine ⟨?_, ?_, ?_, ?_, by simp⟩
          · simp only [flTo, hx, if_true, d1]; simp
          · show (0 : Int) = stateOf (lastK (h.take (k + 1)) h[k].tx); rw [hl]; rfl
          · show [] = opsTo h h[k].tx (k + 1)
            simp only [opsTo, hx, if_true, d2, hk0]; simp
          · show lastK (h.take (k + 1)) h[k].tx = 2 ∨ lastK (h.take (k + 1)) h[k].tx = 4 → _
            rw [hl]; intro h; simp at h
      · rw [happ] at hn
        have hne : h[k].tx ≠ n := fun e => hn _ (List.mem_append_right _ (List.mem_singleton.2 rfl)) (hnm.trans e)
        obtain ⟨d1, d2, d3⟩ := d n fun kp hk => hn kp (List.mem_append_left _ hk)
        refine ⟨?_, ?_, ?_⟩
        · simp only [flTo, hx, if_neg hne]; exact d1
        · simp only [opsTo, hx, if_neg hne, List.append_nil]; exact d2
        · rw [last_s hkl, lastStep, if_neg hne]; exact d3
/-- The program's transactions. -/
def txns (h : List Ev) : List Txn := if checkE h = 0 then (tabOf h).map Kp.txn else []
theorem check_wfl {h : List Ev} (h0 : checkE h = 0) : WFl h := by
  have hr : rightH h = true := by
    cases hr : rightH h with
    | true => rfl
    | false => rw [check_arg.2 hr] at h0; cases h0
  exact (check_wf hr).1 h0
theorem table_eq {h : List Ev} (h0 : checkE h = 0) : refTab h = txns h := by
  have T := tabT (check_wfl h0) h.length (Nat.le_refl _)
  have hn := T.names
  rw [List.take_length] at hn
  unfold txns refTab
  rw [if_pos h0, ← hn, List.map_map]
  refine List.map_congr_left fun kp hk => ?_
  obtain ⟨a, b, c, _, _⟩ := T.told kp hk
  rw [List.take_length] at b
  simp only [Function.comp, refTxn, Kp.txn, a, b, c]
end Go.VC
