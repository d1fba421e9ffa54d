import Derived.OrdersIn
import Derived.RangeFuncIn
import Derived.RangeFuncNested
import Derived.RangeFuncLeaves
import Derived.Maps.AppendAt
import Derived.Laws.MakeOwn
import Derived.Below
import Derived.MapKept
import Derived.Laws.StructEq
set_option linter.unusedVariables false
set_option linter.unusedSimpArgs false
set_option linter.unnecessarySimpa false
set_option linter.defProp false
set_option maxRecDepth 100000
section
namespace Go.VC
open Go.RowKit
def F2 {α β : Type} (r : α → β → Prop) (l : List α) (l' : List β) : Prop :=
 l.length = l'.length ∧ ∀ (i : Nat) (a : α) (b : β), l[i]? = some a → l'[i]? = some b → r a b
section
variable {α β : Type} {r r' : α → β → Prop} {l l1 : List α} {l' l1' : List β}
theorem F2.nil : F2 r [] [] := ⟨rfl, fun i a b h => by simp at h⟩
theorem F2.cons {a : α} {b : β} (h : r a b) (t : F2 r l l') : F2 r (a :: l) (b :: l') :=
 ⟨by simp [t.1], fun i x y hx hy => by
  cases i with
  | zero => simp at hx hy; subst hx; subst hy; exact h
  | succ i => exact t.2 i x y (by simpa using hx) (by simpa using hy)⟩
theorem F2.mono (h : F2 r l l') (k : ∀ a b, r a b → r' a b) : F2 r' l l' := ⟨h.1, fun i a b x y => k _ _ (h.2 i a b x y)⟩
theorem F2.uncons {a : α} {l2 : List α} {b : β} {l2' : List β} (h : F2 r (a :: l2) (b :: l2')) : r a b ∧ F2 r l2 l2' :=
 ⟨h.2 0 a b rfl rfl, by simpa using h.1, fun i x y hx hy => h.2 (i + 1) x y (by simpa using hx) (by simpa using hy)⟩
theorem F2.of_nil {l : List α} (h : F2 r l ([] : List β)) : l = [] := List.eq_nil_of_length_eq_zero h.1
theorem F2.of_cons {l : List α} {b : β} {t : List β} (h : F2 r l (b :: t)) : ∃ a s, l = a :: s ∧ r a b ∧ F2 r s t := by
 cases l with
 | nil => exact absurd h.1 (by simp)
 | cons a s => exact ⟨a, s, rfl, h.uncons.1, h.uncons.2⟩
theorem F2.append (h : F2 r l l') (k : F2 r l1 l1') : F2 r (l ++ l1) (l' ++ l1') := by
 refine ⟨by simp [h.1, k.1], fun i a b x y => ?_⟩
 rw [List.getElem?_append] at x y
 by_cases hi : i < l.length
 ·rw [if_pos hi] at x; rw [if_pos (by rw [← h.1]; exact hi)] at y; exact h.2 i a b x y
 ·rw [if_neg hi] at x; rw [if_neg (by rw [← h.1]; exact hi)] at y; rw [← h.1] at y; exact k.2 _ a b x y
theorem F2.set {a : α} {b : β} (h : F2 r l l') (hr : r a b) (n : Nat) : F2 r (l.set n a) (l'.set n b) := by
 refine ⟨by simp [h.1], fun i x y hx hy => ?_⟩
 rw [List.getElem?_set] at hx hy
 by_cases hn : n = i
 ·subst hn
  rw [if_pos rfl] at hx hy
  by_cases hl : n < l.length
  ·rw [if_pos hl] at hx; rw [if_pos (by rw [← h.1]; exact hl)] at hy
   cases hx; cases hy; exact hr
  ·rw [if_neg hl] at hx; cases hx
 ·rw [if_neg hn] at hx hy; exact h.2 i x y hx hy
theorem F2.take (h : F2 r l l') (n : Nat) : F2 r (l.take n) (l'.take n) := by
 refine ⟨by simp [h.1], fun i x y hx hy => ?_⟩
 rw [List.getElem?_take] at hx hy
 split at hx
 ·rw [if_pos ‹_›] at hy; exact h.2 i x y hx hy
 ·cases hx
theorem F2.drop (h : F2 r l l') (n : Nat) : F2 r (l.drop n) (l'.drop n) := by
 refine ⟨by simp [h.1], fun i x y hx hy => ?_⟩
 rw [List.getElem?_drop] at hx hy
 exact h.2 _ x y hx hy
theorem F2.get (h : F2 r l l') {i : Nat} {b : β} (hb : l'[i]? = some b) : ∃ a, l[i]? = some a ∧ r a b := by
 have hi : i < l'.length := (List.getElem?_eq_some_iff.1 hb).1
 exact ⟨l[i]'(by rw [h.1]; exact hi), by simp, h.2 i _ _ (by simp) hb⟩
theorem F2.map {γ δ : Type} {s : γ → δ → Prop} {f : γ → α} {g : δ → β} {m : List γ} {m' : List δ} (h : F2 s m m') (k : ∀ a b, s a b → r (f a) (g b)) : F2 r (m.map f) (m'.map g) :=
 ⟨by simp [h.1], fun i a b x y => by
  simp only [List.getElem?_map, Option.map_eq_some_iff] at x y
  obtain ⟨x', hx, rfl⟩ := x
  obtain ⟨y', hy, rfl⟩ := y
  exact k _ _ (h.2 i x' y' hx hy)⟩
end
inductive D where
 | v (x : Value)
 | sl (xs : List (List D))
 | pt (cs : List D)
 | fn (f : FuncId) (caps : List D)
 | mp (kv : List (Int × D))
inductive A where
 | d (x : D)
 | ag (xs : List D)
instance : Inhabited D := ⟨.v undef⟩
inductive Rd (st : Nat → Prop) (w : World) : Value → D → Prop
 | v {x : Value} (h : x.oneCell' = true) : Rd st w x (.v x)
 | nil {p : Option Addr} : Rd st w (.slice p 0 0) (.sl [])
 | sl {b off cap sz n : Nat} {arr : Array Value} {e : TypeId} {fr : Nat × Nat} {xs : List (List D)} {vs : Nat → Nat → Value}
   (hst : st b) (hb : w.heap[b]? = some (.cells arr e fr)) (hn : n = xs.length) (hcap : n ≤ cap) (hm : cap ≤ maxLen) (hlen : ∀ x ∈ xs, x.length = sz)
   (hc : ∀ i, i < xs.length → ∀ j, j < sz → arr[off + i * sz + j]? = some (vs i j))
   (hd : ∀ (i : Nat) (x : List D) (j : Nat) (d : D), xs[i]? = some x → x[j]? = some d → Rd st w (vs i j) d) :
   Rd st w (.slice (some ⟨b, off, none⟩) n cap) (.sl xs)
 | pt {b off : Nat} {arr : Array Value} {e : TypeId} {fr : Nat × Nat} {cs : List D} {vs : Nat → Value}
   (hst : st b) (hb : w.heap[b]? = some (.cells arr e fr)) (hc : ∀ j, j < cs.length → arr[off + j]? = some (vs j))
   (hd : ∀ (j : Nat) (d : D), cs[j]? = some d → Rd st w (vs j) d) : Rd st w (.pointer (some ⟨b, off, none⟩)) (.pt cs)
 | fn {f : FuncId} {caps : List D} {vs : List Value} (hl : vs.length = caps.length)
   (hd : ∀ (j : Nat) (d : D) (v : Value), caps[j]? = some d → vs[j]? = some v → Rd st w v d) : Rd st w (.func (.func f) #[] vs.toArray) (.fn f caps)
 | mpn : Rd st w (.map none) (.mp [])
 | mp {r clock : Nat} {es : Array MapEntry} {kv : List (Int × D)} {vs : Nat → Value} (hst : st r) (hb : w.heap[r]? = some (.map es clock)) (hl : es.size = kv.length) (hs : MapKept.Stamped es clock)
   (hk : ∀ (i : Nat) (e : MapEntry) (p : Int × D), es[i]? = some e → kv[i]? = some p → e.key = .int .i64 p.1 ∧ e.val = vs i)
   (hd : ∀ (i : Nat) (p : Int × D), kv[i]? = some p → Rd st w (vs i) p.2) : Rd st w (.map (some r)) (.mp kv)
theorem Rd.mono {st st' : Nat → Prop} {w w' : World} (H : ∀ b, st b → st' b ∧ w'.heap[b]? = w.heap[b]?) {v : Value} {d : D} (h : Rd st w v d) : Rd st' w' v d := by
 induction h with
 | v h => exact .v h
 | nil => exact .nil
 | sl hst hb hn hcap hm hlen hc _ ih => exact .sl (H _ hst).1 ((H _ hst).2.trans hb) hn hcap hm hlen hc ih
 | pt hst hb hc _ ih => exact .pt (H _ hst).1 ((H _ hst).2.trans hb) hc ih
 | fn hl _ ih => exact .fn hl ih
 | mpn => exact .mpn
 | mp hst hb hl hs hk _ ih => exact .mp (H _ hst).1 ((H _ hst).2.trans hb) hl hs hk ih
theorem Rd.one {st : Nat → Prop} {w : World} {v : Value} {d : D} (h : Rd st w v d) : v.oneCell' = true := by
 cases h <;> first | assumption | rfl
def RelA (st : Nat → Prop) (w : World) (v : Value) : A → Prop
 | .d x => Rd st w v x
 | .ag xs => ∃ cs : List Value, v = .agg cs.toArray ∧ F2 (Rd st w) cs xs
theorem RelA.mono {st st' : Nat → Prop} {w w' : World} (H : ∀ b, st b → st' b ∧ w'.heap[b]? = w.heap[b]?) {v : Value} {x : A} (h : RelA st w v x) : RelA st' w' v x := by
 cases x with
 | d x => exact Rd.mono H h
 | ag xs => obtain ⟨cs, e, k⟩ := h; exact ⟨cs, e, k.mono fun _ _ => Rd.mono H⟩
def ownB : Value → Option Nat
 | .pointer (some a) => some a.block
 | .slice (some a) _ (_ + 1) => some a.block
 | .map (some r) => some r
 | _ => none
inductive R where
 | any
 | a (x : A)
 | cs (xs : List (List D))
 | ref (o off : Nat)
 | eref (o i sz j : Nat)
 | own (o : Nat)
 | omp (o : Nat)
 | clo (f : FuncId) (caps : List (Nat × Nat))
 | tp (xs : List R)
 | sem (os : List Nat) (p : (Nat → Value) → Value → Prop)
 | agr (xs : List R)
instance : Inhabited R := ⟨.any⟩
structure SemOb where
 os : List Nat
 p : (Nat → Value) → (Nat → Prop) → World → Value → Prop
 lt : ∀ {β : Nat → Value} {st : Nat → Prop} {w : World} {bv : Value}, p β st w bv → ∀ b, ownB bv = some b → b < w.heap.size
 mono : ∀ {β : Nat → Value} {st st' : Nat → Prop} {w w' : World} {bv : Value}, (∀ b, st b → st' b ∧ w'.heap[b]? = w.heap[b]?) → p β st w bv → (∀ b, ownB bv = some b → w'.heap[b]? = w.heap[b]?) → p β st' w' bv
 dep : ∀ {β β' : Nat → Value} {st : Nat → Prop} {w : World} {bv : Value}, (∀ o ∈ os, β' o = β o) → p β st w bv → p β' st w bv
inductive Ob where
 | box (cs : List R)
 | log (e : TypeId) (sz : Nat) (xs : List (List D))
 | mpo (kv : List (Int × D))
 | iter (kv : List (Int × D)) (seen : List Nat)
 | frame (vs : List Value) (rs : Nat → R)
 | sem (x : SemOb)
 | lost
inductive RelR (β : Nat → Value) (st : Nat → Prop) (w : World) : Value → R → Prop
 | any {v : Value} : RelR β st w v .any
 | a {v : Value} {x : A} (h : RelA st w v x) : RelR β st w v (.a x)
 | cs {p : Option Addr} {n : Nat} {xs : List (List D)} (h : Rd st w (.slice p n n) (.sl xs)) : RelR β st w (.slice p n n) (.cs xs)
 | ref {o off b : Nat} (h : β o = .pointer (some ⟨b, 0, none⟩)) : RelR β st w (.pointer (some ⟨b, off, none⟩)) (.ref o off)
 | eref {o i sz j b n c : Nat} (h : β o = .slice (some ⟨b, 0, none⟩) n c) : RelR β st w (.pointer (some ⟨b, i * sz + j, none⟩)) (.eref o i sz j)
 | own {o : Nat} {v : Value} (h : β o = v) (h1 : v.oneCell' = true) : RelR β st w v (.own o)
 | omp {o : Nat} {v : Value} (h : β o = v) (h1 : v.oneCell' = true) : RelR β st w v (.omp o)
 | clo {f : FuncId} {caps : List (Nat × Nat)} {vs : List Value}
   (h : F2 (fun v c => ∃ b, β c.1 = .pointer (some ⟨b, 0, none⟩) ∧ v = .pointer (some ⟨b, c.2, none⟩)) vs caps) : RelR β st w (.func (.func f) #[] vs.toArray) (.clo f caps)
 | tp {vs : List Value} {xs : List R} (hl : vs.length = xs.length)
   (hd : ∀ (j : Nat) (v : Value) (r : R), vs[j]? = some v → xs[j]? = some r → RelR β st w v r) : RelR β st w (.tuple vs.toArray) (.tp xs)
 | agr {vs : List Value} {xs : List R} (hl : vs.length = xs.length) (h1 : ∀ v ∈ vs, v.oneCell' = true)
   (hd : ∀ (j : Nat) (v : Value) (r : R), vs[j]? = some v → xs[j]? = some r → RelR β st w v r) : RelR β st w (.agg vs.toArray) (.agr xs)
 | sem {os : List Nat} {p : (Nat → Value) → Value → Prop} {v : Value} (h : p β v) (hp : ∀ β', (∀ o ∈ os, β' o = β o) → p β' v) : RelR β st w v (.sem os p)
def R.says0 (o : Nat) : R → Bool
 | .ref o' _ | .own o' | .omp o' | .eref o' _ _ _ => o' == o
 | .clo _ caps => caps.any fun c => c.1 == o
 | .tp _ | .agr _ => true
 | .sem os _ => os.any fun o' => o' == o
 | _ => false
def R.says (o : Nat) : R → Bool
 | .tp xs | .agr xs => xs.any (R.says0 o)
 | r => r.says0 o
def R.kill (o : Nat) (r : R) : R := if r.says o then .any else r
def Ob.kill (o : Nat) : Ob → Ob
 | .box cs => .box (cs.map (R.kill o))
 | .frame vs rs => .frame vs fun t => (rs t).kill o
 | .sem x => if x.os.any (fun o' => o' == o) then .lost else .sem x
 | x => x
theorem RelR.mono {β : Nat → Value} {st st' : Nat → Prop} {w w' : World} (H : ∀ b, st b → st' b ∧ w'.heap[b]? = w.heap[b]?) {v : Value} {r : R} (h : RelR β st w v r) : RelR β st' w' v r := by
 induction h with
 | any => exact .any
 | a h => exact .a (h.mono H)
 | cs h => exact .cs (h.mono H)
 | ref h => exact .ref h
 | eref h => exact .eref h
 | own h h1 => exact .own h h1
 | omp h h1 => exact .omp h h1
 | clo h => exact .clo h
 | tp hl _ ih => exact .tp hl ih
 | agr hl h1 _ ih => exact .agr hl h1 ih
 | sem h hp => exact .sem h hp
theorem RelR.turn {β β' : Nat → Value} {st : Nat → Prop} {w : World} {o : Nat} (H : ∀ o', o' ≠ o → β' o' = β o') {v : Value} {r : R} (h : RelR β st w v r) : RelR β' st w v (r.kill o) := by
 have flat : ∀ {v : Value} {r : R}, RelR β st w v r → r.says0 o = false → RelR β' st w v r := by
  intro v r h
  cases h with
  | any => exact fun _ => .any
  | a h => exact fun _ => .a h
  | cs h => exact fun _ => .cs h
  | ref h => intro k; simp [R.says0] at k; exact .ref ((H _ k).trans h)
  | eref h => intro k; simp [R.says0] at k; exact .eref ((H _ k).trans h)
  | own h h1 => intro k; simp [R.says0] at k; exact .own ((H _ k).trans h) h1
  | omp h h1 => intro k; simp [R.says0] at k; exact .omp ((H _ k).trans h) h1
  | clo h =>
   intro k
   simp only [R.says0, List.any_eq_false, beq_iff_eq] at k
   refine .clo ⟨h.1, fun i v c hv hc => ?_⟩
   obtain ⟨b, hb, e⟩ := h.2 i v c hv hc
   exact ⟨b, (H _ (k c (List.mem_of_getElem? hc))).trans hb, e⟩
  | tp hl hd => intro k; simp [R.says0] at k
  | agr hl h1 hd => intro k; simp [R.says0] at k
  | sem h hp =>
   intro k
   simp only [R.says0, List.any_eq_false, beq_iff_eq] at k
   have e : ∀ o' ∈ _, β' o' = β o' := fun o' ho' => H o' (k o' ho')
   exact .sem (hp _ e) fun β2 h2 => hp β2 fun o' ho' => (h2 o' ho').trans (e o' ho')
 unfold R.kill
 split
 ·exact .any
 ·rename_i hk
  cases h with
  | tp hl hd =>
   refine .tp hl fun j v r hv hr => flat (hd j v r hv hr) ?_
   simp only [R.says, Bool.not_eq_true, List.any_eq_false] at hk
   simpa using hk r (List.mem_of_getElem? hr)
  | agr hl h1 hd =>
   refine .agr hl h1 fun j v r hv hr => flat (hd j v r hv hr) ?_
   simp only [R.says, Bool.not_eq_true, List.any_eq_false] at hk
   simpa using hk r (List.mem_of_getElem? hr)
  | any => exact .any
  | a h => exact .a h
  | cs h => exact .cs h
  | ref h => exact flat (.ref h) (by simpa [R.says] using hk)
  | eref h => exact flat (.eref h) (by simpa [R.says] using hk)
  | own h h1 => exact flat (.own h h1) (by simpa [R.says] using hk)
  | omp h h1 => exact flat (.omp h h1) (by simpa [R.says] using hk)
  | clo h => exact flat (.clo h) (by simpa [R.says] using hk)
  | sem h hp => exact flat (.sem h hp) (by simpa [R.says] using hk)
def RowIs (w : World) (e : TypeId) (sz : Nat) (v : Value) (n : Nat) (cells : List Value) : Prop :=
 w.ownsRow 0 e sz v n cells ∨ (n = 0 ∧ cells = [] ∧ ∃ p, v = .slice p 0 0)
def ObRel (β : Nat → Value) (st : Nat → Prop) (w : World) (bv : Value) : Ob → Prop
 | .box cs => ∃ (b : Nat) (arr : Array Value) (e : TypeId), bv = .pointer (some ⟨b, 0, none⟩) ∧ w.heap[b]? = some (.cells arr e (0, 0)) ∧
   F2 (fun v r => v.oneCell' = true ∧ RelR β st w v r) arr.toList cs
 | .log e sz xs => ∃ cells : List Value, RowIs w e sz bv xs.length cells ∧ F2 (Rd st w) cells xs.flatten ∧ ∀ x ∈ xs, x.length = sz
 | .mpo kv => ∃ (r clock : Nat) (es : Array MapEntry) (vs : Nat → Value), bv = .map (some r) ∧ w.heap[r]? = some (.map es clock) ∧ es.size = kv.length ∧ MapKept.Stamped es clock ∧
   (∀ (i : Nat) (e : MapEntry) (p : Int × D), es[i]? = some e → kv[i]? = some p → e.key = .int .i64 p.1 ∧ e.val = vs i) ∧
   (∀ (i : Nat) (p : Int × D), kv[i]? = some p → Rd st w (vs i) p.2)
 | .iter kv seen => ∃ b : Nat, bv = .pointer (some ⟨b, 0, none⟩) ∧ ((kv = [] ∧ seen = [] ∧ w.heap[b]? = some (.mapIter none 0 #[] 0)) ∨
   ∃ (m clock : Nat) (es : Array MapEntry) (vs : Nat → Value) (arr : Array Nat), st m ∧ w.heap[b]? = some (.mapIter (some m) clock arr clock) ∧ w.heap[m]? = some (.map es clock) ∧ es.size = kv.length ∧ MapKept.Stamped es clock ∧
    (∀ (i : Nat) (e : MapEntry) (p : Int × D), es[i]? = some e → kv[i]? = some p → e.key = .int .i64 p.1 ∧ e.val = vs i) ∧
    (∀ (i : Nat) (p : Int × D), kv[i]? = some p → Rd st w (vs i) p.2) ∧ F2 (fun s i => ∃ e, es[i]? = some e ∧ e.born = s) arr.toList seen)
 | .frame vs rs => ownB bv = none ∧ ∀ t, RelR β st w (vs.getD t undef) (rs t)
 | .sem x => x.p β st w bv
 | .lost => ∀ b, ownB bv = some b → b < w.heap.size
theorem RowIs.same {w w' : World} {e : TypeId} {sz n : Nat} {v : Value} {cells : List Value} (h : RowIs w e sz v n cells) (H : ∀ b, ownB v = some b → w'.heap[b]? = w.heap[b]?) (h0 : ∀ a m, v = .slice (some a) m 0 → w'.heap[a.block]? = w.heap[a.block]?) : RowIs w' e sz v n cells := by
 rcases h with h | h
 ·refine .inl ⟨h.1, ?_⟩
  rcases h.2 with k | ⟨g, cap, cur, rfl, hb, hg, rest⟩
  ·exact .inl k
  ·refine .inr ⟨g, cap, cur, rfl, hb, ?_, rest⟩
   cases cap with
   | zero => exact (h0 _ _ rfl).trans hg
   | succ c => exact (H g rfl).trans hg
 ·exact .inr h
theorem RowIs.low {w : World} {e : TypeId} {sz n : Nat} {v : Value} {cells : List Value} (h : RowIs w e sz v n cells) : RowIs w e sz v n cells ∧ ∀ a m, v = .slice (some a) m 0 → (n = 0 ∧ cells = [] ∧ ∃ p, v = .slice p 0 0) := by
 refine ⟨h, fun a m e' => ?_⟩
 rcases h with h | h
 ·rcases h.2 with ⟨k, _⟩ | ⟨g, cap, cur, rfl, hb, hg, hn, hm, hs, ht⟩
  ·rw [k] at e'; cases e'
  ·cases e'
   obtain rfl : n = 0 := by omega
   refine ⟨rfl, ?_, _, rfl⟩
   have := h.1
   exact List.eq_nil_of_length_eq_zero (by simpa using this)
 ·exact h
theorem RowIs.kept {w w' : World} {e : TypeId} {sz n : Nat} {v : Value} {cells : List Value} (h : RowIs w e sz v n cells) (H : ∀ b, ownB v = some b → w'.heap[b]? = w.heap[b]?) : RowIs w' e sz v n cells := by
 obtain ⟨h, h0⟩ := h.low
 by_cases hz : ∃ a m, v = .slice (some a) m 0
 ·obtain ⟨a, m, e'⟩ := hz
  exact .inr (h0 a m e')
 ·exact h.same H fun a m e' => absurd ⟨a, m, e'⟩ hz
theorem ObRel.mono {β : Nat → Value} {st st' : Nat → Prop} {w w' : World} (H : ∀ b, st b → st' b ∧ w'.heap[b]? = w.heap[b]?) {bv : Value} {x : Ob} (h : ObRel β st w bv x)
  (k : ∀ b, ownB bv = some b → w'.heap[b]? = w.heap[b]?) : ObRel β st' w' bv x := by
 cases x with
 | box cs =>
  obtain ⟨b, arr, e, rfl, hb, hr⟩ := h
  exact ⟨b, arr, e, rfl, (k b rfl).trans hb, hr.mono fun _ _ h => ⟨h.1, h.2.mono H⟩⟩
 | log e sz xs =>
  obtain ⟨cells, hr, hf, hs⟩ := h
  exact ⟨cells, hr.kept k, hf.mono fun _ _ => Rd.mono H, hs⟩
 | mpo kv =>
  obtain ⟨r, clock, es, vs, rfl, hb, hl, hs, hk, hd⟩ := h
  exact ⟨r, clock, es, vs, rfl, (k r rfl).trans hb, hl, hs, hk, fun i p a => (hd i p a).mono H⟩
 | iter kv seen =>
  obtain ⟨b, rfl, h | ⟨m, clock, es, vs, arr, hm, hb, hh, hl, hs, hk, hd, hf⟩⟩ := h
  ·exact ⟨b, rfl, .inl ⟨h.1, h.2.1, (k b rfl).trans h.2.2⟩⟩
  ·exact ⟨b, rfl, .inr ⟨m, clock, es, vs, arr, (H m hm).1, (k b rfl).trans hb, (H m hm).2.trans hh, hl, hs, hk, fun i p a => (hd i p a).mono H, hf⟩⟩
 | frame vs rs => exact ⟨h.1, fun t => (h.2 t).mono H⟩
 | sem x => exact x.mono H h k
 | lost =>
  intro b hb
  have h1 := h b hb
  have h2 := k b hb
  rcases Nat.lt_or_ge b w'.heap.size with hlt | hge
  ·exact hlt
  ·rw [Array.getElem?_eq_none hge] at h2
   rw [Array.getElem?_eq_getElem h1] at h2
   cases h2
theorem ObRel.turn {β β' : Nat → Value} {st : Nat → Prop} {w : World} {o : Nat} (H : ∀ o', o' ≠ o → β' o' = β o') {bv : Value} {x : Ob} (h : ObRel β st w bv x) : ObRel β' st w bv (x.kill o) := by
 cases x with
 | box cs =>
  obtain ⟨b, arr, e, rfl, hb, hr⟩ := h
  refine ⟨b, arr, e, rfl, hb, by simp [hr.1], fun i v r hv hr' => ?_⟩
  simp only [List.getElem?_map, Option.map_eq_some_iff] at hr'
  obtain ⟨r0, h0, rfl⟩ := hr'
  exact ⟨(hr.2 i v r0 hv h0).1, (hr.2 i v r0 hv h0).2.turn H⟩
 | log e sz xs => exact h
 | mpo kv => exact h
 | iter kv seen => exact h
 | frame vs rs => exact ⟨h.1, fun t => (h.2 t).turn H⟩
 | sem x =>
  simp only [Ob.kill]
  split
  ·exact fun b hb => x.lt h b hb
  ·rename_i hk
   simp only [Bool.not_eq_true, List.any_eq_false, beq_iff_eq] at hk
   exact x.dep (fun o' ho' => H o' (hk o' ho')) h
 | lost => exact h
end Go.VC
end
section
namespace Go.VC
open Go.RowKit
def cellD : Value → D
 | .slice none 0 0 => .sl []
 | .map none => .mp []
 | x => .v x
structure TI where
 sz : Nat
 bs : Nat
 ag : Bool
 z : List Value
def isAggD : TypeDesc → Bool
 | .struct _ | .array _ _ => true
 | _ => false
def tinf (P : Program) (t : TypeId) : Option TI :=
 match P.info? t, P.underlying t with
 | some i, some u => match i.zero with
  | some z => some ⟨i.size, i.bytes, isAggD u, z.cells.toList⟩
  | none => none
 | _, _ => none
inductive TK where
 | bool | int (k : IntKind) | str | slice (e : TypeId) | arr (n : Nat) (e : TypeId) | struct (offs : List (Nat × Nat × Bool))
 | map (k e : TypeId) | ptr (e : TypeId) | fn | iface | other
def tk (P : Program) (t : TypeId) : TK :=
 match P.underlying t with
 | some .bool => .bool
 | some (.int k) => .int k
 | some .string => .str
 | some (.slice e) => .slice e
 | some (.array n e) => .arr n e
 | some (.struct fs) => .struct (fs.toList.map fun f => (f.offset, ((P.info? f.type).map (·.size)).getD 0, ((P.underlying f.type).map isAggD).getD true))
 | some (.map k e) => .map k e
 | some (.pointer e) => .ptr e
 | some (.func _ _ _) => .fn
 | some (.interface _) => .iface
 | _ => .other
def okF (P : Program) : Nat → List Field → Bool
 | _, [] => true
 | k, f :: fs => (f.name != "_") && f.offset == k && (match P.underlying f.type with | some (.int .i64) => true | _ => false) && okF P (k + 1) fs
def intsT (P : Program) (t : TypeId) : Option Nat := match P.underlying t with
 | some (.struct fs) => if !P.stoodInHeld t && !P.eqGuardType P.depth t && okF P 0 fs.toList then some fs.size else none
 | _ => none
def asInts : List D → Option (List Int)
 | [] => some []
 | .v (.int .i64 n) :: ds => (asInts ds).map (n :: ·)
 | _ :: _ => none
structure S where
 regs : Nat → R
 mem : Nat → Option Ob
def upd {α : Type} (f : Nat → α) (t : Nat) (x : α) : Nat → α := fun i => if i = t then x else f i
def S.put (σ : S) (dst : Option Tmp) (r : R) : S :=
 match dst with
 | some d => { σ with regs := upd σ.regs d r }
 | none => σ
def S.newOb (σ : S) (o : Nat) (x : Ob) : S := { regs := fun t => (σ.regs t).kill o, mem := upd (fun o' => (σ.mem o').map (Ob.kill o)) o (some x) }
def S.setOb (σ : S) (o : Nat) (x : Ob) : S := { σ with mem := upd σ.mem o (some x) }
def R.frz (o : Nat) (f : Nat → D) : R → R
 | .own o' => if o' = o then .a (.d (f 0)) else .own o'
 | .omp o' => if o' = o then .a (.d (f 0)) else .omp o'
 | .ref o' off => if o' = o then .a (.d (f off)) else .ref o' off
 | r => if r.says o then .any else r
def Ob.frz (o : Nat) (f : Nat → D) : Ob → Ob
 | .box cs => .box (cs.map (R.frz o f))
 | .frame vs rs => .frame vs fun t => (rs t).frz o f
 | .sem x => if x.os.any (fun o' => o' == o) then .lost else .sem x
 | x => x
def S.frz (σ : S) (o : Nat) (f : Nat → D) : S := { regs := fun t => (σ.regs t).frz o f, mem := fun o' => if o' = o then none else (σ.mem o').map (Ob.frz o f) }
def constR : Value → R
 | .agg cs => if cs.toList.all Value.oneCell' then .a (.ag (cs.toList.map cellD)) else .any
 | .tuple _ => .any
 | .slice none 0 0 => .cs []
 | x => .a (.d (cellD x))
def S.eval (gl : Nat → Option (List D)) (σ : S) : Operand → R
 | .tmp t => σ.regs t
 | .const v => constR v
 | .global g => match gl g with
  | some cs => .a (.d (.pt cs))
  | none => .any
 | .func f => .a (.d (.fn f []))
def allD : List R → Option (List D)
 | [] => some []
 | .a (.d x) :: rs => (allD rs).map (x :: ·)
 | _ :: _ => none
def cellsR : R → Option (List R)
 | .a (.ag ds) => some (ds.map fun d => .a (.d d))
 | .a (.d x) => some [.a (.d x)]
 | .cs xs => some [.a (.d (.sl xs))]
 | .ref o f => some [.ref o f]
 | .eref o i s j => some [.eref o i s j]
 | .own o => some [.own o]
 | .omp o => some [.omp o]
 | .clo f c => some [.clo f c]
 | .agr xs => some xs
 | .any | .tp _ | .sem _ _ => none
def loadR (P : Program) (σ : S) (t : TypeId) (p : R) : Option R :=
 match tinf P t with
 | none => none
 | some ti =>
  match p with
  | .ref o off => match σ.mem o with
   | some (.box cs) => match ti.ag with
    | true => if off + ti.sz ≤ cs.length then (allD ((cs.drop off).take ti.sz)).map fun ds => .a (.ag ds) else none
    | false => cs[off]?
   | _ => none
  | .a (.d (.pt cs)) => match ti.ag with
   | true => if ti.sz ≤ cs.length then some (.a (.ag (cs.take ti.sz))) else none
   | false => (cs[0]?).map fun d => .a (.d d)
  | .eref o i sz j => match σ.mem o with
   | some (.log _ _ xs) => match xs[i]? with
    | some x => if x.length = sz then (match ti.ag with
     | true => if j + ti.sz ≤ x.length then some (.a (.ag ((x.drop j).take ti.sz))) else none
     | false => (x[j]?).map fun d => .a (.d d)) else none
    | none => none
   | _ => none
  | _ => none
def storeR (P : Program) (σ : S) (t : TypeId) (p x : R) : Option S :=
 match tinf P t, cellsR x with
 | some ti, some new =>
  if new.length = ti.sz then
   match p with
   | .ref o off => match σ.mem o with
    | some (.box cs) => if off + new.length ≤ cs.length then
      some (σ.setOb o (.box (match new with
       | [r] => cs.set off r
       | _ => cs.take off ++ new ++ cs.drop (off + new.length)))) else none
    | _ => none
   | .eref o i sz j => match σ.mem o with
    | some (.log e z xs) => match xs[i]?, allD new with
     | some y, some ds => if y.length = sz ∧ j + ds.length ≤ y.length then
       some (σ.setOb o (.log e z (xs.set i (match ds with
        | [d] => y.set j d
        | _ => y.take j ++ ds ++ y.drop (j + ds.length))))) else none
     | _, _ => none
    | _ => none
   | _ => none
  else none
 | _, _ => none
def binR (op : BinOp) (x y : Value) : Option (Prop × Value) :=
 match x, y with
 | .int k a, .int k' b =>
  match op with
  | .shl => some (0 ≤ b, .int k (k.wrap (a * 2 ^ (min b.toNat k.bits))))
  | .shr => some (0 ≤ b, .int k (a.fdiv (2 ^ (min b.toNat k.bits))))
  | .add => some (k = k', .int k (k.wrap (a + b)))
  | .sub => some (k = k', .int k (k.wrap (a - b)))
  | .mul => some (k = k', .int k (k.wrap (a * b)))
  | .quo => some (k = k' ∧ b ≠ 0, .int k (k.wrap (a.tdiv b)))
  | .rem => some (k = k' ∧ b ≠ 0, .int k (a.tmod b))
  | .and => some (k = k', .int k (k.wrap (BitVec.ofInt k.bits a &&& BitVec.ofInt k.bits b).toNat))
  | .or => some (k = k', .int k (k.wrap (BitVec.ofInt k.bits a ||| BitVec.ofInt k.bits b).toNat))
  | .xor => some (k = k', .int k (k.wrap (BitVec.ofInt k.bits a ^^^ BitVec.ofInt k.bits b).toNat))
  | .andNot => some (k = k', .int k (k.wrap (BitVec.ofInt k.bits a &&& ~~~BitVec.ofInt k.bits b).toNat))
  | .eql => some (k = k', .bool (a == b))
  | .neq => some (k = k', .bool (a != b))
  | .lss => some (k = k', .bool (decide (a < b)))
  | .leq => some (k = k', .bool (decide (a ≤ b)))
  | .gtr => some (k = k', .bool (decide (a > b)))
  | .geq => some (k = k', .bool (decide (a ≥ b)))
 | .string a, .string b =>
  match op with
  | .eql => some (True, .bool (a.toList == b.toList))
  | .neq => some (True, .bool (!(a.toList == b.toList)))
  | .lss => some (True, .bool (Op.bytesLess a.toList b.toList))
  | .leq => some (True, .bool (Op.bytesLess a.toList b.toList || a.toList == b.toList))
  | .gtr => some (True, .bool (!(Op.bytesLess a.toList b.toList || a.toList == b.toList)))
  | .geq => some (True, .bool (!Op.bytesLess a.toList b.toList))
  | _ => none
 | _, _ => none
def unR (op : UnOp) (x : Value) : Option Value :=
 match op, x with
 | .neg, .int k n => some (.int k (k.wrap (0 - n)))
 | .not, .bool b => some (.bool !b)
 | _, _ => none
def idxK (n : Int) (xs : List (List D)) (sz : Nat) (K : List D → Prop) : Prop :=
 0 ≤ n ∧ match xs[n.toNat]? with
  | some c => c.length = sz ∧ K c
  | none => False
def brK (b : Bool) (X Y : Prop) : Prop := (b = true → X) ∧ (b = false → Y)
def fc (r : R) (K : R → Prop) : Prop := K r
inductive Rv where
 | a (x : A)
 | clip (xs : List (List D))
 | fresh (e : TypeId) (sz : Nat) (xs : List (List D))
def D.flat : D → Bool
 | .v _ => true
 | .fn _ caps => caps.isEmpty
 | _ => false
def A.flat : A → Bool
 | .d x => x.flat
 | .ag xs => xs.all D.flat
def Rv.flat : Rv → Bool
 | .a x => x.flat
 | _ => false
structure Keep (X : Nat → Prop) (w w' : World) : Prop where
 os : w'.os = w.os
 tape : w'.tape = w.tape
 output : w'.output = w.output
 size : w.heap.size ≤ w'.heap.size
 block : ∀ k, k < w.heap.size → ¬ X k → w'.heap[k]? = w.heap[k]?
def RelV (st : Nat → Prop) (w : World) (n : Nat) (u : Value) : Rv → Prop
 | .a x => RelA st w u x
 | .clip xs => ∃ p k, u = .slice p k k ∧ Rd st w u (.sl xs)
 | .fresh e sz xs => (∃ cells : List Value, RowIs w e sz u xs.length cells ∧ F2 (Rd st w) cells xs.flatten ∧ ∀ x ∈ xs, x.length = sz) ∧ ∀ b, ownB u = some b → n ≤ b
def Rv.isFresh : Rv → Bool
 | .fresh _ _ _ => true
 | _ => false
def freshB (us : List Value) (res : List Rv) (b : Nat) : Prop := ∃ (i : Nat) (u : Value) (r : Rv), us[i]? = some u ∧ res[i]? = some r ∧ r.isFresh = true ∧ ownB u = some b
def NotDef (w : World) (b : Nat) : Prop := (∀ x, w.heap[b]? ≠ some (.deferred x)) ∧ ∀ x, w.heap[b]? ≠ some (.loop x)
def newSt (st : Nat → Prop) (w w' : World) (us : List Value) (res : List Rv) : Nat → Prop :=
 fun b => (st b ∧ b < w.heap.size) ∨ (w.heap.size ≤ b ∧ b < w'.heap.size ∧ ¬ freshB us res b ∧ NotDef w' b)
def retV : List Value → Value
 | [v] => v
 | vs => .tuple vs.toArray
def EnvOk (gl : Nat → Option (List D)) (st : Nat → Prop) (w : World) : Prop := ∀ g cs, gl g = some cs → Rd st w (.pointer (some ⟨g, 0, none⟩)) (.pt cs)
def FnOk (P : Program) (f : FuncId) : Prop := ∃ fn, P.funcs[f]? = some fn ∧ fn.body.isNone = false ∧ (fn.name == "runtime.NumGoroutine") = false
def Holds (P : Program) (gl : Nat → Option (List D)) (f : FuncId) (as : List A) (res : List Rv) : Prop :=
 FnOk P f ∧ ∀ (st : Nat → Prop) (w : World) (vs : List Value), EnvOk gl st w → F2 (RelA st w) vs as →
  Calls P f vs.toArray w fun e w' => ∃ us : List Value, e = .returned (retV us) ∧ Keep (fun _ => False) w w' ∧
   F2 (RelV (newSt st w w' us res) w' w.heap.size) us res ∧
   (∀ (i j : Nat) (u u' : Value) (r r' : Rv) (b : Nat), us[i]? = some u → us[j]? = some u' → res[i]? = some r → res[j]? = some r' → r.isFresh = true → r'.isFresh = true → ownB u = some b → ownB u' = some b → i = j)
def argA (σ : S) : R → Option A
 | .a x => some x
 | .cs xs => some (.d (.sl xs))
 | .own o => match σ.mem o with
  | some (.log _ _ xs) => some (.d (.sl xs))
  | _ => none
 | .omp o => match σ.mem o with
  | some (.mpo kv) => some (.d (.mp kv))
  | _ => none
 | .ref o off => match σ.mem o with
  | some (.box cs) => (allD cs).map fun ds => .d (.pt (ds.drop off))
  | _ => none
 | .clo _ _ | .eref _ _ _ _ | .any | .tp _ | .sem _ _ | .agr _ => none
def argsA (σ : S) : List R → Option (List A)
 | [] => some []
 | r :: rs => match argA σ r, argsA σ rs with
  | some x, some xs => some (x :: xs)
  | _, _ => none
def S.rest1 (σ : S) : R → S
 | .own o => match σ.mem o with
  | some (.log _ _ xs) => σ.frz o fun _ => .sl xs
  | _ => σ
 | .omp o => match σ.mem o with
  | some (.mpo kv) => σ.frz o fun _ => .mp kv
  | _ => σ
 | .ref o _ => match σ.mem o with
  | some (.box cs) => match allD cs with
   | some ds => σ.frz o fun off => .pt (ds.drop off)
   | none => σ
  | _ => σ
 | _ => σ
def R.low : R → Prop
 | .own o | .omp o | .ref o _ => o < 1000000000
 | _ => True
def S.rest (σ : S) : List R → List A → (S → List A → Prop) → Prop
 | [], acc, K => K σ acc.reverse
 | r :: rs, acc, K => match argA σ r with
  | some x => r.low ∧ (σ.rest1 r).rest rs (x :: acc) K
  | none => False
def regsOf (id : Nat) : List Rv → List R
 | [] => []
 | .a x :: rs => .a x :: regsOf (id + 1) rs
 | .clip xs :: rs => .cs xs :: regsOf (id + 1) rs
 | .fresh _ _ _ :: rs => .own id :: regsOf (id + 1) rs
def freshOf (id : Nat) : List Rv → Option (Nat × TypeId × Nat × List (List D))
 | [] => none
 | .fresh e z xs :: _ => some (id, e, z, xs)
 | _ :: rs => freshOf (id + 1) rs
def one : List R → R
 | [r] => r
 | rs => .tp rs
def baseId (d : Tmp) : List Rv → Nat
 | [_] => d
 | _ => 1000 + 16 * d
def S.ret (σ : S) (dst : Option Tmp) (res : List Rv) (K : S → Prop) : Prop :=
 match dst with
 | none => K σ
 | some d => (res.filter Rv.isFresh).length ≤ 1 ∧ baseId d res + res.length ≤ 1000000000 ∧
  (match freshOf (baseId d res) res with
  | none => K (σ.put (some d) (one (regsOf (baseId d res) res)))
  | some (id, e, z, xs) => K ((σ.newOb id (.log e z xs)).put (some d) (one (regsOf (baseId d res) res))))
structure Cx where
 P : Program
 gl : Nat → Option (List D)
 X : Nat → Prop
 st0 : Nat → Prop
 w0 : World
 N : Nat
 df : List Deferred
 hX : ∀ b, st0 b → ¬ X b
 M : List Nat
 E : (Nat → Prop) → World → Prop
 hE : ∀ {st st' : Nat → Prop} {w w' : World}, (∀ b, st b → st' b ∧ w'.heap[b]? = w.heap[b]?) → E st w → E st' w'
 LM : List (Nat × Loop)
def stF (c : Cx) (σ : S) (β : Nat → Value) (w : World) (b : Nat) : Prop :=
 b < w.heap.size ∧ (b < c.w0.heap.size → c.st0 b) ∧ (∀ o x, σ.mem o = some x → ownB (β o) ≠ some b) ∧ NotDef w b
def markD (D : Nat) : Deferred := { target := .collected D, args := #[] }
structure MarksOk (c : Cx) (σ : S) (β : Nat → Value) (w : World) (Ds : List Nat) : Prop where
 nd : Ds.Nodup
 ok : ∀ D ∈ Ds, c.w0.heap.size ≤ D ∧ w.heap[D]? = some (.deferred (some [])) ∧ ∀ o x, σ.mem o = some x → ownB (β o) ≠ some D
 lp : ∀ x ∈ c.LM, c.w0.heap.size ≤ x.1 ∧ w.heap[x.1]? = some (.loop x.2) ∧ ∀ o y, σ.mem o = some y → ownB (β o) ≠ some x.1
structure Sim (c : Cx) (σ : S) (β : Nat → Value) (a : Act) (w : World) : Prop where
 keep : Keep c.X c.w0 w
 size : a.tmps.size = c.N
 df : ∃ Ds : List Nat, a.defers = Ds.map markD ++ c.df ∧ MarksOk c σ β w (Ds ++ c.M)
 ext : c.E (stF c σ β w) w
 obj : ∀ o x, σ.mem o = some x → ObRel β (stF c σ β w) w (β o) x
 blk : ∀ o x b, σ.mem o = some x → ownB (β o) = some b → c.w0.heap.size ≤ b ∨ (c.X b ∧ 1000000000 ≤ o)
 dis : ∀ o o' x x' b, σ.mem o = some x → σ.mem o' = some x' → ownB (β o) = some b → ownB (β o') = some b → o = o'
 reg : ∀ t, RelR β (stF c σ β w) w (a.tmps.getD t undef) (σ.regs t)
 env : EnvOk c.gl (stF c σ β w) w
def Inl (P : Program) (gl : Nat → Option (List D)) (f : FuncId) (rs : List R) (σ : S) (K : S → List R → Prop) : Prop :=
 FnOk P f ∧ ∀ (c : Cx) (β : Nat → Value) (a : Act) (w : World) (vs : List Value), c.P = P → c.gl = gl → Sim c σ β a w → F2 (RelR β (stF c σ β w) w) vs rs →
  Calls P f vs.toArray w fun e w' => ∃ (us : List Value) (rs' : List R) (σ' : S) (β' : Nat → Value), e = .returned (retV us) ∧ Sim c σ' β' a w' ∧ F2 (RelR β' (stF c σ' β' w') w') us rs' ∧ K σ' rs'
def callK (P : Program) (gl : Nat → Option (List D)) (f : FuncId) (rs : List R) (dst : Option Tmp) (σ : S) (K : S → Prop) : Prop :=
 (∃ (as : List A) (res : List Rv), argsA σ rs = some as ∧ Holds P gl f as res ∧ res.all Rv.flat = true ∧ σ.ret dst res K) ∨
 (∃ res : List Rv, σ.rest rs [] fun σ' as => Holds P gl f as res ∧ σ'.ret dst res K) ∨
 Inl P gl f rs σ (fun σ' rs' => K (σ'.put dst (one rs')))
def retR : List A → R
 | [x] => .a x
 | xs => .tp (xs.map R.a)
def callQ (P : Program) (gl : Nat → Option (List D)) (f : FuncId) (rs : List R) (σ : S) (K : R → Prop) : Prop :=
 ∃ (as : List A) (res : List A), argsA σ rs = some as ∧ Holds P gl f as (res.map Rv.a) ∧ (res.all A.flat = true ∨ rs = as.map R.a) ∧
  K (retR res)
def allDA : List A → Option (List D)
 | [] => some []
 | .d x :: xs => (allDA xs).map (x :: ·)
 | .ag _ :: _ => none
def mapT (P : Program) (t : TypeId) : Option D :=
 match tk P t with
 | .map k e => match tk P k, P.info? e with
  | .int .i64, some i => match i.zero with
   | some z => if z.oneCell' then some (cellD z) else none
   | none => none
  | _, _ => none
 | _ => none
def mapOf (σ : S) : R → Option (List (Int × D))
 | .a (.d (.mp kv)) => some kv
 | .omp o => match σ.mem o with
  | some (.mpo kv) => some kv
  | _ => none
 | _ => none
def kvGet : List (Int × D) → Int → Option D
 | [], _ => none
 | (k, x) :: kv, n => if k = n then some x else kvGet kv n
def kvSet : List (Int × D) → Int → D → List (Int × D)
 | [], n, y => [(n, y)]
 | (k, x) :: kv, n, y => if k = n then (k, y) :: kv else (k, x) :: kvSet kv n y
def lookR (P : Program) (σ : S) (t : TypeId) (x i : R) (ok : Bool) : Option R :=
 match mapT P t, mapOf σ x, i with
 | some z, some kv, .a (.d (.v (.int .i64 n))) => match ok with
  | true => some (.tp [.a (.d ((kvGet kv n).getD z)), .a (.d (.v (.bool (kvGet kv n).isSome)))])
  | false => some (.a (.d ((kvGet kv n).getD z)))
 | _, _, _ => none
def updK (P : Program) (gl : Nat → Option (List D)) (σ : S) (t : TypeId) (m k v : Operand) (K : S → Prop) : Prop :=
 match σ.eval gl m, σ.eval gl k, mapT P t with
 | .omp ob, .a (.d (.v (.int .i64 n))), some _ => σ.rest [σ.eval gl v] [] fun σ' as => match as, σ'.mem ob with
  | [.d x], some (.mpo kv) => K (σ'.setOb ob (.mpo (kvSet kv n x)))
  | _, _ => False
 | _, _, _ => False
def rangeK (P : Program) (σ : S) (t : TypeId) (x : R) (dst : Option Tmp) (K : S → Prop) : Prop :=
 match tk P t, x, dst with
 | .map _ _, .a (.d (.mp kv)), some d => K ((σ.newOb d (.iter kv [])).put (some d) (.ref d 0))
 | _, _, _ => False
def nextK (σ : S) (x : R) (dst : Option Tmp) (K : S → Prop) : Prop :=
 match x with
 | .ref ob 0 => match σ.mem ob with
  | some (.iter kv seen) => (∀ (i : Nat) (p : Int × D), kv[i]? = some p → i ∉ seen → K ((σ.setOb ob (.iter kv (seen ++ [i]))).put dst (.tp [.a (.d (.v (.bool true))), .a (.d (.v (.int .i64 p.1))), .a (.d p.2)]))) ∧
   ((∀ i, i < kv.length → i ∈ seen) → K (σ.put dst (.tp [.a (.d (.v (.bool false)))])))
  | _ => False
 | _ => False
def entryK (σ : S) (x : R) (dst : Option Tmp) (K : S → Prop) : Prop :=
 match x with
 | .ref ob 0 => match σ.mem ob with
  | some (.iter kv seen) => match seen.getLast?.bind (kv[·]?) with
   | some p => K (σ.put dst (.tp [.a (.d (.v (.int .i64 p.1))), .a (.d p.2)]))
   | none => False
  | _ => False
 | _ => False
def WF (ρ : Option Nat) : Fence := { Fence.wide with round := ρ }
def Run (P : Program) (o : Oper) (a : Act) (w : World) (Z : Value → World → Prop) : Prop :=
 ∀ (ρ : Option Nat) (n : Nat) (next : Act → World → Prop) (Q : Exit → Act → World → Prop), (∀ v w', Z v w' → next (a.put o.dst v) w') → o.wpIn (WF ρ) n P a w next Q
abbrev AOut (c : Cx) (a : Act) (o : Oper) (K : S → Prop) : Value → World → Prop :=
 fun v w' => ∃ σ' β', K σ' ∧ Sim c σ' β' (a.put o.dst v) w'
def SemOp (P : Program) (gl : Nat → Option (List D)) (o : Oper) (σ : S) (K : S → Prop) : Prop :=
 ∀ (c : Cx) (β : Nat → Value) (a : Act) (w : World), c.P = P → c.gl = gl → Sim c σ β a w → (∀ d, o.dst = some d → d < c.N) → Run c.P o a w (AOut c a o K)
def Ghost (σ σ' : S) : Prop := ∀ (c : Cx) (β : Nat → Value) (a : Act) (w : World), Sim c σ β a w → ∃ β', Sim c σ' β' a w
def isXT (P : Program) (t : TypeId) : Bool := match tk P t with
 | .slice e => match tk P e with
  | .ptr _ => true
  | _ => false
 | .map k e => match tk P k, tk P e with
  | _, .ptr _ => true
  | .int .i64, _ => false
  | _, _ => true
 | .ptr _ => true
 | _ => false
def isXB (P : Program) (t : TypeId) : Bool := match tinf P t with
 | some ti => ti.z.any fun v => match v with
  | .slice none 0 0 | .map none => true
  | _ => false
 | none => false
def isXS (P : Program) (t : TypeId) : Bool := match tk P t with
 | .slice e => match tk P e with
  | .int .i64 => true
  | _ => false
 | _ => false
def isXL (P : Program) (t : TypeId) (pos : String) : Bool := isXT P t || (isXS P t && (pos == "early.go:77" || pos == "world.go:52"))
def isX (P : Program) (o : Oper) : Bool := match o.op with
 | .binOp _ _ _ y _ => match y with
  | .const v => match v with
   | .int _ _ | .bool _ | .string _ => false
   | _ => true
  | _ => false
 | .slice _ _ l h m => match l, h, m with
  | some _, none, none => o.pos == "slices.go:253"
  | _, _, _ => false
 | .load t _ => isXL P t o.pos
 | .indexAddr t _ _ | .lookup t _ _ _ | .mapUpdate t _ _ _ | .insert t _ _ _ | .makeMap t _ => isXT P t
 | .buildSlice t n _ => isXT P t || (n == 5 && o.pos == "law.go:19")
 | .call c => match c.callee with
  | .builtin b => match b with
   | .append => match c.argTypes.toList with
    | [t, u] => u != t || isXT P t
    | _ => false
   | .len | .min | .max => false
   | _ => true
  | .invoke _ _ => true
  | .value _ => false
 | .build t _ => isXB P t
 | .move _ | .assign _ | .pick .. | .alloc _ | .box .. | .store .. | .fieldAddr .. | .nilCheck _ | .unOp .. | .convert .. | .index .. | .extract .. | .range .. | .next .. | .entry _ => false
 | .makeFunc .. => o.pos == "law.go:47" || o.pos == "law.go:50" || o.pos == "graph.go:120" || o.pos == "text.go:142" || o.pos == "word.go:21" || o.pos == "report.go:73"
 | _ => true
def bnd (σ : S) (gl : Nat → Option (List D)) (d : Int) : Option Operand → Option Int
 | none => some d
 | some x => match σ.eval gl x with
  | .a (.d (.v (.int _ n))) => some n
  | _ => none
def sliceK (xs : List (List D)) (sz : Nat) (l h : Option Int) (m : Option (Option Int)) (K : R → Prop) : Prop :=
 match l, h with
 | some l, some h => 0 ≤ l ∧ l ≤ h ∧ h ≤ xs.length ∧ (∀ c ∈ xs, c.length = sz) ∧
  (match m with
  | none => K (.a (.d (.sl ((xs.take h.toNat).drop l.toNat))))
  | some (some m) => m = h ∧ K (.cs ((xs.take h.toNat).drop l.toNat))
  | some none => False)
 | _, _ => False
def lenR (σ : S) : R → Option (Bool × Int)
 | .a (.d (.sl xs)) => some (false, xs.length)
 | .cs xs => some (false, xs.length)
 | .own o => match σ.mem o with
  | some (.log _ _ xs) => some (false, xs.length)
  | _ => none
 | .a (.d (.v (.string s))) => some (true, s.size)
 | _ => none
def rowsR (σ : S) : R → Option (List (List D))
 | .a (.d (.sl xs)) => some xs
 | .cs xs => some xs
 | .own o => match σ.mem o with
  | some (.log _ _ xs) => some xs
  | _ => none
 | _ => none
def appK (P : Program) (σ : S) (t : TypeId) (x y : R) (dst : Option Tmp) (K : S → Prop) : Prop :=
 match tk P t, dst, rowsR σ y with
 | .slice e, some d, some ys => match tinf P e with
  | some ti => ti.z.length = ti.sz ∧ 0 < ti.sz ∧ 0 < ti.bs ∧ (∀ c ∈ ys, c.length = ti.sz) ∧
   (match x with
   | .own o => match σ.mem o with
    | some (.log e' z xs) => e' = e ∧ z = ti.sz ∧ (xs.length + ys.length) * ti.bs ≤ 140737488355328 ∧
     K ((σ.newOb o (.log e z (xs ++ ys))).put (some d) (.own o))
    | _ => False
   | .cs xs => ys ≠ [] ∧ (∀ c ∈ xs, c.length = ti.sz) ∧ (xs.length + ys.length) * ti.bs ≤ 140737488355328 ∧ K ((σ.newOb d (.log e ti.sz (xs ++ ys))).put (some d) (.own d))
   | _ => False)
  | none => False
 | _, _, _ => False
def rowK (σ : S) (gl : Nat → Option (List D)) : List (Nat × Operand) → List (Nat × A) → (S → List (Nat × A) → Prop) → Prop
 | [], acc, K => K σ acc.reverse
 | (i, x) :: rest, acc, K => match argA σ (σ.eval gl x) with
  | some y => (σ.eval gl x).low ∧ rowK (σ.rest1 (σ.eval gl x)) gl rest ((i, y) :: acc) K
  | none => False
def A.cells : A → List D
 | .d x => [x]
 | .ag xs => xs
def fillD (place : Nat → Option (Nat × Nat)) (cells : List D) : List (Nat × A) → Option (List D)
 | [] => some cells
 | (i, y) :: rest => match place i with
  | some (off, sz) => if y.cells.length = sz ∧ off + sz ≤ cells.length then fillD place (match y.cells with
    | [d] => cells.set off d
    | ds => cells.take off ++ ds ++ cells.drop (off + sz)) rest else none
  | none => none
def dataA : R → Option A
 | .a x => some x
 | .cs xs => some (.d (.sl xs))
 | _ => none
def partsD (σ : S) (gl : Nat → Option (List D)) : List (Nat × Operand) → Option (List (Nat × A))
 | [] => some []
 | (i, x) :: rest => match dataA (σ.eval gl x), partsD σ gl rest with
  | some y, some ys => some ((i, y) :: ys)
  | _, _ => none
def buildD (P : Program) (t : TypeId) (ps : List (Nat × A)) : Option (List D) := match tinf P t, tk P t with
 | some ti, .struct offs => if ti.z.all Value.oneCell' = true ∧ (offs.all fun x => x.2.1 != 0) = true then fillD (fun i => (offs[i]?).map fun x => (x.1, x.2.1)) (ti.z.map cellD) ps else none
 | _, _ => none
def opQ (P : Program) (gl : Nat → Option (List D)) (o : Oper) (σ : S) (K : R → Prop) : Prop :=
 match o.op with
 | .move x => fc (σ.eval gl x) K
 | .assign x => fc (σ.eval gl x) K
 | .pick c a b => match σ.eval gl c with
  | .a (.d (.v (.bool t))) => match t with
   | true => fc (σ.eval gl a) K
   | false => fc (σ.eval gl b) K
  | _ => False
 | .load t p => match loadR P σ t (σ.eval gl p) with
  | some r => fc r K
  | none => False
 | .fieldAddr t p f => match tk P t with
  | .struct offs => match offs[f]? with
   | some (fo, fs, _) => fs ≠ 0 ∧ (match σ.eval gl p with
    | .ref ob off => K (.ref ob (off + fo))
    | .a (.d (.pt cs)) => K (.a (.d (.pt (cs.drop fo))))
    | .eref ob i sz j => K (.eref ob i sz (j + fo))
    | _ => False)
   | none => False
  | _ => False
 | .indexAddr t x i => match σ.eval gl i with
  | .a (.d (.v (.int _ n))) => match tk P t with
   | .slice e => match tinf P e with
    | some ti => (match σ.eval gl x with
     | .a (.d (.sl xs)) => idxK n xs ti.sz fun c => K (.a (.d (.pt c)))
     | .cs xs => idxK n xs ti.sz fun c => K (.a (.d (.pt c)))
     | .own ob => match σ.mem ob with
      | some (.log _ _ xs) => idxK n xs ti.sz fun c => K (.eref ob n.toNat ti.sz 0)
      | _ => False
     | _ => False)
    | none => False
   | .arr len e => match tinf P e with
    | some ti => 0 ≤ n ∧ n < len ∧ (match σ.eval gl x with
     | .ref ob off => K (.ref ob (off + n.toNat * ti.sz))
     | .a (.d (.pt cs)) => K (.a (.d (.pt (cs.drop (n.toNat * ti.sz)))))
     | _ => False)
    | none => False
   | _ => False
  | _ => False
 | .nilCheck x => match σ.eval gl x with
  | .ref ob off => K (.ref ob off)
  | .a (.d (.pt cs)) => K (.a (.d (.pt cs)))
  | .eref ob i sz j => K (.eref ob i sz j)
  | _ => False
 | .binOp op t x y _ => match σ.eval gl x, σ.eval gl y with
  | .a (.d (.v (.bool a))), .a (.d (.v (.bool b))) => (match tk P t, op with
   | .bool, .eql => K (.a (.d (.v (.bool (a == b)))))
   | .bool, .neq => K (.a (.d (.v (.bool (a != b)))))
   | _, _ => False)
  | .a (.d (.v a)), .a (.d (.v b)) => (match binR op a b with
   | some (c, v) => c ∧ K (.a (.d (.v v)))
   | none => False)
  | .a (.ag xs), .a (.ag ys) => (match intsT P t, asInts xs, asInts ys with
   | some n, some a, some b => a.length = n ∧ b.length = n ∧ (match op with
    | .eql => K (.a (.d (.v (.bool (a == b)))))
    | .neq => K (.a (.d (.v (.bool (!(a == b))))))
    | _ => False)
   | _, _, _ => False)
  | _, _ => False
 | .index t x i => match tk P t, σ.eval gl x, σ.eval gl i with
  | .str, .a (.d (.v (.string s))), .a (.d (.v (.int _ n))) => 0 ≤ n ∧ (match s[n.toNat]? with
   | some b => K (.a (.d (.v (.int .u8 b.toNat))))
   | none => False)
  | _, _, _ => False
 | .unOp op _ x => match σ.eval gl x with
  | .a (.d (.v a)) => (match unR op a with
   | some v => K (.a (.d (.v v)))
   | none => False)
  | _ => False
 | .convert s t x => match tk P s, tk P t, σ.eval gl x with
  | .int _, .int k, .a (.d (.v (.int _ n))) => K (.a (.d (.v (.int k (k.wrap n)))))
  | _, _, _ => False
 | .lookup t x i ok => match lookR P σ t (σ.eval gl x) (σ.eval gl i) ok with
  | some r => fc r K
  | none => False
 | .extract x i => match σ.eval gl x with
  | .tp rs => match rs[i]? with
   | some r => fc r K
   | none => False
  | _ => False
 | .slice t x l h m => match tk P t with
  | .slice e => match tinf P e with
   | some ti => (match σ.eval gl x with
    | .a (.d (.sl xs)) => (m.isSome = true → h.isSome = true) ∧ sliceK xs ti.sz (bnd σ gl 0 l) (bnd σ gl xs.length h) (m.map fun y => bnd σ gl 0 (some y)) K
    | .cs xs => (m.isSome = true → h.isSome = true) ∧ sliceK xs ti.sz (bnd σ gl 0 l) (bnd σ gl xs.length h) (m.map fun y => bnd σ gl 0 (some y)) K
    | _ => False)
   | none => False
  | _ => False
 | .call c => match c.callee with
  | .builtin b => match b, c.args.toList, c.argTypes.toList with
   | .len, [x], [t] => (match lenR σ (σ.eval gl x) with
    | some (s, n) => (match tk P t, s with
     | .slice _, false => K (.a (.d (.v (.int .i64 n))))
     | .str, true => K (.a (.d (.v (.int .i64 n))))
     | _, _ => False)
    | none => False)
   | .min, [x, y], _ => (match σ.eval gl x, σ.eval gl y with
    | .a (.d (.v (.int k a))), .a (.d (.v (.int _ b))) => K (.a (.d (.v (.int k (if b < a then b else a)))))
    | _, _ => False)
   | .max, [x, y], _ => (match σ.eval gl x, σ.eval gl y with
    | .a (.d (.v (.int k a))), .a (.d (.v (.int _ b))) => K (.a (.d (.v (.int k (if b > a then b else a)))))
    | _, _ => False)
   | _, _, _ => False
  | .value f => match σ.eval gl f with
   | .a (.d (.fn g caps)) => callQ P gl g (c.args.toList.map (σ.eval gl) ++ caps.map fun d => .a (.d d)) σ K
   | _ => False
  | _ => False
 | .build t parts => match (partsD σ gl parts.toList).bind (buildD P t) with
  | some ds => K (.a (.ag ds))
  | none => False
 | .buildSlice t len parts => if len = 0 ∧ parts.toList = [] then (match tk P t with
  | .slice e => (match tinf P e with
   | some _ => K (.a (.d (.sl [])))
   | none => False)
  | _ => False) else False
 | _ => False
def opA0 (P : Program) (gl : Nat → Option (List D)) (o : Oper) (σ : S) (K : S → Prop) : Prop :=
 match o.op with
 | .assign x => match x, o.dst with
  | .const (.slice none 0 0), some d => match tk P o.type with
   | .slice e => (match tinf P e with
    | some ti => K ((σ.newOb d (.log e ti.sz [])).put (some d) (.own d))
    | none => False)
   | _ => False
  | _, _ => opQ P gl o σ fun r => K (σ.put o.dst r)
 | .store t p x => match storeR P σ t (σ.eval gl p) (σ.eval gl x) with
  | some σ' => K (σ'.put o.dst .any)
  | none => False
 | .alloc t => match tinf P t, o.dst with
  | some ti, some d => ti.z.all Value.oneCell' = true ∧ K ((σ.newOb d (.box (ti.z.map fun v => .a (.d (cellD v))))).put (some d) (.ref d 0))
  | _, _ => False
 | .box t x => match cellsR (σ.eval gl x), o.dst with
  | some cs, some d => K ((σ.newOb d (.box (cs.map (R.kill d)))).put (some d) (.ref d 0))
  | _, _ => False
 | .slice t x l h m => match σ.eval gl x with
  | .own ob => (match σ.mem ob, tk P t with
   | some (.log _ _ xs), .slice e => match tinf P e with
    | some ti => ob < 1000000000 ∧ (m.isSome = true → h.isSome = true) ∧ sliceK xs ti.sz (bnd σ gl 0 l) (bnd σ gl xs.length h) (m.map fun y => bnd σ gl 0 (some y)) fun r => K ((σ.frz ob fun _ => .sl xs).put o.dst r)
    | none => False
   | _, _ => False)
  | _ => opQ P gl o σ fun r => K (σ.put o.dst r)
 | .build t parts => rowK σ gl parts.toList [] fun σ' ps => match tinf P t, tk P t with
  | some ti, .struct offs => ti.z.all Value.oneCell' = true ∧ (offs.all fun x => x.2.1 != 0) = true ∧ (match fillD (fun i => (offs[i]?).map fun x => (x.1, x.2.1)) (ti.z.map cellD) ps with
   | some ds => K (σ'.put o.dst (.a (.ag ds)))
   | none => False)
  | _, _ => False
 | .buildSlice t len parts => if len = 0 then parts.toList = [] ∧ (match tk P t, o.dst with
  | .slice e, some d => (match tinf P e with
   | some ti => K ((σ.newOb d (.log e ti.sz [])).put (some d) (.own d))
   | none => False)
  | _, _ => False) else rowK σ gl parts.toList [] fun σ' ps => match tk P t, o.dst with
  | .slice e, some d => match tinf P e with
   | some ti => ti.z.all Value.oneCell' = true ∧ 0 < ti.sz ∧ ti.z.length = ti.sz ∧ len * ti.sz ≤ 2 ^ 24 ∧ len ≠ 0 ∧
    (match fillD (fun i => some (i * ti.sz, ti.sz)) (List.replicate len (ti.z.map cellD)).flatten ps with
    | some ds => K ((σ'.newOb d (.log e ti.sz ((List.range len).map fun i => (ds.drop (i * ti.sz)).take ti.sz))).put (some d) (.own d))
    | none => False)
   | none => False
  | _, _ => False
 | .range t x => rangeK P σ t (σ.eval gl x) o.dst K
 | .next x false => nextK σ (σ.eval gl x) o.dst K
 | .entry x => entryK σ (σ.eval gl x) o.dst K
 | .makeMap t none => match o.dst, mapT P t with
  | some d, some _ => K ((σ.newOb d (.mpo [])).put (some d) (.omp d))
  | _, _ => False
 | .mapUpdate t m k v => updK P gl σ t m k v fun σ' => K (σ'.put o.dst .any)
 | .insert t m k v => updK P gl σ t m k v fun σ' => K (σ'.put o.dst .any)
 | .makeFunc fn first caps => match fn, first.toList, caps.toList with
  | .func f, [], cs => (σ.rest (cs.map (σ.eval gl)) [] fun σ' as => match allDA as with
   | some ds => K (σ'.put o.dst (.a (.d (.fn f ds))))
   | none => False)
  | _, _, _ => False
 | .call c => match c.callee with
  | .builtin .append => match c.args.toList, c.argTypes.toList with
   | [x, y], [t, u] => u = t ∧ appK P σ t (σ.eval gl x) (σ.eval gl y) o.dst K
   | _, _ => False
  | .value f => match σ.eval gl f with
   | .a (.d (.fn g caps)) => callK P gl g (c.args.toList.map (σ.eval gl) ++ caps.map fun d => .a (.d d)) o.dst σ K
   | .clo g caps => Inl P gl g (c.args.toList.map (σ.eval gl) ++ caps.map fun x => .ref x.1 x.2) σ (fun σ' rs' => K (σ'.put o.dst (one rs')))
   | .sem _ _ => SemOp P gl o σ K
   | .a (.d (.v _)) => SemOp P gl o σ K
   | _ => False
  | _ => opQ P gl o σ fun r => K (σ.put o.dst r)
 | _ => opQ P gl o σ fun r => K (σ.put o.dst r)
def opA (P : Program) (gl : Nat → Option (List D)) (o : Oper) (σ : S) (K : S → Prop) : Prop :=
 match isX P o with
 | true => SemOp P gl o σ K
 | false => opA0 P gl o σ K
def quietO (o : Oper) : Bool :=
 match o.op with
 | .assign (.const (.slice none 0 0)) => false
 | .move _ | .assign _ | .pick .. | .load .. | .fieldAddr .. | .indexAddr .. | .nilCheck _ | .binOp .. | .unOp .. | .convert .. | .index .. | .extract .. | .slice .. | .lookup .. | .build .. => true
 | .buildSlice _ len _ => len == 0
 | .call c => match c.callee with
  | .builtin b => match b with
   | .len | .min | .max => true
   | _ => false
  | _ => true
 | _ => false
def gK (b want : Bool) (X Y : Prop) : Prop := if want then brK b X Y else brK b Y X
def guardR (ops : Array Oper) (σ : S) (j : Nat) : Option (Option Bool) :=
 match ((ops[j]?).bind (·.dst)).map σ.regs with
 | some (.a (.d (.v (.bool b)))) => some (some b)
 | some (.tp []) => some none
 | _ => none
def opsA (P : Program) (gl : Nat → Option (List D)) (ops : Array Oper) : List Oper → S → (S → Prop) → Prop
 | [], σ, K => K σ
 | o :: rest, σ, K => match o.guard with
  | none => opA P gl o σ fun σ' => opsA P gl ops rest σ' K
  | some (j, want) => match guardR ops σ j with
   | some (some b) => gK b want (opA P gl o σ fun σ' => opsA P gl ops rest σ' K) (opsA P gl ops rest (σ.put o.dst (.tp [])) K)
   | some none => opsA P gl ops rest (σ.put o.dst (.tp [])) K
   | none => False
def depA (ops : Array Oper) (listed : Array Bool) (k : Nat) : Array Bool :=
 ops.foldl (fun d o => d.push (!listed.getD d.size true && o.after.any fun e => Region.binds .any e && (e.on == k || d.getD e.on false))) #[]
def depOk (ops : Array Oper) (listed : Array Bool) (k : Nat) (d : Array Bool) (j : Nat) : Bool :=
 !d.getD j false || match ops[j]? with
  | none => false
  | some o => !listed.getD j true && o.after.any fun e => Region.binds .any e && (e.on == k || d.getD e.on false)
def freeW (ops : Array Oper) (listed : Array Bool) (k : Nat) (o : Oper) (d : Array Bool) : Bool :=
 (List.range d.size).all (depOk ops listed k d) && (List.range ops.size).all fun j => match ops[j]? with
  | none => true
  | some oj => j == k || listed.getD j true || d.getD j false || (quietO oj && o.apart ops oj)
def freeQ (ops : Array Oper) (listed : Array Bool) (k : Nat) : Bool :=
 match ops[k]? with
 | none => false
 | some o => quietO o && freeW ops listed k o (depA ops listed k)
def drawFrom (ops : Array Oper) : List Oper → Nat → Bool → Array Bool → Bool
 | [], _, _, listed => (Region.ready .any ops listed).isEmpty
 | o :: rest, k, q, listed => (Region.ready .any ops listed).contains k && (if q && quietO o then freeQ ops listed k else Region.ready .any ops listed == [k]) && drawFrom ops rest (k + 1) (q && quietO o) (listed.setIfInBounds k true)
def DrawOk (ops : Array Oper) : Prop := (Region.noSelect ops && drawFrom ops ops.toList 0 true (Array.replicate ops.size false)) = true
def inD (P : Program) (gl : Nat → Option (List D)) (o : Oper) (σ : S) (K : S → Prop) : Prop :=
 match quietO o with
 | true => opQ P gl o σ fun r => K (σ.put o.dst r)
 | false => opA P gl o σ K
def opsQ (P : Program) (gl : Nat → Option (List D)) (ops : Array Oper) : List Oper → S → (S → Prop) → Prop
 | [], σ, K => K σ
 | o :: rest, σ, K => match o.guard with
  | none => inD P gl o σ fun σ' => opsQ P gl ops rest σ' K
  | some (j, want) => match guardR ops σ j with
   | some (some b) => gK b want (inD P gl o σ fun σ' => opsQ P gl ops rest σ' K) (opsQ P gl ops rest (σ.put o.dst (.tp [])) K)
   | some none => opsQ P gl ops rest (σ.put o.dst (.tp [])) K
   | none => False
inductive Ex where
 | normal
 | exit (id : Nat)
 | ret
 | panic (t : TypeId) (r : R)
def Ex.then (next : S → Prop) (Q : Ex → S → Prop) : Ex → S → Prop
 | .normal, σ => next σ
 | e, σ => Q e σ
def Ex.inBlock (id : Nat) (Q : Ex → S → Prop) : Ex → S → Prop
 | .exit id', σ => if id' = id then Q .normal σ else Q (.exit id') σ
 | e, σ => Q e σ
def Qh (c : Cx) (Q : Ex → S → Prop) : Exit → Act → World → Prop
 | .normal, a, w => ∃ σ β, Sim c σ β a w ∧ Q .normal σ
 | .exit id, a, w => ∃ σ β, Sim c σ β a w ∧ Q (.exit id) σ
 | .ret, a, w => ∃ σ β, Sim c σ β a w ∧ Q .ret σ
 | .panic ch, a, w => ∃ σ β t v r, ch = [{ v := .iface t v, recovered := false }] ∧ Sim c σ β a w ∧ RelR β (stF c σ β w) w v r ∧ Q (.panic t r) σ
 | _, _, _ => False
def dstOK (N : Nat) : Code → Bool
 | .region _ ops _ => ops.toList.all fun o => match o.dst with
  | some d => decide (d < N)
  | none => true
 | .seq a b => dstOK N a && dstOK N b
 | .cond _ x y => dstOK N x && dstOK N y
 | .block _ c | .loop c | .scope c => dstOK N c
 | .rangeFunc _ ps x y => (ps.toList.all fun d => decide (d < N)) && dstOK N x && dstOK N y
 | .skip | .label _ | .exit _ | .ret | .goto _ => true
 | .refuse _ => false
def noRng : Code → Bool
 | .seq a b | .cond _ a b => noRng a && noRng b
 | .block _ c | .loop c | .scope c => noRng c
 | .rangeFunc .. => false
 | _ => true
def SemCode (P : Program) (gl : Nat → Option (List D)) (code : Code) (Q : Ex → S → Prop) (σ : S) : Prop :=
 ∀ (c : Cx) (β : Nat → Value) (a : Act) (w : World) (ρ : Option Nat) (n : Nat), c.P = P → c.gl = gl → c.P.follows .mixedOrders = true → dstOK c.N code = true → (ρ = none ∨ noRng code = true) → Sim c σ β a w → code.wpIn (WF ρ) n c.P (Qh c Q) a w
def awp (P : Program) (gl : Nat → Option (List D)) : Code → (Ex → S → Prop) → S → Prop
 | .skip, Q, σ => Q .normal σ
 | .label _, Q, σ => Q .normal σ
 | .exit id, Q, σ => Q (.exit id) σ
 | .ret, Q, σ => Q .ret σ
 | .seq a b, Q, σ => awp P gl a (Ex.then (awp P gl b Q) Q) σ
 | .cond c x y, Q, σ => match σ.eval gl c with
  | .a (.d (.v (.bool b))) => brK b (awp P gl x Q σ) (awp P gl y Q σ)
  | _ => False
 | .block id c, Q, σ => awp P gl c (Ex.inBlock id Q) σ
 | .scope c, Q, σ => SemCode P gl (.scope c) Q σ
 | .loop c, Q, σ => ∀ I : S → Prop, (∀ σ, awp P gl c (Ex.then I Q) σ → I σ) → (∀ σ σ', Ghost σ σ' → I σ' → I σ) → I σ
 | .region id ops draw, Q, σ => match draw with
  | false => opsA P gl ops ops.toList σ (Q .normal)
  | true => (DrawOk ops ∧ opsQ P gl ops ops.toList σ (Q .normal)) ∨ SemCode P gl (.region id ops true) Q σ
 | code, Q, σ => SemCode P gl code Q σ
end Go.VC
end
section
namespace Go.VC
open Go.RowKit
theorem Keep.refl (X : Nat → Prop) (w : World) : Keep X w w := ⟨rfl, rfl, rfl, Nat.le_refl _, fun _ _ _ => rfl⟩
theorem Keep.trans {X Y : Nat → Prop} {a b c : World} (h : Keep X a b) (k : Keep Y b c) (H : ∀ j, Y j → j < a.heap.size → X j) : Keep X a c :=
 ⟨k.os.trans h.os, k.tape.trans h.tape, k.output.trans h.output, Nat.le_trans h.size k.size,
  fun j hj hx => (k.block j (Nat.lt_of_lt_of_le hj h.size) fun hy => hx (H j hy hj)).trans (h.block j hj hx)⟩
theorem Keep.mono {X Y : Nat → Prop} {a b : World} (h : Keep X a b) (H : ∀ j, X j → Y j) : Keep Y a b :=
 ⟨h.os, h.tape, h.output, h.size, fun j hj hy => h.block j hj fun hx => hy (H j hx)⟩
theorem Keep.below {w w' : World} (h : Keep (fun _ => False) w w') : Below w.heap.size w w' := ⟨h.os, h.tape, h.output, h.size, fun k hk => h.block k hk id⟩
theorem Keep.alloc (X : Nat → Prop) (w : World) (o : Obj) : Keep X w (w.alloc o) := ⟨rfl, rfl, rfl, by simp, fun k hk _ => heap_alloc_old w o k hk⟩
theorem Keep.grown {X : Nat → Prop} {w w' : World} {row : Option Nat} (h : w.grownBy w' row) (H : ∀ k, row = some k → X k) : Keep X w w' :=
 ⟨h.os, h.tape, h.output, h.size, fun k hk hx => h.block k hk fun e => hx (H k e.symm)⟩
theorem nd_cells {w : World} {b : Nat} {arr : Array Value} {e : TypeId} {fr : Nat × Nat} (h : w.heap[b]? = some (.cells arr e fr)) : NotDef w b := ⟨fun x hx => (by rw [h] at hx; cases hx), fun x hx => (by rw [h] at hx; cases hx)⟩
theorem nd_map {w : World} {b clock : Nat} {es : Array MapEntry} (h : w.heap[b]? = some (.map es clock)) : NotDef w b := ⟨fun x hx => (by rw [h] at hx; cases hx), fun x hx => (by rw [h] at hx; cases hx)⟩
theorem NotDef.same {w w' : World} {b : Nat} (h : NotDef w b) (e : w'.heap[b]? = w.heap[b]?) : NotDef w' b := ⟨fun x hx => h.1 x (by rw [← e]; exact hx), fun x hx => h.2 x (by rw [← e]; exact hx)⟩
theorem Rd.here {st : Nat → Prop} {w : World} {v : Value} {d : D} (h : Rd st w v d) : Rd (fun b => st b ∧ b < w.heap.size ∧ NotDef w b) w v d := by
 induction h with
 | v h => exact .v h
 | nil => exact .nil
 | sl hst hb hn hcap hm hlen hc _ ih => exact .sl ⟨hst, (Array.getElem?_eq_some_iff.1 hb).1, nd_cells hb⟩ hb hn hcap hm hlen hc ih
 | pt hst hb hc _ ih => exact .pt ⟨hst, (Array.getElem?_eq_some_iff.1 hb).1, nd_cells hb⟩ hb hc ih
 | fn hl _ ih => exact .fn hl ih
 | mpn => exact .mpn
 | mp hst hb hl hs hk _ ih => exact .mp ⟨hst, (Array.getElem?_eq_some_iff.1 hb).1, nd_map hb⟩ hb hl hs hk ih
theorem RelA.here {st : Nat → Prop} {w : World} {v : Value} {x : A} (h : RelA st w v x) : RelA (fun b => st b ∧ b < w.heap.size ∧ NotDef w b) w v x := by
 cases x with
 | d x => exact Rd.here h
 | ag xs => obtain ⟨cs, e, k⟩ := h; exact ⟨cs, e, k.mono fun _ _ => Rd.here⟩
theorem EnvOk.here {gl : Nat → Option (List D)} {st : Nat → Prop} {w : World} (h : EnvOk gl st w) : EnvOk gl (fun b => st b ∧ b < w.heap.size ∧ NotDef w b) w := fun g cs hg => (h g cs hg).here
theorem EnvOk.mono {gl : Nat → Option (List D)} {st st' : Nat → Prop} {w w' : World} (H : ∀ b, st b → st' b ∧ w'.heap[b]? = w.heap[b]?) (h : EnvOk gl st w) : EnvOk gl st' w' := fun g cs hg => (h g cs hg).mono H
theorem RowIs.lt {w : World} {e : TypeId} {sz n : Nat} {v : Value} {cells : List Value} (h : RowIs w e sz v n cells) {b : Nat} (hb : ownB v = some b) : b < w.heap.size := by
 rcases h with h | ⟨_, _, p, rfl⟩
 ·rcases h.2 with ⟨rfl, _⟩ | ⟨g, cap, cur, rfl, _, hg, _⟩
  ·cases hb
  ·cases cap with
   | zero => cases hb
   | succ k => cases hb; exact (Array.getElem?_eq_some_iff.1 hg).1
 ·cases p <;> cases hb
theorem RowIs.nd {w : World} {e : TypeId} {sz n : Nat} {v : Value} {cells : List Value} (h : RowIs w e sz v n cells) {b : Nat} (hb : ownB v = some b) : NotDef w b := by
 rcases h with h | ⟨_, _, p, rfl⟩
 ·rcases h.2 with ⟨rfl, _⟩ | ⟨g, cap, cur, rfl, _, hg, _⟩
  ·cases hb
  ·cases cap with
   | zero => cases hb
   | succ k => cases hb; exact nd_cells hg
 ·cases p <;> cases hb
theorem ObRel.lt {β : Nat → Value} {st : Nat → Prop} {w : World} {bv : Value} {x : Ob} (h : ObRel β st w bv x) {b : Nat} (hb : ownB bv = some b) : b < w.heap.size := by
 cases x with
 | box cs => obtain ⟨b', arr, e, rfl, hh, _⟩ := h; cases hb; exact (Array.getElem?_eq_some_iff.1 hh).1
 | log e sz xs => obtain ⟨cells, hr, _⟩ := h; exact hr.lt hb
 | mpo kv => obtain ⟨r, clock, es, vs, rfl, hh, _⟩ := h; cases hb; exact (Array.getElem?_eq_some_iff.1 hh).1
 | iter kv seen =>
  obtain ⟨b', rfl, h | ⟨m, clock, es, vs, arr, hm, hh, _⟩⟩ := h
  ·cases hb; exact (Array.getElem?_eq_some_iff.1 h.2.2).1
  ·cases hb; exact (Array.getElem?_eq_some_iff.1 hh).1
 | frame vs rs => rw [h.1] at hb; cases hb
 | sem x => exact x.lt h b hb
 | lost => exact h b hb
section
variable {c : Cx} {σ : S} {β : Nat → Value} {a : Act} {w : World}
theorem lt_of_some {w : World} {b : Nat} {x : Obj} (h : w.heap[b]? = some x) : b < w.heap.size := (Array.getElem?_eq_some_iff.1 h).1
theorem MarksOk.keep {w' : World} {σ' : S} {β' : Nat → Value} {Ds : List Nat} (h : MarksOk c σ β w Ds) (H : ∀ D, D < w.heap.size → (∀ o x, σ.mem o = some x → ownB (β o) ≠ some D) → w'.heap[D]? = w.heap[D]?)
  (K : ∀ o x, σ'.mem o = some x → (∃ o' x', σ.mem o' = some x' ∧ β' o = β o') ∨ ∀ b, ownB (β' o) = some b → w.heap.size ≤ b ∨ ∃ o' x', σ.mem o' = some x' ∧ ownB (β o') = some b) : MarksOk c σ' β' w' Ds :=
 ⟨h.nd, fun D hD => by
  obtain ⟨h1, h2, h3⟩ := h.ok D hD
  refine ⟨h1, (H D (lt_of_some h2) h3).trans h2, fun o x hx e => ?_⟩
  rcases K o x hx with ⟨o', x', hx', e'⟩ | k
  ·exact h3 o' x' hx' (e' ▸ e)
  ·rcases k D e with k | ⟨o', x', hx', e'⟩
   ·have := lt_of_some h2; omega
   ·exact h3 o' x' hx' e', fun y hy => by
  obtain ⟨h1, h2, h3⟩ := h.lp y hy
  refine ⟨h1, (H y.1 (lt_of_some h2) h3).trans h2, fun o x hx e => ?_⟩
  rcases K o x hx with ⟨o', x', hx', e'⟩ | k
  ·exact h3 o' x' hx' (e' ▸ e)
  ·rcases k y.1 e with k | ⟨o', x', hx', e'⟩
   ·have := lt_of_some h2; omega
   ·exact h3 o' x' hx' e'⟩
theorem Sim.dfs (h : Sim c σ β a w) {w' : World} {σ' : S} {β' : Nat → Value} (H : ∀ D, D < w.heap.size → w'.heap[D]? = w.heap[D]?)
  (K : ∀ o x, σ'.mem o = some x → (∃ o' x', σ.mem o' = some x' ∧ β' o = β o') ∨ ∀ b, ownB (β' o) = some b → w.heap.size ≤ b ∨ ∃ o' x', σ.mem o' = some x' ∧ ownB (β o') = some b) :
  ∃ Ds : List Nat, a.defers = Ds.map markD ++ c.df ∧ MarksOk c σ' β' w' (Ds ++ c.M) :=
 let ⟨Ds, e, m⟩ := h.df; ⟨Ds, e, m.keep (fun D hD _ => H D hD) K⟩
theorem Sim.grow (h : Sim c σ β a w) {w' : World} (k : Keep (fun _ => False) w w') : Sim c σ β a w' ∧ ∀ b, stF c σ β w b → stF c σ β w' b ∧ w'.heap[b]? = w.heap[b]? := by
 have H : ∀ b, stF c σ β w b → stF c σ β w' b ∧ w'.heap[b]? = w.heap[b]? := fun b hb => ⟨⟨Nat.lt_of_lt_of_le hb.1 k.size, hb.2.1, hb.2.2.1, hb.2.2.2.same (k.block b hb.1 id)⟩, k.block b hb.1 id⟩
 exact ⟨⟨h.keep.trans k (fun _ hf => hf.elim), h.size, h.dfs (fun D hD => k.block D hD id) (fun o' x' hx' => .inl ⟨o', x', hx', rfl⟩), c.hE H h.ext, fun o x ho => (h.obj o x ho).mono H fun b hb => k.block b ((h.obj o x ho).lt hb) id, h.blk, h.dis, fun t => (h.reg t).mono H, h.env.mono H⟩, H⟩
theorem Sim.drawn (h : Sim c σ β a w) (n : Nat) : Sim c σ β a { w with drawn := n } :=
 (h.grow (w' := { w with drawn := n }) ⟨rfl, rfl, rfl, Nat.le_refl _, fun _ _ _ => rfl⟩).1
theorem Sim.eval (h : Sim c σ β a w) (x : Operand) : RelR β (stF c σ β w) w (a.eval x) (σ.eval c.gl x) := by
 cases x with
 | tmp t => exact h.reg t
 | const v =>
  have cd : ∀ v : Value, v.oneCell' = true → Rd (stF c σ β w) w v (cellD v) := by
   intro v hv
   unfold cellD
   split
   ·exact .nil
   ·exact .mpn
   ·exact .v hv
  show RelR β _ w v (constR v)
  unfold constR
  split
  ·rename_i cs
   split
   ·rename_i hcs
    refine .a ⟨cs.toList, rfl, by simp, fun i u d hu hd => ?_⟩
    simp only [List.getElem?_map, hu, Option.map_some, Option.some.injEq] at hd
    subst hd
    exact cd u (List.all_eq_true.1 hcs u (List.mem_of_getElem? hu))
   ·exact .any
  ·exact .any
  ·exact .cs .nil
  ·rename_i h1 h2 h3
   refine .a (cd v ?_)
   cases v <;> first | rfl | (rename_i cs; first | exact absurd rfl (h1 cs) | exact absurd rfl (h2 cs))
 | global g =>
  show RelR β _ w _ (match c.gl g with | some cs => R.a (.d (.pt cs)) | none => .any)
  cases hg : c.gl g with
  | none => exact .any
  | some cs => exact .a (h.env g cs hg)
 | func f => exact .a (Rd.fn (vs := []) rfl fun j d v hd => by simp at hd)
theorem act_put_get (a : Act) (d t : Nat) (v : Value) (hd : d < a.tmps.size) : (a.put (some d) v).tmps.getD t undef = if t = d then v else a.tmps.getD t undef := by
 simp only [Act.put, Array.getD_eq_getD_getElem?, Array.getElem?_setIfInBounds]
 by_cases e : d = t
 ·subst e; simp [hd]
 ·rw [if_neg e, if_neg (fun e' => e e'.symm)]
theorem Sim.put (h : Sim c σ β a w) {dst : Option Tmp} (hd : ∀ d, dst = some d → d < c.N) {v : Value} {r : R} (hr : RelR β (stF c σ β w) w v r) : Sim c (σ.put dst r) β (a.put dst v) w := by
 cases dst with
 | none => exact h
 | some d =>
  refine ⟨h.keep, by simpa [Act.put] using h.size, h.dfs (fun _ _ => rfl) (fun o x hx => .inl ⟨o, x, hx, rfl⟩), h.ext, h.obj, h.blk, h.dis, fun t => ?_, h.env⟩
  rw [act_put_get a d t v (by rw [h.size]; exact hd d rfl)]
  show RelR β _ w _ (upd σ.regs d r t)
  unfold upd
  by_cases e : t = d
  ·rw [if_pos e, if_pos e]; exact hr
  ·rw [if_neg e, if_neg e]; exact h.reg t
theorem st_new {o : Nat} {x : Ob} {bv : Value} {w' : World} (k : w.heap.size ≤ w'.heap.size) (ks : ∀ b, stF c σ β w b → w'.heap[b]? = w.heap[b]?)
  (hn : ∀ b, ownB bv = some b → w.heap.size ≤ b ∨ ∃ y, σ.mem o = some y ∧ ownB (β o) = some b) {b : Nat} (hb : stF c σ β w b) :
  stF c (σ.newOb o x) (upd β o bv) w' b := by
 refine ⟨Nat.lt_of_lt_of_le hb.1 k, hb.2.1, fun o' y hy => ?_, hb.2.2.2.same (ks b hb)⟩
 by_cases e : o' = o
 ·subst e
  simp only [upd, if_pos rfl]
  intro hbv
  rcases hn b hbv with h1 | ⟨y', h1, h2⟩
  ·exact Nat.lt_irrefl _ (Nat.lt_of_lt_of_le hb.1 h1)
  ·exact hb.2.2.1 o' y' h1 h2
 ·simp only [S.newOb, upd, if_neg e] at hy ⊢
  cases hm : σ.mem o' with
  | none => rw [hm] at hy; cases hy
  | some z => exact hb.2.2.1 o' z hm
theorem Sim.new (h : Sim c σ β a w) {o : Nat} {x : Ob} {bv : Value} {w' : World} (k : Keep (fun b => ∃ y, σ.mem o = some y ∧ ownB (β o) = some b) w w')
  (hn : ∀ b, ownB bv = some b → w.heap.size ≤ b ∨ ∃ y, σ.mem o = some y ∧ ownB (β o) = some b)
  (hx : ObRel (upd β o bv) (stF c (σ.newOb o x) (upd β o bv) w') w' bv x) : Sim c (σ.newOb o x) (upd β o bv) a w' := by
 have H : ∀ b, stF c σ β w b → stF c (σ.newOb o x) (upd β o bv) w' b ∧ w'.heap[b]? = w.heap[b]? :=
  fun b hb => ⟨st_new k.size (fun b hb => k.block b hb.1 fun ⟨y, h1, h2⟩ => hb.2.2.1 o y h1 h2) hn hb, k.block b hb.1 fun ⟨y, h1, h2⟩ => hb.2.2.1 o y h1 h2⟩
 have T : ∀ o', o' ≠ o → upd β o bv o' = β o' := fun o' e => by simp [upd, e]
 have M : ∀ o' y, o' ≠ o → (σ.newOb o x).mem o' = some y → ∃ z, σ.mem o' = some z ∧ y = z.kill o := fun o' y e hy => by
  simp only [S.newOb, upd, if_neg e, Option.map_eq_some_iff] at hy
  obtain ⟨z, h1, h2⟩ := hy
  exact ⟨z, h1, h2.symm⟩
 have B : ∀ o' z b, o' ≠ o → σ.mem o' = some z → ownB (β o') = some b → ownB bv = some b → False := fun o' z b e hz h1 h2 => by
  rcases hn b h2 with h3 | ⟨y, h3, h4⟩
  ·exact Nat.lt_irrefl _ (Nat.lt_of_lt_of_le ((h.obj o' z hz).lt h1) h3)
  ·exact e (h.dis o' o z y b hz h3 h1 h4)
 have dfn : ∃ Ds : List Nat, a.defers = Ds.map markD ++ c.df ∧ MarksOk c (σ.newOb o x) (upd β o bv) w' (Ds ++ c.M) := by
  obtain ⟨Ds, e, m⟩ := h.df
  refine ⟨Ds, e, m.keep (fun D hD hno => k.block D hD fun ⟨y, h1, h2⟩ => hno o y h1 h2) fun o' y hy => ?_⟩
  by_cases e : o' = o
  ·subst e
   refine .inr fun b hb => ?_
   simp only [upd, if_pos rfl] at hb
   exact (hn b hb).imp id fun ⟨y', h1, h2⟩ => ⟨o', y', h1, h2⟩
  ·obtain ⟨z, hz, _⟩ := M o' y e hy
   exact .inl ⟨o', z, hz, T o' e⟩
 refine ⟨h.keep.trans k (fun j ⟨y, h1, h2⟩ hj => ((h.blk o y j h1 h2).resolve_left (Nat.not_le.2 hj)).1), h.size, dfn, c.hE H h.ext, fun o' y hy => ?_, fun o' y b hy hb => ?_, fun o1 o2 y1 y2 b h1 h2 h3 h4 => ?_, fun t => ?_, h.env.mono H⟩
 ·by_cases e : o' = o
  ·subst e
   obtain rfl : x = y := by simpa [S.newOb, upd] using hy
   simpa [upd] using hx
  ·obtain ⟨z, hz, rfl⟩ := M o' y e hy
   rw [T o' e]
   refine ((h.obj o' z hz).mono H fun b hb => k.block b ((h.obj o' z hz).lt hb) fun ⟨y, h1, h2⟩ => e (h.dis o' o z y b hz h1 hb h2)).turn T
 ·by_cases e : o' = o
  ·subst e
   simp only [upd, if_pos rfl] at hb
   rcases hn b hb with h1 | ⟨y', h1, h2⟩
   ·exact .inl (Nat.le_trans h.keep.size h1)
   ·exact h.blk o' y' b h1 h2
  ·obtain ⟨z, hz, rfl⟩ := M o' y e hy
   rw [T o' e] at hb
   exact h.blk o' z b hz hb
 ·by_cases e1 : o1 = o
  ·by_cases e2 : o2 = o
   ·rw [e1, e2]
   ·obtain ⟨z, hz, rfl⟩ := M o2 y2 e2 h2
    rw [T o2 e2] at h4
    subst e1
    simp only [upd, if_pos rfl] at h3
    exact (B o2 z b e2 hz h4 h3).elim
  ·obtain ⟨z, hz, rfl⟩ := M o1 y1 e1 h1
   rw [T o1 e1] at h3
   by_cases e2 : o2 = o
   ·subst e2
    simp only [upd, if_pos rfl] at h4
    exact (B o1 z b e1 hz h3 h4).elim
   ·obtain ⟨z2, hz2, rfl⟩ := M o2 y2 e2 h2
    rw [T o2 e2] at h4
    exact h.dis o1 o2 z z2 b hz hz2 h3 h4
 ·exact ((h.reg t).mono H).turn T
theorem Sim.setOb (h : Sim c σ β a w) {o : Nat} {x y : Ob} {w' : World} (ho : σ.mem o = some y) (k : Keep (fun b => ownB (β o) = some b) w w')
  (hx : ObRel β (stF c (σ.setOb o x) β w') w' (β o) x) : Sim c (σ.setOb o x) β a w' := by
 have M : ∀ o' z, (σ.setOb o x).mem o' = some z → ∃ z', σ.mem o' = some z' := fun o' z hz => by
  by_cases e : o' = o
  ·exact ⟨y, e ▸ ho⟩
  ·simp only [S.setOb, upd, if_neg e] at hz; exact ⟨z, hz⟩
 have st : ∀ b, stF c σ β w b → stF c (σ.setOb o x) β w' b := fun b hb => ⟨Nat.lt_of_lt_of_le hb.1 k.size, hb.2.1, fun o' z hz => by
  obtain ⟨z', hz'⟩ := M o' z hz
  exact hb.2.2.1 o' z' hz', hb.2.2.2.same (k.block b hb.1 fun h1 => hb.2.2.1 o y ho h1)⟩
 have H : ∀ b, stF c σ β w b → stF c (σ.setOb o x) β w' b ∧ w'.heap[b]? = w.heap[b]? := fun b hb => ⟨st b hb, k.block b hb.1 fun h1 => hb.2.2.1 o y ho h1⟩
 refine ⟨h.keep.trans k (fun j h2 hj => ((h.blk o y j ho h2).resolve_left (Nat.not_le.2 hj)).1), h.size, (let ⟨Ds, e, m⟩ := h.df; ⟨Ds, e, m.keep (fun D hD hno => k.block D hD fun h1 => hno o y ho h1) fun o' z hz => let ⟨z', hz'⟩ := M o' z hz; .inl ⟨o', z', hz', rfl⟩⟩), c.hE H h.ext, fun o' z hz => ?_, fun o' z b hz hb => ?_, fun o1 o2 z1 z2 b h1 h2 h3 h4 => ?_, fun t => (h.reg t).mono H, h.env.mono H⟩
 ·by_cases e : o' = o
  ·subst e
   obtain rfl : x = z := by simpa [S.setOb, upd] using hz
   exact hx
  ·simp only [S.setOb, upd, if_neg e] at hz
   exact (h.obj o' z hz).mono H fun b hb => k.block b ((h.obj o' z hz).lt hb) fun h2 => e (h.dis o' o z y b hz ho hb h2)
 ·obtain ⟨z', hz'⟩ := M o' z hz
  exact h.blk o' z' b hz' hb
 ·obtain ⟨z1', hz1⟩ := M o1 z1 h1
  obtain ⟨z2', hz2⟩ := M o2 z2 h2
  exact h.dis o1 o2 _ _ b hz1 hz2 h3 h4
theorem RelR.frz {st : Nat → Prop} {o : Nat} {f : Nat → D} (h0 : Rd st w (β o) (f 0) ∨ ∃ b, β o = .pointer (some ⟨b, 0, none⟩)) (hp : ∀ off b, β o = .pointer (some ⟨b, 0, none⟩) → Rd st w (.pointer (some ⟨b, off, none⟩)) (f off)) {v : Value} {r : R} (h : RelR β st w v r) :
  RelR β st w v (r.frz o f) := by
 cases h with
 | any => exact .any
 | a h => exact .a h
 | cs h => exact .cs h
 | ref h =>
  simp only [R.frz]
  split
  ·rename_i e; subst e; exact .a (hp _ _ h)
  ·exact .ref h
 | eref h => simp only [R.frz]; split <;> first | exact .any | exact .eref h
 | own h h1 =>
  simp only [R.frz]
  split
  ·rename_i e; subst e; subst h
   rcases h0 with h0 | ⟨b, hb⟩
   ·exact .a h0
   ·rw [hb]; exact .a (hp 0 b hb)
  ·exact .own h h1
 | omp h h1 =>
  simp only [R.frz]
  split
  ·rename_i e; subst e; subst h
   rcases h0 with h0 | ⟨b, hb⟩
   ·exact .a h0
   ·rw [hb]; exact .a (hp 0 b hb)
  ·exact .omp h h1
 | clo h => simp only [R.frz]; split <;> first | exact .any | exact .clo h
 | tp hl hd => simp only [R.frz]; split <;> first | exact .any | exact .tp hl hd
 | sem h hp => simp only [R.frz]; split <;> first | exact .any | exact .sem h hp
 | agr hl h1 hd => simp only [R.frz]; split <;> first | exact .any | exact .agr hl h1 hd
theorem Sim.frz (h : Sim c σ β a w) {o : Nat} {y : Ob} {f : Nat → D} (ho : σ.mem o = some y)
  (h0 : ∀ st, (∀ b, stF c σ β w b → st b) → (∀ b, ownB (β o) = some b → st b) → Rd st w (β o) (f 0) ∨ ∃ b, β o = .pointer (some ⟨b, 0, none⟩))
  (h1 : ∀ st, (∀ b, stF c σ β w b → st b) → (∀ b, ownB (β o) = some b → st b) → ∀ off b, β o = .pointer (some ⟨b, 0, none⟩) → Rd st w (.pointer (some ⟨b, off, none⟩)) (f off))
  (hlow : o < 1000000000) (hnd : ∀ b, ownB (β o) = some b → NotDef w b) : Sim c (σ.frz o f) β a w ∧ (∀ b, stF c σ β w b → stF c (σ.frz o f) β w b) ∧ ∀ b, ownB (β o) = some b → stF c (σ.frz o f) β w b := by
 have hX : ∀ b, ownB (β o) = some b → c.w0.heap.size ≤ b := fun b hb => (h.blk o y b ho hb).resolve_right fun hx => absurd hx.2 (Nat.not_le.2 hlow)
 have M : ∀ o' z, (σ.frz o f).mem o' = some z → ∃ z', o' ≠ o ∧ σ.mem o' = some z' ∧ z = z'.frz o f := fun o' z hz => by
  simp only [S.frz] at hz
  split at hz
  ·cases hz
  ·rename_i e
   obtain ⟨z', h1, h2⟩ := Option.map_eq_some_iff.1 hz
   exact ⟨z', e, h1, h2.symm⟩
 have st : ∀ b, stF c σ β w b → stF c (σ.frz o f) β w b := fun b hb => ⟨hb.1, hb.2.1, fun o' z hz => by
  obtain ⟨z', _, hz', _⟩ := M o' z hz
  exact hb.2.2.1 o' z' hz', hb.2.2.2⟩
 have sto : ∀ b, ownB (β o) = some b → stF c (σ.frz o f) β w b := fun b hb => ⟨(h.obj o y ho).lt hb, fun hlt => absurd (hX b hb) (Nat.not_le.2 hlt), fun o' z hz hb' => by
  obtain ⟨z', e, hz', _⟩ := M o' z hz
  exact e (h.dis o' o z' y b hz' ho hb' hb), hnd b hb⟩
 have H : ∀ b, stF c σ β w b → stF c (σ.frz o f) β w b ∧ w.heap[b]? = w.heap[b]? := fun b hb => ⟨st b hb, rfl⟩
 refine ⟨⟨h.keep, h.size, h.dfs (fun _ _ => rfl) (fun o' z hz => let ⟨z', _, hz', _⟩ := M o' z hz; .inl ⟨o', z', hz', rfl⟩), c.hE H h.ext, fun o' z hz => ?_, fun o' z b hz hb => ?_, fun o1 o2 z1 z2 b h1 h2 h3 h4 => ?_, fun t => ((h.reg t).mono H).frz (h0 _ st sto) (h1 _ st sto), h.env.mono H⟩, st, sto⟩
 ·obtain ⟨z', e, hz', rfl⟩ := M o' z hz
  have hr := (h.obj o' z' hz').mono H fun b _ => rfl
  cases z' with
  | box cs =>
   obtain ⟨b, arr, e', hb, hh, hf⟩ := hr
   refine ⟨b, arr, e', hb, hh, by simp [hf.1], fun i v r hv hr' => ?_⟩
   simp only [List.getElem?_map, Option.map_eq_some_iff] at hr'
   obtain ⟨r0, hr0, rfl⟩ := hr'
   exact ⟨(hf.2 i v r0 hv hr0).1, (hf.2 i v r0 hv hr0).2.frz (h0 _ st sto) (h1 _ st sto)⟩
  | log e sz xs => exact hr
  | mpo kv => exact hr
  | iter kv seen => exact hr
  | frame vs rs => exact ⟨hr.1, fun t => (hr.2 t).frz (h0 _ st sto) (h1 _ st sto)⟩
  | sem x =>
   simp only [Ob.frz]
   split
   ·exact fun b hb => x.lt hr b hb
   ·exact hr
  | lost => exact hr
 ·obtain ⟨z', e, hz', _⟩ := M o' z hz
  exact h.blk o' z' b hz' hb
 ·obtain ⟨z1', _, hz1, _⟩ := M o1 z1 h1
  obtain ⟨z2', _, hz2, _⟩ := M o2 z2 h2
  exact h.dis o1 o2 _ _ b hz1 hz2 h3 h4
end
end Go.VC
end
section
namespace Go.VC
open Go.RowKit
theorem callsW {ρ : Option Nat} {n : Nat} {P : Program} {f : FuncId} {args : Array Value} {w : World} {R : Ending → World → Prop} (h : Calls P f args w R) : CallsIn (WF ρ) n P f args w R := by
 cases ρ with
 | none => exact callsIn_wide.2 h
 | some l => exact (show CallsIn Fence.wide n P f args w R from callsIn_wide.2 h)
theorem Run.of_wp {P : Program} {o : Oper} {a : Act} {w : World} {Z : Value → World → Prop} (hd : ∀ c, o.op ≠ .defer c)
  (h : ∀ (ρ : Option Nat) (n : Nat) (next : Act → World → Prop) (Q : Exit → Act → World → Prop), (∀ v w', Z v w' → next (a.put o.dst v) w') → o.uponIn (WF ρ) n P a next Q ((execOp a.eval o).run P w)) : Run P o a w Z := by
 intro ρ n next Q hn
 refine ⟨fun _ _ => trivial, ?_⟩
 rw [Oper.semAt_eq _ _ _ hd]
 exact h ρ n next Q hn
theorem Run.val {P : Program} {o : Oper} {a : Act} {w w' : World} {Z : Value → World → Prop} {v : Value} (hd : ∀ c, o.op ≠ .defer c)
  (hr : (execOp a.eval o).run P w = .ok (.value v) w') (hz : Z v w') : Run P o a w Z :=
 .of_wp hd fun ρ n next Q hn => by rw [hr]; exact hn v w' hz
theorem Run.skip {P : Program} {o : Oper} {a : Act} {w w' : World} {Z : Value → World → Prop} (hd : ∀ c, o.op ≠ .defer c)
  (hr : (execOp a.eval o).run P w = .ok .skip w') (hz : Z undef w') : Run P o a w Z :=
 .of_wp hd fun ρ n next Q hn => by rw [hr]; exact hn undef w' hz
theorem Run.call {P : Program} {o : Oper} {a : Act} {w w' : World} {Z : Value → World → Prop} {f : FuncId} {args : Array Value} (hd : ∀ c, o.op ≠ .defer c)
  (hr : (execOp a.eval o).run P w = .ok (.enter f args) w') (hc : Calls P f args w' fun e w'' => ∃ v, e = .returned v ∧ Z v w'') : Run P o a w Z :=
 .of_wp hd fun ρ n next Q hn => by
  rw [hr]
  refine ⟨fun hs => by simp [WF, Fence.wide] at hs, callsW (hc.mono ?_)⟩
  rintro e w'' ⟨v, rfl, hz⟩
  exact hn v w'' hz
theorem Run.mono {P : Program} {o : Oper} {a : Act} {w : World} {Z Z' : Value → World → Prop} (h : Run P o a w Z) (k : ∀ v w', Z v w' → Z' v w') : Run P o a w Z' :=
 fun ρ n next Q hn => h ρ n next Q fun v w' hz => hn v w' (k v w' hz)
theorem tinf_info {P : Program} {t : TypeId} {ti : TI} (h : tinf P t = some ti) : ∃ i u z, P.info? t = some i ∧ P.underlying t = some u ∧ i.zero = some z ∧ ti = ⟨i.size, i.bytes, isAggD u, z.cells.toList⟩ := by
 unfold tinf at h
 split at h
 ·rename_i i u hi hu
  split at h
  ·rename_i z hz
   exact ⟨i, u, z, hi, hu, hz, (Option.some.inj h).symm⟩
  ·cases h
 ·cases h
theorem run_under {P : Program} {w : World} {t : TypeId} {u : TypeDesc} (h : P.underlying t = some u) : (underlying t).run P w = .ok u w := by simp [underlying, h]
theorem run_info {P : Program} {w : World} {t : TypeId} {i : TypeInfo} (h : P.info? t = some i) : (typeInfo t).run P w = .ok i w := by simp [typeInfo, h]
theorem run_size {P : Program} {w : World} {t : TypeId} {ti : TI} (h : tinf P t = some ti) : (sizeOf t).run P w = .ok ti.sz w := by
 obtain ⟨i, u, z, hi, hu, hz, rfl⟩ := tinf_info h
 simp [sizeOf, run_info hi]
theorem run_isAgg {P : Program} {w : World} {t : TypeId} {ti : TI} (h : tinf P t = some ti) : (isAgg t).run P w = .ok ti.ag w := by
 obtain ⟨i, u, z, hi, hu, hz, rfl⟩ := tinf_info h
 simp only [isAgg, Sem.run_bind, run_under hu, Result.andThen_ok]
 cases u <;> rfl
theorem run_zero {P : Program} {w : World} {t : TypeId} {ti : TI} (h : tinf P t = some ti) : ∃ z, (zeroValue t).run P w = .ok z w ∧ ti.z = z.cells.toList := by
 obtain ⟨i, u, z, hi, hu, hz, rfl⟩ := tinf_info h
 exact ⟨z, by simp [zeroValue, run_info hi, hz], rfl⟩
theorem tk_slice {P : Program} {t e : TypeId} (h : tk P t = .slice e) : P.underlying t = some (.slice e) := by
 unfold tk at h
 split at h <;> first | (cases h; assumption) | cases h
theorem tk_arr {P : Program} {t e : TypeId} {n : Nat} (h : tk P t = .arr n e) : P.underlying t = some (.array n e) := by
 unfold tk at h
 split at h <;> first | (cases h; assumption) | cases h
theorem tk_int {P : Program} {t : TypeId} {k : IntKind} (h : tk P t = .int k) : P.underlying t = some (.int k) := by
 unfold tk at h
 split at h <;> first | (cases h; assumption) | cases h
theorem tk_bool {P : Program} {t : TypeId} (h : tk P t = .bool) : P.underlying t = some .bool := by
 unfold tk at h
 split at h <;> first | assumption | cases h
theorem tk_str {P : Program} {t : TypeId} (h : tk P t = .str) : P.underlying t = some .string := by
 unfold tk at h
 split at h <;> first | assumption | cases h
theorem tk_struct {P : Program} {t : TypeId} {offs : List (Nat × Nat × Bool)} (h : tk P t = .struct offs) :
  ∃ fs, P.underlying t = some (.struct fs) ∧ offs = fs.toList.map fun f => (f.offset, ((P.info? f.type).map (·.size)).getD 0, ((P.underlying f.type).map isAggD).getD true) := by
 unfold tk at h
 split at h <;> first | (cases h; exact ⟨_, by assumption, rfl⟩) | cases h
theorem tk_map {P : Program} {t k e : TypeId} (h : tk P t = .map k e) : P.underlying t = some (.map k e) := by
 unfold tk at h
 split at h <;> first | (cases h; assumption) | cases h
theorem mapT_inv {P : Program} {t : TypeId} {z : D} (h : mapT P t = some z) : ∃ k e i u, P.underlying t = some (.map k e) ∧ P.underlying k = some (.int .i64) ∧ P.info? e = some i ∧ i.zero = some u ∧ u.oneCell' = true ∧ z = cellD u := by
 unfold mapT at h
 split at h
 ·rename_i k e ht
  split at h
  ·rename_i i hk hi
   split at h
   ·rename_i u hu
    split at h
    ·rename_i h1; cases h; exact ⟨k, e, i, u, tk_map ht, tk_int hk, hi, hu, h1, rfl⟩
    ·cases h
   ·cases h
  ·cases h
 ·cases h
theorem add_at (b o j : Nat) : (⟨b, o, none⟩ : Addr).add j = ⟨b, o + j, none⟩ := by unfold Addr.add; split <;> simp_all
theorem cell_at {w : World} {b o : Nat} {arr : Array Value} {e : TypeId} {fr : Nat × Nat} (h : w.heap[b]? = some (.cells arr e fr)) : w.cell? ⟨b, o, none⟩ = arr[o]? := by simp [World.cell?, h]
theorem run_loadVar_one {P : Program} {w : World} {t : TypeId} {ti : TI} {b o : Nat} {arr : Array Value} {e : TypeId} {fr : Nat × Nat} {v : Value} (ht : tinf P t = some ti) (hag : ti.ag = false)
  (hb : w.heap[b]? = some (.cells arr e fr)) (hv : arr[o]? = some v) : (loadVar t ⟨b, o, none⟩).run P w = .ok v w := by
 simp [loadVar, run_isAgg ht, hag, cell_at hb, hv]
theorem run_loadVar_agg {P : Program} {w : World} {t : TypeId} {ti : TI} {b o : Nat} {arr : Array Value} {e : TypeId} {fr : Nat × Nat} {cs : List Value} (ht : tinf P t = some ti) (hag : ti.ag = true)
  (hb : w.heap[b]? = some (.cells arr e fr)) (hl : cs.length = ti.sz) (hv : ∀ j v, cs[j]? = some v → arr[o + j]? = some v) : (loadVar t ⟨b, o, none⟩).run P w = .ok (.agg cs.toArray) w := by
 have := run_loadCells_list (P := P) w ⟨b, o, none⟩ cs (fun j v hj => by rw [add_at, cell_at hb]; exact hv j v hj)
 rw [hl] at this
 simp [loadVar, run_isAgg ht, hag, run_size ht, this]
section
variable {β : Nat → Value} {st : Nat → Prop} {w : World} {v : Value}
theorem RelR.inv_v {x : Value} (h : RelR β st w v (.a (.d (.v x)))) : v = x := by cases h with | a h => cases h; rfl
theorem RelR.inv_d {x : D} (h : RelR β st w v (.a (.d x))) : Rd st w v x := by cases h with | a h => exact h
theorem RelR.inv_own {o : Nat} (h : RelR β st w v (.own o)) : v = β o := by cases h with | own h _ => exact h.symm
theorem RelR.inv_ref {o off : Nat} (h : RelR β st w v (.ref o off)) : ∃ b, β o = .pointer (some ⟨b, 0, none⟩) ∧ v = .pointer (some ⟨b, off, none⟩) := by cases h with | ref h => exact ⟨_, h, rfl⟩
theorem RelR.inv_eref {o i sz j : Nat} (h : RelR β st w v (.eref o i sz j)) : ∃ b n c, β o = .slice (some ⟨b, 0, none⟩) n c ∧ v = .pointer (some ⟨b, i * sz + j, none⟩) := by cases h with | eref h => exact ⟨_, _, _, h, rfl⟩
theorem RelR.inv_cs {xs : List (List D)} (h : RelR β st w v (.cs xs)) : ∃ p n, v = .slice p n n ∧ Rd st w (.slice p n n) (.sl xs) := by cases h with | cs h => exact ⟨_, _, rfl, h⟩
theorem RelR.inv_tp {xs : List R} (h : RelR β st w v (.tp xs)) : ∃ vs : List Value, v = .tuple vs.toArray ∧ F2 (RelR β st w) vs xs := by
 cases h with | tp hl hd => exact ⟨_, rfl, hl, fun i a b x y => hd i a b x y⟩
theorem Rd.inv_pt {cs : List D} (h : Rd st w v (.pt cs)) : ∃ b off arr e fr, v = .pointer (some ⟨b, off, none⟩) ∧ st b ∧ w.heap[b]? = some (.cells arr e fr) ∧ ∀ j d, cs[j]? = some d → ∃ u, arr[off + j]? = some u ∧ Rd st w u d := by
 cases h with
 | pt hst hb hc hd => exact ⟨_, _, _, _, _, rfl, hst, hb, fun j d hj => ⟨_, hc j (List.getElem?_eq_some_iff.1 hj).1, hd j d hj⟩⟩
theorem Rd.mk_pt {b off : Nat} {arr : Array Value} {e : TypeId} {fr : Nat × Nat} {cs : List D} (hst : st b) (hb : w.heap[b]? = some (.cells arr e fr)) (h : ∀ j d, cs[j]? = some d → ∃ u, arr[off + j]? = some u ∧ Rd st w u d) :
  Rd st w (.pointer (some ⟨b, off, none⟩)) (.pt cs) :=
 .pt (vs := fun j => arr.getD (off + j) undef) hst hb
  (fun j hj => by
   obtain ⟨u, hu, _⟩ := h j _ (List.getElem?_eq_getElem hj)
   rw [Array.getD_eq_getD_getElem?, hu]; rfl)
  (fun j d hj => by
   obtain ⟨u, hu, hr⟩ := h j d hj
   rw [Array.getD_eq_getD_getElem?, hu]; exact hr)
theorem Rd.pt_drop {cs : List D} {b off : Nat} (h : Rd st w (.pointer (some ⟨b, off, none⟩)) (.pt cs)) (k : Nat) : Rd st w (.pointer (some ⟨b, off + k, none⟩)) (.pt (cs.drop k)) := by
 obtain ⟨b', off', arr, e, fr, he, hst, hb, hc⟩ := h.inv_pt
 cases he
 refine Rd.mk_pt hst hb fun j d hj => ?_
 rw [List.getElem?_drop] at hj
 rw [Nat.add_assoc]
 exact hc _ d hj
theorem Rd.inv_sl {xs : List (List D)} (h : Rd st w v (.sl xs)) : ((∃ p, v = .slice p 0 0) ∧ xs = []) ∨ ∃ b off n cap sz arr e fr, v = .slice (some ⟨b, off, none⟩) n cap ∧ n = xs.length ∧ n ≤ cap ∧ cap ≤ maxLen ∧ st b ∧ w.heap[b]? = some (.cells arr e fr) ∧ (∀ x ∈ xs, x.length = sz) ∧
  ∀ i x j d, xs[i]? = some x → x[j]? = some d → ∃ u, arr[off + i * sz + j]? = some u ∧ Rd st w u d := by
 cases h with
 | nil => exact .inl ⟨⟨_, rfl⟩, rfl⟩
 | sl hst hb hn hcap hm hlen hc hd =>
  refine .inr ⟨_, _, _, _, _, _, _, _, rfl, hn, hcap, hm, hst, hb, hlen, fun i x j d hx hj => ⟨_, hc i (List.getElem?_eq_some_iff.1 hx).1 j ?_, hd i x j d hx hj⟩⟩
  rw [← hlen x (List.mem_of_getElem? hx)]
  exact (List.getElem?_eq_some_iff.1 hj).1
theorem Rd.mk_sl {xs : List (List D)} {b off n cap sz : Nat} {arr : Array Value} {e : TypeId} {fr : Nat × Nat} (hn : n = xs.length) (hcap : n ≤ cap) (hm : cap ≤ maxLen) (hst : st b) (hb : w.heap[b]? = some (.cells arr e fr)) (hlen : ∀ x ∈ xs, x.length = sz)
  (h : ∀ i x j d, xs[i]? = some x → x[j]? = some d → ∃ u, arr[off + i * sz + j]? = some u ∧ Rd st w u d) : Rd st w (.slice (some ⟨b, off, none⟩) n cap) (.sl xs) :=
 .sl (vs := fun i j => arr.getD (off + i * sz + j) undef) hst hb hn hcap hm hlen
  (fun i hi j hj => by
   obtain ⟨u, hu, _⟩ := h i _ j _ (List.getElem?_eq_getElem hi) (List.getElem?_eq_getElem (by rw [hlen _ (List.getElem_mem hi)]; exact hj))
   rw [Array.getD_eq_getD_getElem?, hu]; rfl)
  (fun i x j d hx hj => by
   obtain ⟨u, hu, hr⟩ := h i x j d hx hj
   rw [Array.getD_eq_getD_getElem?, hu]; exact hr)
theorem Rd.sl_len {p : Option Addr} {n c : Nat} {xs : List (List D)} (h : Rd st w (.slice p n c) (.sl xs)) : n = xs.length := by
 rcases h.inv_sl with ⟨⟨_, e⟩, rfl⟩ | ⟨b, off, n', cap, sz, arr, e, fr, he, hn, _⟩
 ·cases e; rfl
 ·cases he; exact hn
theorem RowIs.cells {e : TypeId} {sz n : Nat} {cells : List Value} (h : RowIs w e sz v n cells) : (cells = [] ∧ n = 0 ∧ ownB v = none ∧ ∃ p c, v = .slice p 0 c) ∨
  ∃ (g cap : Nat) (cur : Array Value), v = .slice (some ⟨g, 0, none⟩) n cap ∧ w.heap[g]? = some (.cells cur e (0, 0)) ∧ n ≤ cap ∧ cap ≤ maxLen ∧ 0 < cap ∧ cur.size = cap * sz ∧ cells.length = n * sz ∧ ∀ (k : Nat) (u : Value), cells[k]? = some u → cur[k]? = some u := by
 rcases h with h | ⟨rfl, rfl, p, rfl⟩
 ·rcases h.2 with ⟨rfl, rfl⟩ | ⟨g, cap, cur, rfl, _, hg, hn, hm, hs, ht⟩
  ·exact .inl ⟨List.eq_nil_of_length_eq_zero (by simpa using h.1), rfl, rfl, _, _, rfl⟩
  ·cases cap with
   | zero =>
    obtain rfl : n = 0 := by omega
    exact .inl ⟨List.eq_nil_of_length_eq_zero (by simpa using h.1), rfl, rfl, _, _, rfl⟩
   | succ k =>
    refine .inr ⟨g, k + 1, cur, rfl, hg, hn, hm, by omega, hs, h.1, fun j u hj => ?_⟩
    rw [← ht, List.getElem?_take] at hj
    split at hj
    ·simpa using hj
    ·cases hj
 ·exact .inl ⟨rfl, rfl, by cases p <;> rfl, _, _, rfl⟩
end
theorem flat_get {sz : Nat} : ∀ {xs : List (List D)} (h : ∀ x ∈ xs, x.length = sz) {i j : Nat} {x : List D} {d : D}, xs[i]? = some x → x[j]? = some d → xs.flatten[i * sz + j]? = some d
 | [], _, i, j, x, d, hx, _ => by simp at hx
 | y :: ys, h, 0, j, x, d, hx, hd => by
  simp at hx; subst hx
  have hj := (List.getElem?_eq_some_iff.1 hd).1
  simp only [List.flatten_cons, Nat.zero_mul, Nat.zero_add]
  rw [List.getElem?_append_left hj]; exact hd
 | y :: ys, h, i + 1, j, x, d, hx, hd => by
  have hy := h y (by simp)
  have e : (i + 1) * sz + j = y.length + (i * sz + j) := by rw [hy, Nat.add_mul]; omega
  simp only [List.flatten_cons]
  rw [e, List.getElem?_append_right (by omega), Nat.add_sub_cancel_left]
  exact flat_get (fun x hx => h x (by simp [hx])) (by simpa using hx) hd
section
variable {c : Cx} {σ : S} {β : Nat → Value} {a : Act} {w : World} {o : Oper} {K : R → Prop}
abbrev QOut (c : Cx) (σ : S) (β : Nat → Value) (w : World) (K : R → Prop) : Value → World → Prop :=
 fun v w' => ∃ r, K r ∧ Keep (fun _ => False) w w' ∧ RelR β (stF c σ β w') w' v r
theorem q_same {v : Value} {r : R} (hd : ∀ c, o.op ≠ .defer c) (hr : (execOp a.eval o).run c.P w = .ok (.value v) w) (hk : K r) (hv : RelR β (stF c σ β w) w v r) : Run c.P o a w (QOut c σ β w K) :=
 Run.val hd hr ⟨r, hk, Keep.refl _ _, hv⟩
theorem allD_inv {rs : List R} {ds : List D} (h : allD rs = some ds) : rs = ds.map fun d => .a (.d d) := by
 induction rs generalizing ds with
 | nil => cases h; rfl
 | cons r rs ih =>
  unfold allD at h
  split at h
  ·rename_i e; cases e
  ·rename_i x rs' e
   cases e
   obtain ⟨ds', h1, rfl⟩ := Option.map_eq_some_iff.1 h
   rw [ih h1]; rfl
  ·cases h
theorem load_run (h : Sim c σ β a w) {t : TypeId} {p : Operand} {r : R} (hl : loadR c.P σ t (σ.eval c.gl p) = some r) :
  ∃ v, (Instr.loadAt t (a.eval p)).run c.P w = .ok v w ∧ RelR β (stF c σ β w) w v r := by
 have hp := h.eval p
 unfold loadR at hl
 split at hl
 ·cases hl
 ·rename_i ti hti
  split at hl
  ·rename_i o off hpe
   rw [hpe] at hp
   obtain ⟨b, hb, hv⟩ := hp.inv_ref
   split at hl
   ·rename_i cs hm
    obtain ⟨b', arr, e, hb', hh, hf⟩ := h.obj o _ hm
    rw [hb] at hb'
    cases hb'
    split at hl
    ·rename_i hag
     split at hl
     ·rename_i hle
      obtain ⟨ds, h1, rfl⟩ := Option.map_eq_some_iff.1 hl
      have hds := allD_inv h1
      have hlen : ds.length = ti.sz := by
       have := congrArg List.length hds
       simp at this
       omega
      have hcell : ∀ j d, ds[j]? = some d → ∃ u, arr.toList[off + j]? = some u ∧ Rd (stF c σ β w) w u d := by
       intro j d hj
       have h2 : ((cs.drop off).take ti.sz)[j]? = some (.a (.d d)) := by rw [hds]; simp [hj]
       rw [List.getElem?_take, List.getElem?_drop] at h2
       split at h2
       ·obtain ⟨u, hu, _, hr⟩ := hf.get h2
        exact ⟨u, hu, hr.inv_d⟩
       ·cases h2
      refine ⟨.agg ((List.range ds.length).map fun j => arr.toList.getD (off + j) undef).toArray, ?_, .a ⟨_, rfl, by simp, fun i u d hu hd => ?_⟩⟩
      ·rw [hv]
       simp only [Instr.loadAt, Instr.sureAddr, Sem.run_bind, Sem.run_pure, Result.andThen_ok]
       refine run_loadVar_agg hti hag hh (by simp [hlen]) fun j u hj => ?_
       simp only [List.getElem?_map, Option.map_eq_some_iff] at hj
       obtain ⟨j', hj', rfl⟩ := hj
       obtain ⟨hlt, rfl⟩ := List.getElem?_eq_some_iff.1 hj'
       simp only [List.length_range] at hlt
       obtain ⟨u, hu, _⟩ := hcell j _ (List.getElem?_eq_getElem hlt)
       simp only [List.getElem_range]
       rw [← Array.getElem?_toList, hu, List.getD_eq_getElem?_getD, hu]; rfl
      ·simp only [List.getElem?_map, Option.map_eq_some_iff] at hu
       obtain ⟨j', hj', rfl⟩ := hu
       obtain ⟨hlt, rfl⟩ := List.getElem?_eq_some_iff.1 hj'
       simp only [List.getElem_range]
       obtain ⟨u, hu, hr⟩ := hcell i d hd
       rw [List.getD_eq_getElem?_getD, hu]
       exact hr
     ·cases hl
    ·rename_i hag
     obtain ⟨u, hu, _, hr⟩ := hf.get hl
     refine ⟨u, ?_, hr⟩
     rw [hv]
     simp only [Instr.loadAt, Instr.sureAddr, Sem.run_bind, Sem.run_pure, Result.andThen_ok]
     exact run_loadVar_one hti hag hh (by simpa using hu)
   ·cases hl
  ·rename_i cs hpe
   rw [hpe] at hp
   obtain ⟨b, off, arr, e, fr, hv, hst, hh, hc⟩ := hp.inv_d.inv_pt
   split at hl
   ·rename_i hag
    split at hl
    ·rename_i hle
     cases hl
     have hcell : ∀ j d, (cs.take ti.sz)[j]? = some d → ∃ u, arr.toList[off + j]? = some u ∧ Rd (stF c σ β w) w u d := by
      intro j d hj
      rw [List.getElem?_take] at hj
      split at hj
      ·obtain ⟨u, hu, hr⟩ := hc j d hj
       exact ⟨u, by simpa using hu, hr⟩
      ·cases hj
     refine ⟨.agg ((List.range ti.sz).map fun j => arr.toList.getD (off + j) undef).toArray, ?_, .a ⟨_, rfl, by simp; omega, fun i u d hu hd => ?_⟩⟩
     ·rw [hv]
      simp only [Instr.loadAt, Instr.sureAddr, Sem.run_bind, Sem.run_pure, Result.andThen_ok]
      refine run_loadVar_agg hti hag hh (by simp) fun j u hj => ?_
      simp only [List.getElem?_map, Option.map_eq_some_iff] at hj
      obtain ⟨j', hj', rfl⟩ := hj
      obtain ⟨hlt, rfl⟩ := List.getElem?_eq_some_iff.1 hj'
      simp only [List.length_range] at hlt
      obtain ⟨u, hu, _⟩ := hcell j _ (List.getElem?_eq_getElem (by simp; omega))
      simp only [List.getElem_range]
      rw [← Array.getElem?_toList, hu, List.getD_eq_getElem?_getD, hu]; rfl
     ·simp only [List.getElem?_map, Option.map_eq_some_iff] at hu
      obtain ⟨j', hj', rfl⟩ := hu
      obtain ⟨hlt, rfl⟩ := List.getElem?_eq_some_iff.1 hj'
      simp only [List.getElem_range]
      obtain ⟨u, hu, hr⟩ := hcell i d hd
      rw [List.getD_eq_getElem?_getD, hu]
      exact hr
    ·cases hl
   ·rename_i hag
    obtain ⟨d, hd, rfl⟩ := Option.map_eq_some_iff.1 hl
    obtain ⟨u, hu, hr⟩ := hc 0 d hd
    refine ⟨u, ?_, .a hr⟩
    rw [hv]
    simp only [Instr.loadAt, Instr.sureAddr, Sem.run_bind, Sem.run_pure, Result.andThen_ok]
    exact run_loadVar_one hti hag hh (by simpa using hu)
  ·rename_i o i sz j hpe
   rw [hpe] at hp
   obtain ⟨b, n, cp, hb, hv⟩ := hp.inv_eref
   split at hl
   ·rename_i e sz' xs hm
    split at hl
    ·rename_i x hx
     split at hl
     ·rename_i hxl
      obtain ⟨cells, hrow, hf, hlen⟩ := h.obj o _ hm
      obtain rfl : sz' = sz := by rw [← hlen x (List.mem_of_getElem? hx)]; exact hxl
      have hcell : ∀ j d, x[j]? = some d → ∃ u, cells[i * sz' + j]? = some u ∧ Rd (stF c σ β w) w u d := by
       intro j d hj
       refine hf.get ?_
       exact flat_get hlen hx hj
      have harr : ∃ arr, w.heap[b]? = some (.cells arr e (0, 0)) ∧ ∀ (k : Nat) (u : Value), cells[k]? = some u → arr[k]? = some u := by
       rcases hrow.cells with ⟨hce, hz, _, p, cp', he⟩ | ⟨g, cap, cur, he, hg, _, _, _, _, _, hk⟩
       ·have := (List.getElem?_eq_some_iff.1 hx).1
        omega
       ·rw [hb] at he
        cases he
        exact ⟨cur, hg, hk⟩
      obtain ⟨arr, hg, hk⟩ := harr
      split at hl
      ·rename_i hag
       split at hl
       ·rename_i hle
        cases hl
        have hcell' : ∀ k d, ((x.drop j).take ti.sz)[k]? = some d → ∃ u, arr.toList[i * sz' + j + k]? = some u ∧ Rd (stF c σ β w) w u d := by
         intro k d hkd
         rw [List.getElem?_take] at hkd
         split at hkd
         ·rw [List.getElem?_drop] at hkd
          obtain ⟨u, hu, hr⟩ := hcell _ d hkd
          exact ⟨u, by rw [Nat.add_assoc]; simpa using hk _ u hu, hr⟩
         ·cases hkd
        refine ⟨.agg ((List.range ti.sz).map fun k => arr.toList.getD (i * sz' + j + k) undef).toArray, ?_, .a ⟨_, rfl, by simp; omega, fun k u d hu hd => ?_⟩⟩
        ·rw [hv]
         simp only [Instr.loadAt, Instr.sureAddr, Sem.run_bind, Sem.run_pure, Result.andThen_ok]
         refine run_loadVar_agg hti hag hg (by simp) fun k u hj => ?_
         simp only [List.getElem?_map, Option.map_eq_some_iff] at hj
         obtain ⟨j', hj', rfl⟩ := hj
         obtain ⟨hlt, rfl⟩ := List.getElem?_eq_some_iff.1 hj'
         simp only [List.length_range] at hlt
         obtain ⟨u, hu, _⟩ := hcell' k _ (List.getElem?_eq_getElem (by simp; omega))
         simp only [List.getElem_range]
         rw [← Array.getElem?_toList, hu, List.getD_eq_getElem?_getD, hu]; rfl
        ·simp only [List.getElem?_map, Option.map_eq_some_iff] at hu
         obtain ⟨j', hj', rfl⟩ := hu
         obtain ⟨hlt, rfl⟩ := List.getElem?_eq_some_iff.1 hj'
         simp only [List.getElem_range]
         obtain ⟨u, hu, hr⟩ := hcell' k d hd
         rw [List.getD_eq_getElem?_getD, hu]
         exact hr
       ·cases hl
      ·rename_i hag
       obtain ⟨d, hd, rfl⟩ := Option.map_eq_some_iff.1 hl
       obtain ⟨u, hu, hr⟩ := hcell j d hd
       refine ⟨u, ?_, .a hr⟩
       rw [hv]
       simp only [Instr.loadAt, Instr.sureAddr, Sem.run_bind, Sem.run_pure, Result.andThen_ok]
       exact run_loadVar_one hti hag hg (hk _ u hu)
     ·cases hl
    ·cases hl
   ·cases hl
  ·cases hl
theorem run_binOp {P : Program} {w : World} {op : BinOp} {t : TypeId} {x y : Operand} {u v : Value} {p : Prop} {r : Value} (h : binR op u v = some (p, r)) (hp : p) :
    (do eqGuard op t x y u v; binOp op t u v : Sem Value).run P w = .ok r w := by
  unfold binR at h
  split at h
  · rename_i k a k' b
    have hg : ∀ op, (eqGuard op t x y (.int k a) (.int k' b)).run P w = .ok () w := by intro op; cases op <;> rfl
    simp only [Sem.run_bind, hg, Result.andThen_ok]
    cases op <;> simp only [Option.some.injEq, Prod.mk.injEq] at h <;> obtain ⟨rfl, rfl⟩ := h <;>
      first
        | (subst hp; simp [binOp, Op.intArith, Op.intCmp, Op.intBits])
        | (obtain ⟨rfl, hb⟩ := hp; simp [binOp, Op.intDiv, hb])
        | (have hn : ¬ b < 0 := by omega
           simp [binOp, Op.shift, hn])
  · rename_i a b
    have hg : ∀ op, (eqGuard op t x y (.string a) (.string b)).run P w = .ok () w := by intro op; cases op <;> rfl
    simp only [Sem.run_bind, hg, Result.andThen_ok]
    cases op <;> simp only [Option.some.injEq, Prod.mk.injEq, reduceCtorEq] at h <;> obtain ⟨rfl, rfl⟩ := h <;> simp [binOp, Op.stringOp]
  · cases h
theorem bnd_run (h : Sim c σ β a w) {d : Nat} {x : Option Operand} {n : Int} (hb : bnd σ c.gl d x = some n) :
  (x = none ∧ n = d) ∨ ∃ y k, x = some y ∧ a.eval y = .int k n := by
 cases x with
 | none => exact .inl ⟨rfl, by cases hb; rfl⟩
 | some y =>
  right
  simp only [bnd] at hb
  split at hb
  ·rename_i k m he
   cases hb
   have := h.eval y
   rw [he] at this
   exact ⟨y, k, rfl, this.inv_v⟩
  ·cases hb
theorem sliceBound_run {P : Program} {w : World} {k : IntKind} {n : Int} {y : Nat} {cd : BoundsCode} (h0 : 0 ≤ n) (h1 : n ≤ y) : (Instr.sliceBound (.int k n) y cd).run P w = .ok n.toNat w := by
 simp only [Instr.sliceBound, asIntOf, Sem.run_bind, Sem.run_pure, Result.andThen_ok]
 rw [if_pos ⟨h0, h1⟩]; rfl
theorem sliceBounds_run {P : Program} {w : World} {len cap m : Nat} {lo hi : Int} {vl vh vm : Option Value} (h0 : 0 ≤ lo) (h1 : lo ≤ hi) (h2 : hi ≤ len) (hc : len ≤ cap)
  (hl : (vl = none ∧ lo = 0) ∨ ∃ k, vl = some (.int k lo)) (hh : (vh = none ∧ hi = len) ∨ ∃ k, vh = some (.int k hi))
  (hm : (vm = none ∧ m = cap) ∨ ∃ k, vm = some (.int k hi) ∧ m = hi.toNat ∧ vh ≠ none) :
  (Instr.sliceBounds true len cap vl vh vm).run P w = .ok (lo.toNat, hi.toNat, m) w := by
 have b1 : ∀ (k : IntKind) (cd : BoundsCode) (y : Nat), hi ≤ y → (Instr.sliceBound (.int k hi) y cd).run P w = .ok hi.toNat w := fun k cd y hy => sliceBound_run (by omega) hy
 have b2 : ∀ (k : IntKind) (cd : BoundsCode), (Instr.sliceBound (.int k lo) hi.toNat cd).run P w = .ok lo.toNat w := fun k cd => sliceBound_run h0 (by omega)
 have e1 : hi ≤ (cap : Int) := by omega
 have e2 : hi ≤ ((hi.toNat : Nat) : Int) := by omega
 rcases hm with ⟨rfl, rfl⟩ | ⟨k2, rfl, rfl, hne⟩
 ·rcases hh with ⟨rfl, rfl⟩ | ⟨k1, rfl⟩
  ·rcases hl with ⟨rfl, rfl⟩ | ⟨k, rfl⟩
   ·simp [Instr.sliceBounds]
   ·have b3 := b2 k .sliceB
    simp only [Int.toNat_natCast] at b3
    simp [Instr.sliceBounds, b3]
  ·rcases hl with ⟨rfl, rfl⟩ | ⟨k, rfl⟩
   ·simp [Instr.sliceBounds, b1 _ _ _ e1]
   ·simp [Instr.sliceBounds, b1 _ _ _ e1, b2]
 ·rcases hh with ⟨rfl, rfl⟩ | ⟨k1, rfl⟩
  ·exact absurd rfl hne
  ·rcases hl with ⟨rfl, rfl⟩ | ⟨k, rfl⟩
   ·simp [Instr.sliceBounds, b1 _ _ _ e1, b1 _ _ _ e2]
   ·simp [Instr.sliceBounds, b1 _ _ _ e1, b1 _ _ _ e2, b2]
theorem slice_run (h : Sim c σ β a w) {st : Nat → Prop} {t e : TypeId} {ti : TI} {v : Value} {xs : List (List D)} {l hi mx : Option Operand} {K : R → Prop} (ht : tk c.P t = .slice e) (hti : tinf c.P e = some ti)
  (hv : Rd st w v (.sl xs)) (hk : sliceK xs ti.sz (bnd σ c.gl 0 l) (bnd σ c.gl xs.length hi) (mx.map fun y => bnd σ c.gl 0 (some y)) K) (hne : mx.isSome = true → hi.isSome = true) :
  ∃ u r, K r ∧ (Instr.sliceAt t v (l.map a.eval) (hi.map a.eval) (mx.map a.eval)).run c.P w = .ok u w ∧ (∀ β, RelR β st w u r) := by
 unfold sliceK at hk
 split at hk
 ·rename_i lo h' hl hh
  obtain ⟨h0, h1, h2, hsz, hk⟩ := hk
  have hshape : ∃ (p : Option Addr) (cap : Nat), v = .slice p xs.length cap ∧ xs.length ≤ cap ∧ cap ≤ maxLen := by
   rcases hv.inv_sl with ⟨⟨p, rfl⟩, rfl⟩ | ⟨b, off, n, cap, sz, arr, e', fr, rfl, rfl, hc, hm, _⟩
   ·exact ⟨p, 0, rfl, Nat.le_refl _, Nat.zero_le _⟩
   ·exact ⟨_, cap, rfl, hc, hm⟩
  obtain ⟨p, cap, rfl, hcap, hmax⟩ := hshape
  have hlen : h'.toNat ≤ xs.length := by omega
  have res : ∀ (m : Nat), (m = cap ∨ m = h'.toNat) → Rd st w (.slice (if m = lo.toNat then p else p.map (·.add (lo.toNat * ti.sz))) (h'.toNat - lo.toNat) (m - lo.toNat)) (.sl ((xs.take h'.toNat).drop lo.toNat)) := by
   intro m hm
   have hml : ((xs.take h'.toNat).drop lo.toNat).length = h'.toNat - lo.toNat := by simp; omega
   rcases hv.inv_sl with ⟨⟨p', e1⟩, rfl⟩ | ⟨b, off, n, cap', sz, arr, e', fr, e1, hn, hc, _, hst, hb, hlen', hcell⟩
   ·cases e1
    have e3 : h'.toNat = 0 := by simpa using hlen
    have e4 : lo.toNat = 0 := by omega
    have e5 : m = 0 := by omega
    rw [e3, e4, e5]
    exact .nil
   ·cases e1
    have key : ∀ (o' : Nat), (h'.toNat ≤ lo.toNat ∨ o' = off + lo.toNat * sz) → Rd st w (.slice (some ⟨b, o', none⟩) (h'.toNat - lo.toNat) (m - lo.toNat)) (.sl ((xs.take h'.toNat).drop lo.toNat)) := by
     intro o' ho'
     refine Rd.mk_sl (by rw [hml]) (by omega) (by omega) hst hb (sz := sz) (fun x hx => hlen' x (List.mem_of_mem_take (List.mem_of_mem_drop hx))) fun i x j d hx hj => ?_
     rw [List.getElem?_drop, List.getElem?_take] at hx
     split at hx
     ·rename_i hlt
      rcases ho' with ho' | rfl
      ·omega
      ·obtain ⟨u, hu, hr⟩ := hcell _ x j d hx hj
       refine ⟨u, ?_, hr⟩
       rw [Nat.add_mul] at hu
       rw [← hu]; congr 1; omega
     ·cases hx
    have hszs : xs = [] ∨ sz = ti.sz := by
     cases xs with
     | nil => exact .inl rfl
     | cons x _ => exact .inr ((hlen' x (by simp)).symm.trans (hsz x (by simp)))
    split
    ·exact key off (by omega)
    ·simp only [Option.map_some, add_at]
     refine key _ ?_
     rcases hszs with rfl | rfl
     ·left; simp at hlen; omega
     ·right; rfl
  have fin : ∀ (m : Nat), (Instr.sliceBounds true xs.length cap (l.map a.eval) (hi.map a.eval) (mx.map a.eval)).run c.P w = .ok (lo.toNat, h'.toNat, m) w →
    (Instr.sliceAt t (.slice p xs.length cap) (l.map a.eval) (hi.map a.eval) (mx.map a.eval)).run c.P w = .ok (.slice (if m = lo.toNat then p else p.map (·.add (lo.toNat * ti.sz))) (h'.toNat - lo.toNat) (m - lo.toNat)) w := by
   intro m hb
   simp only [Instr.sliceAt, Sem.run_bind, run_under (tk_slice ht), Result.andThen_ok, Instr.slice, hb, run_size hti, Sem.run_pure]
  have hl' : (l.map a.eval = none ∧ lo = 0) ∨ ∃ k, l.map a.eval = some (.int k lo) := by
   rcases bnd_run h (d := 0) hl with ⟨rfl, rfl⟩ | ⟨y, k, rfl, hy⟩
   ·exact .inl ⟨rfl, rfl⟩
   ·exact .inr ⟨k, by simp [hy]⟩
  have hh' : (hi.map a.eval = none ∧ h' = xs.length) ∨ ∃ k, hi.map a.eval = some (.int k h') := by
   rcases bnd_run h (d := xs.length) hh with ⟨rfl, rfl⟩ | ⟨y, k, rfl, hy⟩
   ·exact .inl ⟨rfl, rfl⟩
   ·exact .inr ⟨k, by simp [hy]⟩
  split at hk
  ·rename_i hm
   have hmx : mx = none := by cases mx <;> simp at hm ⊢
   subst hmx
   exact ⟨_, _, hk, fin cap (sliceBounds_run h0 h1 h2 hcap hl' hh' (.inl ⟨rfl, rfl⟩)), fun β => .a (res cap (.inl rfl))⟩
  ·rename_i m hm
   obtain ⟨rfl, hk⟩ := hk
   obtain ⟨y, rfl, hy⟩ : ∃ y, mx = some y ∧ bnd σ c.gl 0 (some y) = some m := by
    cases mx with
    | none => cases hm
    | some y => exact ⟨y, rfl, by simpa using hm⟩
   obtain ⟨y', k, e1, hyv⟩ := (bnd_run h (d := 0) hy).resolve_left (fun hc => by cases hc.1)
   cases e1
   refine ⟨_, _, hk, fin m.toNat (sliceBounds_run h0 h1 h2 hcap hl' hh' (.inr ⟨k, by simp [hyv], rfl, ?_⟩)), fun β => .cs (res m.toNat (.inr rfl))⟩
   have := hne rfl
   cases hi <;> simp at this ⊢
  ·exact hk.elim
 ·exact hk.elim
end
end Go.VC
end
section
namespace Go.VC
open Go.RowKit
section
variable {c : Cx} {σ : S} {β : Nat → Value} {a : Act} {w : World} {o : Oper} {K : R → Prop}
theorem D.flat_rel {st st' : Nat → Prop} {w w' : World} {v : Value} {d : D} (hf : d.flat = true) (h : Rd st w v d) : Rd st' w' v d := by
 cases h with
 | v h => exact .v h
 | fn hl hd =>
  rename_i caps vs
  have : caps = [] := by simpa [D.flat] using hf
  subst this
  exact .fn hl fun j d v hj => by simp at hj
 | nil => cases hf
 | sl => cases hf
 | pt => cases hf
 | mpn => cases hf
 | mp => cases hf
theorem A.flat_rel {st st' : Nat → Prop} {w w' : World} {v : Value} {x : A} (hf : x.flat = true) (h : RelA st w v x) : RelA st' w' v x := by
 cases x with
 | d x => exact D.flat_rel hf h
 | ag xs =>
  obtain ⟨cs, e, k⟩ := h
  exact ⟨cs, e, k.1, fun i u d hu hd => D.flat_rel (List.all_eq_true.1 hf d (List.mem_of_getElem? hd)) (k.2 i u d hu hd)⟩
theorem row_rd {st : Nat → Prop} {e : TypeId} {sz : Nat} {v : Value} {xs : List (List D)} {cells : List Value} {st' : Nat → Prop} (hr : RowIs w e sz v xs.length cells) (hf : F2 (Rd st w) cells xs.flatten) (hl : ∀ x ∈ xs, x.length = sz)
  (h1 : ∀ b, st b → st' b) (h2 : ∀ b, ownB v = some b → st' b) : Rd st' w v (.sl xs) := by
 rcases hr.cells with ⟨rfl, h0, _, p, cp, rfl⟩ | ⟨g, cap, cur, rfl, hg, hn, hm, hc0, hcs, hcl, hk⟩
 ·obtain rfl : xs = [] := List.eq_nil_of_length_eq_zero h0
  rcases hr with h | ⟨_, _, p', e'⟩
  ·rcases h.2 with ⟨e', _⟩ | ⟨g, cap, cur, e', _, hg, hn, hm, _⟩
   ·cases e'; exact .nil
   ·cases e'
    cases cp with
    | zero => exact .nil
    | succ k => exact Rd.mk_sl (sz := 0) rfl (Nat.zero_le _) hm (h2 g rfl) hg (by simp) (by simp)
  ·cases e'; exact .nil
 ·cases cap with
  | zero => omega
  | succ k =>
   refine Rd.mk_sl rfl hn hm (h2 g rfl) hg hl fun i x j d hx hj => ?_
   obtain ⟨u, hu, hr'⟩ := hf.get (flat_get hl hx hj)
   exact ⟨u, by rw [Nat.zero_add]; exact hk _ u hu, hr'.mono fun b hb => ⟨h1 b hb, rfl⟩⟩
theorem argA_rel (h : Sim c σ β a w) {v : Value} {r : R} {x : A} (hv : RelR β (stF c σ β w) w v r) (ha : argA σ r = some x) : RelA (fun _ => True) w v x := by
 unfold argA at ha
 split at ha
 ·cases ha; cases hv with | a h => exact h.mono fun _ _ => ⟨trivial, rfl⟩
 ·cases ha; obtain ⟨p, n, rfl, hr⟩ := hv.inv_cs; exact hr.mono fun _ _ => ⟨trivial, rfl⟩
 ·split at ha
  ·rename_i ob e sz xs hm
   cases ha
   obtain ⟨cells, hr, hf, hl⟩ := h.obj _ _ hm
   rw [hv.inv_own]
   exact row_rd hr hf hl (fun _ _ => trivial) (fun _ _ => trivial)
  ·cases ha
 ·split at ha
  ·rename_i o kv hm
   cases ha
   obtain ⟨r, clock, es, vs, hb, hh, hl, hs, hk, hd⟩ := h.obj _ _ hm
   cases hv with
   | omp e _ => rw [← e, hb]; exact .mp trivial hh hl hs hk fun i p h1 => (hd i p h1).mono fun _ _ => ⟨trivial, rfl⟩
  ·cases ha
 ·split at ha
  ·rename_i ob off x cs hm
   obtain ⟨ds, h1, rfl⟩ := Option.map_eq_some_iff.1 ha
   obtain ⟨b, arr, e, hb, hh, hf⟩ := h.obj _ _ hm
   obtain ⟨b', hb', rfl⟩ := hv.inv_ref
   rw [hb] at hb'; cases hb'
   have hds := allD_inv h1
   refine Rd.mk_pt trivial hh fun j d hj => ?_
   rw [List.getElem?_drop] at hj
   obtain ⟨u, hu, _, hr⟩ := hf.get (show cs[off + j]? = some (.a (.d d)) by rw [hds]; simp [hj])
   exact ⟨u, by simpa using hu, hr.inv_d.mono fun _ _ => ⟨trivial, rfl⟩⟩
  ·cases ha
 all_goals cases ha
theorem argsA_rel (h : Sim c σ β a w) {rs : List R} {as : List A} (ha : argsA σ rs = some as) {vs : List Value} (hv : F2 (RelR β (stF c σ β w) w) vs rs) : F2 (RelA (fun _ => True) w) vs as := by
 induction rs generalizing as vs with
 | nil => cases ha; rw [hv.of_nil]; exact F2.nil
 | cons r rs ih =>
  unfold argsA at ha
  split at ha
  ·rename_i x xs h1 h2
   cases ha
   obtain ⟨v, vs', rfl, h3, h4⟩ := hv.of_cons
   exact F2.cons (argA_rel h h3 h1) (ih h2 h4)
  ·cases ha
theorem funcs_run {P : Program} {w : World} {f : FuncId} {args : Array Value} (h : FnOk P f) : (callFunc f args).run P w = .ok (.enter f args) w := by
 obtain ⟨fn, h1, h2, h3⟩ := h
 have h2' : fn.body ≠ none := fun e => by simp [e] at h2
 have h3' : fn.name ≠ "runtime.NumGoroutine" := by simpa using h3
 simp [callFunc, h1, h2', h3']
theorem call_run {P : Program} {w : World} {k : Call} {f : Operand} {g : FuncId} {caps : List Value} (hc : k.callee = .value f) (ht : o.op = .call k) (hf : a.eval f = .func (.func g) #[] caps.toArray) (hok : FnOk P g) :
  (execOp a.eval o).run P w = .ok (.enter g ((k.args.toList.map a.eval ++ caps).toArray)) w := by
 simp only [execOp, ht, resolve, hc, Deferred.ofValue, hf, Sem.run_bind, Sem.run_pure, Result.andThen_ok, invoke, funcs_run hok]
 congr 2
 simp [← Array.toList_map]
theorem rets_rel {st : Nat → Prop} {w : World} {n : Nat} {us : List Value} {xs : List A} (h : F2 (RelV st w n) us (xs.map Rv.a)) : RelR β st w (retV us) (retR xs) := by
 have hl : us.length = xs.length := by simpa using h.1
 have hr : ∀ i u x, us[i]? = some u → xs[i]? = some x → RelA st w u x := fun i u x hu hx => h.2 i u (.a x) hu (by simp [hx])
 match xs, us, hl with
 | [x], [u], _ => exact .a (hr 0 u x rfl rfl)
 | [], [], _ => exact .tp rfl fun j v r hj => by simp at hj
 | x :: y :: xs, u :: v :: us, hl =>
  refine .tp (vs := u :: v :: us) (by simpa using hl) fun j v r hv hr' => ?_
  simp only [List.getElem?_map, Option.map_eq_some_iff] at hr'
  obtain ⟨x', hx', rfl⟩ := hr'
  exact .a (hr j v x' hv hx')
theorem st_call {us : List Value} {res : List Rv} {w' : World} (h : Sim c σ β a w) (k : Keep (fun _ => False) w w') {b : Nat} (hb : newSt (stF c σ β w) w w' us res b) : stF c σ β w' b := by
 rcases hb with ⟨hb, _⟩ | ⟨h1, h2, _, h4⟩
 ·exact ⟨Nat.lt_of_lt_of_le hb.1 k.size, hb.2.1, hb.2.2.1, hb.2.2.2.same (k.block b hb.1 id)⟩
 ·exact ⟨h2, fun h3 => absurd (Nat.lt_of_lt_of_le h3 h.keep.size) (Nat.not_lt.2 h1), fun o x ho e => Nat.lt_irrefl _ (Nat.lt_of_lt_of_le ((h.obj o x ho).lt e) h1), h4⟩
theorem callQ_sound (h : Sim c σ β a w) {k : Call} {f : Operand} {g : FuncId} {caps : List D} (hc : k.callee = .value f) (ht : o.op = .call k) (hf : σ.eval c.gl f = .a (.d (.fn g caps)))
  (hq : callQ c.P c.gl g (k.args.toList.map (σ.eval c.gl) ++ caps.map fun d => .a (.d d)) σ K) : Run c.P o a w (QOut c σ β w K) := by
 obtain ⟨as, res, hargs, ⟨hok, hh⟩, hcase, hk⟩ := hq
 have hfv := h.eval f
 rw [hf] at hfv
 obtain ⟨cvs, hcv, hcl, hcd⟩ : ∃ cvs : List Value, a.eval f = .func (.func g) #[] cvs.toArray ∧ cvs.length = caps.length ∧ ∀ (j : Nat) (d : D) (v : Value), caps[j]? = some d → cvs[j]? = some v → Rd (stF c σ β w) w v d := by
  have := hfv.inv_d
  generalize a.eval f = v at this
  cases this with
  | fn hl hd => exact ⟨_, rfl, hl, hd⟩
 have hvs : F2 (RelR β (stF c σ β w) w) (k.args.toList.map a.eval ++ cvs) (k.args.toList.map (σ.eval c.gl) ++ caps.map fun d => .a (.d d)) := by
  refine F2.append ⟨by simp, fun i u r hu hr => ?_⟩ ⟨by simp [hcl], fun i u r hu hr => ?_⟩
  ·simp only [List.getElem?_map, Option.map_eq_some_iff] at hu hr
   obtain ⟨x, hx, rfl⟩ := hu
   obtain ⟨y, hy, rfl⟩ := hr
   rw [hx] at hy; cases hy
   exact h.eval x
  ·simp only [List.getElem?_map, Option.map_eq_some_iff] at hr
   obtain ⟨d, hd, rfl⟩ := hr
   exact .a (hcd i d u hd hu)
 refine Run.call (fun c' e => by rw [ht] at e; cases e) (call_run hc ht hcv hok) ?_
 rcases hcase with hflat | hrs
 ·refine (hh (fun _ => True) w _ (h.env.mono fun _ _ => ⟨trivial, rfl⟩) (argsA_rel h hargs hvs)).mono ?_
  rintro e w' ⟨us, rfl, hkeep, hres, _⟩
  refine ⟨_, rfl, _, hk, hkeep, rets_rel (n := w.heap.size) ⟨hres.1, fun i u r hu hr => ?_⟩⟩
  have h1 := hres.2 i u r hu hr
  simp only [List.getElem?_map, Option.map_eq_some_iff] at hr
  obtain ⟨x, hx, rfl⟩ := hr
  exact A.flat_rel (List.all_eq_true.1 hflat x (List.mem_of_getElem? hx)) h1
 ·rw [hrs] at hvs
  have hva : F2 (RelA (stF c σ β w) w) (k.args.toList.map a.eval ++ cvs) as :=
   ⟨by simpa using hvs.1, fun i u x hu hx => by
    have := hvs.2 i u (.a x) hu (by simp [hx])
    cases this with | a h => exact h⟩
  refine (hh (stF c σ β w) w _ h.env hva).mono ?_
  rintro e w' ⟨us, rfl, hkeep, hres, _⟩
  refine ⟨_, rfl, _, hk, hkeep, rets_rel (n := w.heap.size) ⟨hres.1, fun i u r hu hr => ?_⟩⟩
  have h1 := hres.2 i u r hu hr
  simp only [List.getElem?_map, Option.map_eq_some_iff] at hr
  obtain ⟨x, hx, rfl⟩ := hr
  exact RelA.mono (fun b hb => ⟨st_call h hkeep hb, rfl⟩) h1
theorem part_off {P : Program} {t : TypeId} {f fo fs : Nat} {b : Bool} {offs : List (Nat × Nat × Bool)} {bl off : Nat} (ht : tk P t = .struct offs) (hf : offs[f]? = some (fo, fs, b)) (hz : fs ≠ 0) :
  (Instr.fieldAt t (.pointer (some ⟨bl, off, none⟩)) f).run P w = .ok (.pointer (some ⟨bl, off + fo, none⟩)) w := by
 obtain ⟨fds, hu, rfl⟩ := tk_struct ht
 simp only [List.getElem?_map, Option.map_eq_some_iff] at hf
 obtain ⟨fd, hfd, he⟩ := hf
 simp only [Prod.mk.injEq] at he
 obtain ⟨rfl, rfl, _⟩ := he
 have hfd' : fds[f]? = some fd := by simpa using hfd
 cases hi : P.info? fd.type with
 | none => rw [hi] at hz; exact absurd rfl hz
 | some i =>
  rw [hi] at hz
  simp only [Option.map_some, Option.getD_some] at hz
  simp only [Instr.fieldAt, Sem.run_bind, run_under hu, Result.andThen_ok, hfd', Instr.sureAddr, Sem.run_pure, fieldPlace, sizeOf, run_info hi]
  rw [if_neg hz]
  simp [add_at]
theorem idx_slice {P : Program} {t e : TypeId} {ti : TI} {k : IntKind} {n : Int} {b off len cap : Nat} (ht : tk P t = .slice e) (hti : tinf P e = some ti) (h0 : 0 ≤ n) (h1 : n < len) :
  (Instr.indexAt t (.slice (some ⟨b, off, none⟩) len cap) (.int k n)).run P w = .ok (.pointer (some ⟨b, off + n.toNat * ti.sz, none⟩)) w := by
 simp only [Instr.indexAt, asIntOf, Sem.run_bind, Sem.run_pure, Result.andThen_ok, run_under (tk_slice ht)]
 rw [if_pos ⟨h0, h1⟩]
 simp [run_size hti, add_at]
theorem idx_arr {P : Program} {t e : TypeId} {ti : TI} {k : IntKind} {n : Int} {b off len : Nat} (ht : tk P t = .arr len e) (hti : tinf P e = some ti) (h0 : 0 ≤ n) (h1 : n < len) :
  (Instr.indexAt t (.pointer (some ⟨b, off, none⟩)) (.int k n)).run P w = .ok (.pointer (some ⟨b, off + n.toNat * ti.sz, none⟩)) w := by
 simp only [Instr.indexAt, asIntOf, Sem.run_bind, Sem.run_pure, Result.andThen_ok, run_under (tk_arr ht), Instr.sureAddr]
 rw [if_pos ⟨h0, h1⟩]
 simp [run_size hti, add_at]
theorem run_equalIn_bool {P : Program} {w : World} (d : Nat) {t : TypeId} (ht : P.underlying t = some .bool) (p q : Bool) : (Op.equalIn (d + 1) t (.bool p) (.bool q)).run P w = .ok (p == q) w := by
 simp only [Op.equalIn, Sem.run_bind, run_under ht, Result.andThen_ok]; rfl
theorem run_equal_bool {P : Program} {w : World} {t : TypeId} (ht : P.underlying t = some .bool) (p q : Bool) : (Op.equal t (.bool p) (.bool q)).run P w = .ok (p == q) w := run_equalIn_bool 9999 ht p q
theorem RelR.inv_a0 {β : Nat → Value} {st : Nat → Prop} {w : World} {v : Value} {x : A} (h : RelR β st w v (.a x)) : RelA st w v x := by cases h with | a h => exact h
theorem eqF_run {P : Program} {w : World} (d : Nat) : ∀ (fs : List Field) (k : Nat) (xs ys : List Int) (cs ds : Array Value), okF P k fs = true → xs.length = fs.length → ys.length = fs.length →
  (∀ (i : Nat) (n : Int), xs[i]? = some n → cs[k + i]? = some (.int .i64 n)) → (∀ (i : Nat) (n : Int), ys[i]? = some n → ds[k + i]? = some (.int .i64 n)) → (Op.eqFields (d + 1) cs ds fs).run P w = .ok (xs == ys) w
 | [], k, xs, ys, cs, ds, _, hx, hy, _, _ => by
  rw [List.length_nil] at hx hy
  rw [List.eq_nil_of_length_eq_zero hx, List.eq_nil_of_length_eq_zero hy]; rfl
 | f :: fs, k, [], ys, cs, ds, _, hx, _, _, _ => by simp at hx
 | f :: fs, k, x :: xs, [], cs, ds, _, _, hy, _, _ => by simp at hy
 | f :: fs, k, x :: xs, y :: ys, cs, ds, h, hx, hy, hc, hd => by
  simp only [okF, Bool.and_eq_true, bne_iff_ne, ne_eq, beq_iff_eq] at h
  obtain ⟨⟨⟨h1, h2⟩, h3⟩, h4⟩ := h
  have ht : P.underlying f.type = some (.int .i64) := by
   revert h3; split
   ·intro _; assumption
   ·intro h; cases h
  have c0 := hc 0 x rfl
  have d0 := hd 0 y rfl
  rw [Nat.add_zero, ← h2] at c0 d0
  have r1 : (part f.type cs f.offset).run P w = .ok (.int .i64 x) w := by simp [part, isAgg, run_under ht, c0]
  have r2 : (part f.type ds f.offset).run P w = .ok (.int .i64 y) w := by simp [part, isAgg, run_under ht, d0]
  have r3 : (Op.equalIn (d + 1) f.type (.int .i64 x) (.int .i64 y)).run P w = .ok (x == y) w := Go.run_equalIn_int w d f.type .i64 .i64 x y ht
  have ih := eqF_run (w := w) d fs (k + 1) xs ys cs ds h4 (by simpa using hx) (by simpa using hy) (fun i n hi => by have := hc (i + 1) n (by simpa using hi); rw [← this]; congr 1; omega) (fun i n hi => by have := hd (i + 1) n (by simpa using hi); rw [← this]; congr 1; omega)
  unfold Op.eqFields
  rw [if_pos h1]
  simp only [Sem.run_bind, r1, r2, r3, Result.andThen_ok, Sem.run_ite]
  by_cases hxy : x = y
  ·simp [hxy, ih]
  ·simp [hxy]
theorem asInts_at : ∀ {xs : List D} {a : List Int}, asInts xs = some a → ∀ (i : Nat) (n : Int), a[i]? = some n → xs[i]? = some (D.v (.int .i64 n))
 | [], a, h, i, n, hi => by simp only [asInts, Option.some.injEq] at h; subst h; simp at hi
 | x :: xs, a, h, i, n, hi => by
  unfold asInts at h
  split at h
  ·cases h; simp at hi
  ·rename_i m ds heq
   cases heq
   obtain ⟨b, hb, rfl⟩ := Option.map_eq_some_iff.1 h
   cases i with
   | zero => simp at hi; subst hi; rfl
   | succ i => simpa using asInts_at hb i n (by simpa using hi)
  ·cases h
theorem intsT_eq {P : Program} {t : TypeId} {n : Nat} (h : intsT P t = some n) : ∃ fs, P.underlying t = some (.struct fs) ∧ P.stoodInHeld t = false ∧ P.eqGuardType P.depth t = false ∧ okF P 0 fs.toList = true ∧ n = fs.toList.length := by
 unfold intsT at h
 split at h
 ·rename_i fs hf
  split at h
  ·rename_i hc
   simp only [Bool.and_eq_true, Bool.not_eq_true'] at hc
   cases h
   exact ⟨fs, hf, hc.1.1, hc.1.2, hc.2, by simp⟩
  ·cases h
 ·cases h
theorem ag_ints {st : Nat → Prop} {w : World} {v : Value} {xs : List D} {a : List Int} (h : RelA st w v (.ag xs)) (ha : asInts xs = some a) : ∃ cs : Array Value, v = .agg cs ∧ ∀ (i : Nat) (n : Int), a[i]? = some n → cs[0 + i]? = some (.int .i64 n) := by
 obtain ⟨cs, rfl, hf⟩ := h
 refine ⟨_, rfl, fun i n hi => ?_⟩
 have hx := asInts_at ha i n hi
 obtain ⟨u, hu, hr⟩ := hf.get hx
 rw [Nat.zero_add, List.getElem?_toArray, hu]
 cases hr; rfl
theorem eqS_run {P : Program} {w : World} {t : TypeId} {n : Nat} (ht : intsT P t = some n) {a b : List Int} {cs ds : Array Value} (ha : a.length = n) (hb : b.length = n)
  (hc : ∀ (i : Nat) (n : Int), a[i]? = some n → cs[0 + i]? = some (.int .i64 n)) (hd : ∀ (i : Nat) (n : Int), b[i]? = some n → ds[0 + i]? = some (.int .i64 n)) : (Op.equal t (.agg cs) (.agg ds)).run P w = .ok (a == b) w := by
 obtain ⟨fs, hu, hs, hg, ho, rfl⟩ := intsT_eq ht
 have hf : P.fieldsOf t = fs := by unfold Program.fieldsOf; rw [hu]
 show (Op.equalIn 10000 t (.agg cs) (.agg ds)).run P w = _
 rw [Go.run_equalIn_agg w 9999 t cs ds (by rw [hf]; exact hu) hs, hf]
 exact eqF_run 9998 fs.toList 0 a b cs ds ho ha hb hc hd
theorem q_bin {op : BinOp} {t ty : TypeId} {x y : Operand} (h : Sim c σ β a w) (ho : o.op = .binOp op t x y ty) (hq : opQ c.P c.gl o σ K) : Run c.P o a w (QOut c σ β w K) := by
 have hd : ∀ c : Call, o.op ≠ .defer c := fun _ e => by rw [ho] at e; cases e
 have hx := h.eval x
 have hy := h.eval y
 simp only [opQ, ho] at hq
 split at hq
 ·rename_i p q hp hq'
  rw [hp] at hx; rw [hq'] at hy
  split at hq
  ·rename_i ht
   exact q_same (v := .bool (p == q)) hd (by simp only [execOp, ho, hx.inv_v, hy.inv_v, Sem.run_bind, eqGuard, binOp, run_equal_bool (tk_bool ht), Result.andThen_ok, Sem.run_pure]; rfl) hq (.a (.v rfl))
  ·rename_i ht
   exact q_same (v := .bool (p != q)) hd (by simp only [execOp, ho, hx.inv_v, hy.inv_v, Sem.run_bind, eqGuard, binOp, run_equal_bool (tk_bool ht), Result.andThen_ok, Sem.run_pure]; rfl) hq (.a (.v rfl))
  ·exact hq.elim
 ·rename_i u v hu hv
  rw [hu] at hx; rw [hv] at hy
  split at hq
  ·rename_i p r hb
   obtain ⟨hp, hq⟩ := hq
   have := run_binOp (P := c.P) (w := w) (t := t) (x := x) (y := y) hb hp
   have h1 : r.oneCell' = true := by
    unfold binR at hb
    split at hb
    ·cases op <;> cases hb <;> rfl
    ·cases op <;> first | (cases hb; done) | (cases hb; rfl)
    ·cases hb
   exact q_same hd (by simp only [execOp, ho, hx.inv_v, hy.inv_v, Sem.run_bind] at this ⊢; rw [this]; rfl) hq (.a (.v h1))
  ·exact hq.elim
 ·rename_i xs ys hu hv
  rw [hu] at hx; rw [hv] at hy
  split at hq
  ·rename_i n la lb hn hla hlb
   obtain ⟨h1, h2, hq⟩ := hq
   obtain ⟨cs, ec, hc⟩ := ag_ints hx.inv_a0 hla
   obtain ⟨ds, ed, hd2⟩ := ag_ints hy.inv_a0 hlb
   obtain ⟨_, _, _, hg, _, _⟩ := intsT_eq hn
   have he := eqS_run (w := w) hn h1 h2 hc hd2
   split at hq
   ·exact q_same (v := .bool (la == lb)) hd (by simp only [execOp, ho, ec, ed, Sem.run_bind, Go.run_eqGuard_agg w _ t x y cs ds hg, Result.andThen_ok, binOp, he, Sem.run_pure]) hq (.a (.v rfl))
   ·exact q_same (v := .bool (!(la == lb))) hd (by simp only [execOp, ho, ec, ed, Sem.run_bind, Go.run_eqGuard_agg w _ t x y cs ds hg, Result.andThen_ok, binOp, he, Sem.run_pure]) hq (.a (.v rfl))
   ·exact hq.elim
  ·exact hq.elim
 ·exact hq.elim
theorem len_run (h : Sim c σ β a w) {t ty : TypeId} {x : Operand} {b : Bool} {n : Int} (hn : lenR σ (σ.eval c.gl x) = some (b, n)) (ht : (b = false ∧ ∃ e, tk c.P t = .slice e) ∨ (b = true ∧ tk c.P t = .str)) :
  (Builtin.len_ #[t] ty #[a.eval x]).run c.P w = .ok (.int .i64 n) w := by
 have hx := h.eval x
 have sl : ∀ p m cp, b = false → a.eval x = .slice p m cp → (m : Int) = n → (Builtin.len_ #[t] ty #[a.eval x]).run c.P w = .ok (.int .i64 n) w := by
  intro p m cp hb hv hm
  subst hm
  rcases ht with ⟨_, e, ht⟩ | ⟨hb', _⟩
  ·simp [Builtin.len_, run_under (tk_slice ht), hv, goInt]
  ·rw [hb] at hb'; cases hb'
 unfold lenR at hn
 split at hn
 ·rename_i xs he
  cases hn
  rw [he] at hx
  rcases hx.inv_d.inv_sl with ⟨⟨p, hv⟩, rfl⟩ | ⟨b, off, m, cap, sz, arr, e', fr, hv, hl, _⟩
  ·exact sl _ _ _ rfl hv rfl
  ·exact sl _ _ _ rfl hv (by rw [hl])
 ·rename_i xs he
  cases hn
  rw [he] at hx
  obtain ⟨p, m, hv, hr⟩ := hx.inv_cs
  exact sl _ _ _ rfl hv (by rw [hr.sl_len])
 ·rename_i ob he
  rw [he] at hx
  split at hn
  ·rename_i e0 sz xs hm
   cases hn
   obtain ⟨cells, hr, hf, hl⟩ := h.obj ob _ hm
   rcases hr.cells with ⟨_, h0, _, p, cp, hv⟩ | ⟨g, cap, cur, hv, _⟩
   ·exact sl _ _ _ rfl (hx.inv_own.trans hv) (by simp [h0])
   ·exact sl _ _ _ rfl (hx.inv_own.trans hv) rfl
  ·cases hn
 ·rename_i s he
  cases hn
  rw [he] at hx
  rcases ht with ⟨hb', _⟩ | ⟨_, ht⟩
  ·cases hb'
  ·simp [Builtin.len_, run_under (tk_str ht), hx.inv_v, goInt]
 ·cases hn
theorem q_call {k : Call} (h : Sim c σ β a w) (ho : o.op = .call k) (hq : opQ c.P c.gl o σ K) : Run c.P o a w (QOut c σ β w K) := by
 have hd : ∀ c : Call, o.op ≠ .defer c := fun _ e => by rw [ho] at e; cases e
 simp only [opQ, ho] at hq
 split at hq
 ·rename_i b hb
  split at hq
  ·rename_i x t hargs htys
   have ha : k.args = #[x] := by rw [← Array.toArray_toList (xs := k.args), hargs]
   have hty : k.argTypes = #[t] := by rw [← Array.toArray_toList (xs := k.argTypes), htys]
   split at hq
   ·rename_i b' n hn
    have hrun : ((b' = false ∧ ∃ e, tk c.P t = .slice e) ∨ (b' = true ∧ tk c.P t = .str)) → (execOp a.eval o).run c.P w = .ok (.value (.int .i64 n)) w := by
     intro ht
     have := len_run h (ty := o.type) hn ht
     simp [execOp, ho, resolve, hb, ha, hty, invoke, builtin, this]
    split at hq
    ·rename_i e ht
     exact q_same hd (hrun (.inl ⟨rfl, e, ht⟩)) hq (.a (.v rfl))
    ·rename_i ht
     exact q_same hd (hrun (.inr ⟨rfl, ht⟩)) hq (.a (.v rfl))
    ·exact hq.elim
   ·exact hq.elim
  ·rename_i x y hargs
   have ha : k.args = #[x, y] := by rw [← Array.toArray_toList (xs := k.args), hargs]
   have hx := h.eval x
   have hy := h.eval y
   split at hq
   ·rename_i kk m kk' m' hp hq'
    rw [hp] at hx; rw [hq'] at hy
    refine q_same (v := .int kk (if m' < m then m' else m)) hd ?_ hq (.a (.v rfl))
    simp [execOp, ho, resolve, hb, ha, invoke, builtin, Builtin.min_, hx.inv_v, hy.inv_v, Builtin.min2]
   ·exact hq.elim
  ·rename_i x y hargs
   have ha : k.args = #[x, y] := by rw [← Array.toArray_toList (xs := k.args), hargs]
   have hx := h.eval x
   have hy := h.eval y
   split at hq
   ·rename_i kk m kk' m' hp hq'
    rw [hp] at hx; rw [hq'] at hy
    refine q_same (v := .int kk (if m' > m then m' else m)) hd ?_ hq (.a (.v rfl))
    simp [execOp, ho, resolve, hb, ha, invoke, builtin, Builtin.max_, hx.inv_v, hy.inv_v, Builtin.max2]
   ·exact hq.elim
  ·exact hq.elim
 ·rename_i f hf
  split at hq
  ·rename_i g caps he
   exact callQ_sound h hf ho he hq
  ·exact hq.elim
 ·exact hq.elim
theorem cellD_rd {st : Nat → Prop} {w : World} {v : Value} (hv : v.oneCell' = true) : Rd st w v (cellD v) := by
 unfold cellD
 split
 ·exact .nil
 ·exact .mpn
 ·exact .v hv
theorem mapOf_rel {r : R} {v : Value} {kv : List (Int × D)} (h : Sim c σ β a w) (hv : RelR β (stF c σ β w) w v r) (hm : mapOf σ r = some kv) :
  (v = .map none ∧ kv = []) ∨ ∃ (r clock : Nat) (es : Array MapEntry) (vs : Nat → Value), v = .map (some r) ∧ w.heap[r]? = some (.map es clock) ∧ es.size = kv.length ∧ MapKept.Stamped es clock ∧
   (∀ (i : Nat) (e : MapEntry) (p : Int × D), es[i]? = some e → kv[i]? = some p → e.key = .int .i64 p.1 ∧ e.val = vs i) ∧
   (∀ (i : Nat) (p : Int × D), kv[i]? = some p → Rd (stF c σ β w) w (vs i) p.2) := by
 rcases r with _ | ((_ | _ | _ | _ | kv') | _) | _ | _ | _ | _ | o | _ | _ <;> simp only [mapOf] at hm <;> try cases hm
 ·have := hv.inv_d
  cases this with
  | mpn => exact .inl ⟨rfl, rfl⟩
  | mp hst hb hl hs hk hd => exact .inr ⟨_, _, _, _, rfl, hb, hl, hs, hk, hd⟩
 ·split at hm
  ·rename_i kv' ho
   cases hm
   obtain ⟨r, clock, es, vs, hb, hh, hl, hs, hk, hd⟩ := h.obj _ _ ho
   cases hv with
   | omp e _ => exact .inr ⟨r, clock, es, vs, e ▸ hb, hh, hl, hs, hk, hd⟩
  ·cases hm
theorem find_kv {n : Int} : ∀ (es : List MapEntry) (kv : List (Int × D)) (i : Nat), es.length = kv.length → (∀ (j : Nat) (e : MapEntry) (p : Int × D), es[j]? = some e → kv[j]? = some p → e.key = .int .i64 p.1) →
  (Instr.findNow (.int .i64) (.int .i64 n) es i = some none ∧ kvGet kv n = none ∧ (∀ y, kvSet kv n y = kv ++ [(n, y)]) ∧ ∀ e ∈ es, e.key ≠ .int .i64 n) ∨
  ∃ (j : Nat) (e : MapEntry) (p : Int × D), Instr.findNow (.int .i64) (.int .i64 n) es i = some (some (i + j, e.val)) ∧ es[j]? = some e ∧ kv[j]? = some p ∧ p.1 = n ∧ kvGet kv n = some p.2 ∧ ∀ y, kvSet kv n y = kv.set j (n, y)
 | [], [], i, _, _ => .inl ⟨rfl, rfl, fun _ => rfl, fun e he => by simp at he⟩
 | e :: es, (k, x) :: kv, i, hl, hk => by
  have h0 := hk 0 e (k, x) rfl rfl
  dsimp only at h0
  by_cases e0 : k = n
  ·subst e0
   exact .inr ⟨0, e, (k, x), by simp [Instr.findNow, Instr.sameNow, h0], rfl, rfl, rfl, by simp [kvGet], fun y => by simp [kvSet]⟩
  ·rcases find_kv (n := n) es kv (i + 1) (by simpa using hl) (fun j e p h1 h2 => hk (j + 1) e p (by simpa using h1) (by simpa using h2)) with ⟨h1, h2, h3, h4⟩ | ⟨j, e', p, h1, h2, h3, h4, h5, h6⟩
   ·have hb : (n == k) = false := by simpa using Ne.symm e0
    refine .inl ⟨?_, by simp [kvGet, e0, h2], fun y => by simp [kvSet, e0, h3 y], fun e' he' => ?_⟩
    ·simp [Instr.findNow, Instr.sameNow, h0, hb, h1]
    ·rcases List.mem_cons.1 he' with rfl | he'
     ·rw [h0]; intro h; cases h; exact e0 rfl
     ·exact h4 e' he'
   ·have hb : (n == k) = false := by simpa using Ne.symm e0
    refine .inr ⟨j + 1, e', p, ?_, by simpa using h2, by simpa using h3, h4, by simp [kvGet, e0, h5], fun y => by simp [kvSet, e0, h6 y]⟩
    simp [Instr.findNow, Instr.sameNow, h0, hb, h1, Nat.add_assoc, Nat.add_comm 1 j]
 | [], _ :: _, i, hl, _ => by simp at hl
 | _ :: _, [], i, hl, _ => by simp at hl
theorem look_run {t : TypeId} {x i : Operand} {ok : Bool} {r : R} (h : Sim c σ β a w) (hr : lookR c.P σ t (σ.eval c.gl x) (σ.eval c.gl i) ok = some r) :
  ∃ v, (Instr.lookup t (a.eval x) (a.eval i) ok).run c.P w = .ok v w ∧ RelR β (stF c σ β w) w v r := by
 unfold lookR at hr
 split at hr
 ·rename_i z kv n hz hm hi
  obtain ⟨kt, e, inf, u, ht, hkt, hinf, hzu, hu1, rfl⟩ := mapT_inv hz
  have hv := h.eval i
  rw [hi] at hv
  have hv := hv.inv_v
  have hzero : (zeroValue e).run c.P w = .ok u w := by simp [zeroValue, run_info hinf, hzu]
  have hkey : MapKept.IsKey (.int .i64) (.int .i64 n) := rfl
  have fin : ∀ (d : D) (v : Value) (b : Bool), Rd (stF c σ β w) w v d → (if ok then some (R.tp [.a (.d d), .a (.d (.v (.bool b)))]) else some (.a (.d d))) = some r →
    RelR β (stF c σ β w) w (if ok then .tuple #[v, .bool b] else v) r := fun d v b hd hr => by
   cases ok with
   | false => cases hr; exact .a hd
   | true =>
    cases hr
    refine .tp (by rfl) fun j v' r' hv' hr' => ?_
    match j with
    | 0 => simp at hv' hr'; subst hv'; subst hr'; exact .a hd
    | 1 => simp at hv' hr'; subst hv'; subst hr'; exact .a (.v rfl)
    | j + 2 => simp at hv'
  rcases mapOf_rel h (h.eval x) hm with ⟨hx, rfl⟩ | ⟨b, clock, es, vs, hx, hb, hl, hs, hk, hd⟩
  ·refine ⟨if ok then .tuple #[u, .bool false] else u, ?_, fin _ u false (cellD_rd hu1) (by cases ok <;> simpa [kvGet] using hr)⟩
   rw [hx, hv]
   simp only [Instr.lookup, Sem.run_bind, run_underlying ht, Result.andThen_ok, Sem.run_pure, MapKept.run_checkKey hkt hkey]
   rw [MapKept.run_findKey hkt (a := none) (by rfl)]
   simp only [Result.andThen_ok, Sem.run_bind, hzero, Sem.run_pure]
  ·rcases find_kv (n := n) es.toList kv 0 (by simpa using hl) (fun j e p h1 h2 => (hk j e p (by simpa using h1) h2).1) with ⟨h1, h2, _, _⟩ | ⟨j, e', p, h1, h2, h3, h4, h5, _⟩
   ·refine ⟨if ok then .tuple #[u, .bool false] else u, ?_, fin _ u false (cellD_rd hu1) (by cases ok <;> simpa [h2] using hr)⟩
    rw [hx, hv]
    simp only [Instr.lookup, Sem.run_bind, run_underlying ht, Result.andThen_ok, Sem.run_pure, MapKept.run_getObj_map hb, MapKept.run_checkKey hkt hkey, MapKept.run_findKey hkt h1, hzero]
   ·refine ⟨if ok then .tuple #[e'.val, .bool true] else e'.val, ?_, fin p.2 e'.val true (by rw [(hk j e' p (by simpa using h2) h3).2]; exact hd j p h3) (by cases ok <;> simpa [h5] using hr)⟩
    rw [hx, hv]
    simp only [Instr.lookup, Sem.run_bind, run_underlying ht, Result.andThen_ok, Sem.run_pure, MapKept.run_getObj_map hb, MapKept.run_checkKey hkt hkey, MapKept.run_findKey hkt h1]
 ·cases hr
theorem cells_one {v : Value} (h : v.oneCell' = true) : v.cells = #[v] := by cases v <;> first | rfl | cases h
theorem set_splice {α : Type} : ∀ (l : List α) (n : Nat) (a : α), n < l.length → l.set n a = l.take n ++ [a] ++ l.drop (n + 1)
 | [], _, _, h => by simp at h
 | x :: l, 0, a, _ => by simp
 | x :: l, n + 1, a, h => by simp [set_splice l n a (by simpa using h)]
theorem fold_splice (off : Nat) : ∀ (l : List Value) (k : Nat) (cells : Array Value), off + k + l.length ≤ cells.size →
  ((l.zipIdx k).foldl (fun (cs : Array Value) (x : Value × Nat) => cs.setIfInBounds (off + x.2) x.1) cells).toList = cells.toList.take (off + k) ++ l ++ cells.toList.drop (off + k + l.length)
 | [], k, cells, _ => by simp
 | v :: l, k, cells, h => by
  simp only [List.zipIdx_cons, List.foldl_cons]
  have ih := fold_splice off l (k + 1) (cells.setIfInBounds (off + k) v) (by simp at h ⊢; omega)
  rw [ih, Array.toList_setIfInBounds, ← Nat.add_assoc, list_seg_step cells.toList (off + k) v l (by simp at h ⊢; omega)]
  simp [Nat.add_assoc, Nat.add_comm 1]
theorem A.cells_rel {st : Nat → Prop} {v : Value} {y : A} (h : RelA st w v y) : F2 (Rd st w) v.cells.toList y.cells := by
 cases y with
 | d x => rw [cells_one (Rd.one h)]; exact F2.cons h F2.nil
 | ag xs => obtain ⟨l, rfl, hf⟩ := h; simpa [Value.cells, A.cells] using hf
theorem fill_rel {st : Nat → Prop} {place : Nat → Option (Nat × Nat)} : ∀ (ps : List (Nat × A)) {parts : List (Nat × Value)} {cells : Array Value} {ds ds' : List D},
  F2 (fun p q => p.1 = q.1 ∧ RelA st w p.2 q.2) parts ps → F2 (Rd st w) cells.toList ds → fillD place ds ps = some ds' → ∃ cells', Instr.fill place cells parts = some cells' ∧ F2 (Rd st w) cells'.toList ds'
 | [], parts, cells, ds, ds', hp, hf, h => by
  cases h
  rw [hp.of_nil]
  exact ⟨cells, rfl, hf⟩
 | (i, y) :: ps, parts, cells, ds, ds', hp, hf, h => by
  obtain ⟨⟨i', v⟩, parts', rfl, ⟨e1, hv⟩, hps⟩ := hp.of_cons
  simp only at e1 hv
  subst e1
  simp only [fillD] at h
  split at h
  ·rename_i off sz hpl
   split at h
   ·rename_i hc
    have hcell := A.cells_rel hv
    have hvl : v.cells.size = y.cells.length := by simpa using hcell.1
    have hcl : cells.size = ds.length := by simpa using hf.1
    have hsp := fold_splice off v.cells.toList 0 cells (by simp; omega)
    have ff := ((hf.take off).append hcell).append (hf.drop (off + y.cells.length))
    have key : ∀ ds2, ds2 = ds.take off ++ y.cells ++ ds.drop (off + sz) → fillD place ds2 ps = some ds' → ∃ cells', Instr.fill place cells ((i', v) :: parts') = some cells' ∧ F2 (Rd st w) cells'.toList ds' := by
     intro ds2 hds2 h2
     subst hds2
     rw [← hc.1] at h2
     obtain ⟨cells', h3, h4⟩ := fill_rel ps hps (cells := v.cells.zipIdx.foldl (fun cs (x : Value × Nat) => cs.setIfInBounds (off + x.2) x.1) cells) (ds := ds.take off ++ y.cells ++ ds.drop (off + y.cells.length)) (by
      rw [← Array.foldl_toList, Array.toList_zipIdx, hsp]
      simp only [Nat.add_zero, Array.length_toList, hvl]
      exact ff) h2
     refine ⟨cells', ?_, h4⟩
     simp only [Instr.fill, hpl]
     rw [if_neg (by simp [hvl, hc.1]; omega)]
     exact h3
    refine key _ ?_ h
    split
    ·rename_i d hd
     have : y.cells.length = 1 := by rw [hd]; rfl
     rw [set_splice ds off d (by omega), ← hc.1, hd]
     rfl
    ·rfl
   ·cases h
  ·cases h
theorem zero_rel {st : Nat → Prop} {t : TypeId} {ti : TI} {z : Value} (hz : ti.z = z.cells.toList) (h1 : ti.z.all Value.oneCell' = true) : F2 (Rd st w) z.cells.toList (ti.z.map cellD) :=
 ⟨by simp [hz], fun i u d hu hd => by
  simp only [List.getElem?_map, Option.map_eq_some_iff] at hd
  obtain ⟨v, hv, rfl⟩ := hd
  rw [hz, hu] at hv; cases hv
  exact cellD_rd (List.all_eq_true.1 h1 u (by rw [hz]; exact List.mem_of_getElem? hu))⟩
theorem run_mapM_list {α γ : Type} {P : Program} (g : α → Sem γ) (f : α → γ) : ∀ (l : List α), (∀ x ∈ l, (g x).run P w = .ok (f x) w) → (l.mapM g).run P w = .ok (l.map f) w
 | [], _ => rfl
 | x :: l, h => by
  rw [List.mapM_cons, Sem.run_bind, h x (by simp), Result.andThen_ok, Sem.run_bind, run_mapM_list g f l (fun y hy => h y (List.mem_cons_of_mem _ hy)), Result.andThen_ok]
  rfl
theorem run_mapM_arr {α γ : Type} {P : Program} (g : α → Sem γ) (f : α → γ) {l : Array α} (h : ∀ x ∈ l.toList, (g x).run P w = .ok (f x) w) : (l.mapM g).run P w = .ok (l.toList.map f).toArray w := by
 rw [Array.mapM_eq_mapM_toList, Sem.run_map, run_mapM_list g f l.toList h]
 rfl
theorem partsD_rel (h : Sim c σ β a w) : ∀ (parts : List (Nat × Operand)) {ps : List (Nat × A)}, partsD σ c.gl parts = some ps → F2 (fun p q => p.1 = q.1 ∧ RelA (stF c σ β w) w p.2 q.2) (parts.map fun x => (x.1, a.eval x.2)) ps
 | [], ps, hp => by cases hp; exact F2.nil
 | (i, x) :: rest, ps, hp => by
  simp only [partsD] at hp
  split at hp
  ·rename_i y ys hy hys
   cases hp
   refine F2.cons ⟨rfl, ?_⟩ (partsD_rel h rest hys)
   have hv := h.eval x
   unfold dataA at hy
   split at hy
   ·rename_i z hz
    cases hy
    rw [hz] at hv
    show RelA (stF c σ β w) w (a.eval x) y
    generalize a.eval x = v at hv
    cases hv with | a hv => exact hv
   ·rename_i xs hz
    cases hy
    rw [hz] at hv
    obtain ⟨p, n, e, hr⟩ := hv.inv_cs
    show RelA (stF c σ β w) w (a.eval x) (.d (.sl xs))
    rw [e]; exact hr
   ·cases hy
  ·cases hp
theorem q_build {t : TypeId} {parts : Array (Nat × Operand)} {ds : List D} (h : Sim c σ β a w) (ho : o.op = .build t parts) (hds : (partsD σ c.gl parts.toList).bind (buildD c.P t) = some ds) (hk : K (.a (.ag ds))) : Run c.P o a w (QOut c σ β w K) := by
 have hdf : ∀ c : Call, o.op ≠ .defer c := fun _ e => by rw [ho] at e; cases e
 obtain ⟨ps, hps, hb⟩ := Option.bind_eq_some_iff.1 hds
 have hps := partsD_rel h parts.toList hps
 unfold buildD at hb
 split at hb
 ·rename_i ti offs hti ht
  split at hb
  ·rename_i hc
   obtain ⟨hz1, hoffs⟩ := hc
   obtain ⟨z, hz, hzz⟩ := run_zero (w := w) hti
   obtain ⟨fds, hu, rfl⟩ := tk_struct ht
   have hplaces : (fds.mapM fun f => do pure (f.offset, ← sizeOf f.type) : Sem (Array (Nat × Nat))).run c.P w = .ok (fds.toList.map fun f => (f.offset, ((c.P.info? f.type).map (·.size)).getD 0)).toArray w := by
    have hall : ∀ f ∈ fds.toList, (c.P.info? f.type).isSome = true := fun f hf => by
     have := List.all_eq_true.1 hoffs _ (List.mem_map.2 ⟨f, hf, rfl⟩)
     cases hi : c.P.info? f.type with
     | none => rw [hi] at this; simp at this
     | some i => rfl
    refine run_mapM_arr _ _ fun f hf => ?_
    obtain ⟨i, hi⟩ := Option.isSome_iff_exists.1 (hall f hf)
    simp [sizeOf, run_info hi, hi]
   obtain ⟨cells', hfl, hrel⟩ := fill_rel (place := fun i => ((fds.toList.map fun f => (f.offset, ((c.P.info? f.type).map (·.size)).getD 0)).toArray)[i]?) ps (parts := parts.toList.map fun x => (x.1, a.eval x.2)) (cells := z.cells) (ds := ti.z.map cellD) (ds' := ds) (st := stF c σ β w) hps (zero_rel (t := t) hzz hz1) (by
    rw [← hb]
    congr 1
    funext i
    simp only [List.getElem?_toArray, List.getElem?_map, Option.map_map]
    congr 1)
   refine q_same hdf (v := .agg cells') ?_ hk (.a ⟨cells'.toList, rfl, hrel⟩)
   simp only [execOp, ho, Instr.build, Sem.run_bind, hz, Result.andThen_ok, run_under hu, hplaces]
   have e1 : (parts.map fun (x : Nat × Operand) => (x.1, a.eval x.2)).toList = parts.toList.map fun x => (x.1, a.eval x.2) := by simp
   rw [e1, hfl]
   rfl
  ·cases hb
 ·cases hb
theorem q_build0 {t e : TypeId} {ti : TI} {parts : Array (Nat × Operand)} (h : Sim c σ β a w) (ho : o.op = .buildSlice t 0 parts) (hp : parts.toList = []) (ht : tk c.P t = .slice e) (hti : tinf c.P e = some ti) (hk : K (.a (.d (.sl [])))) : Run c.P o a w (QOut c σ β w K) := by
 have hdf : ∀ c : Call, o.op ≠ .defer c := fun _ e => by rw [ho] at e; cases e
 have hp : parts = #[] := by rw [← Array.toArray_toList (xs := parts), hp]
 subst hp
 obtain ⟨i, u, z, hi, hu, hz, rfl⟩ := tinf_info hti
 refine Run.val (v := .slice (some ⟨w.heap.size, 0, none⟩) 0 0) (w' := w.alloc (.cells #[] e)) hdf ?_ ⟨_, hk, Keep.alloc _ _ _, .a (x := .d (.sl [])) (show Rd _ _ _ _ from .nil)⟩
 have h0 : Array.map (fun _ : Nat => (default : Value)) (Array.range 0) = #[] := Array.eq_empty_of_size_eq_zero (by simp)
 simp [execOp, ho, Instr.buildSlice, run_underlying (tk_slice ht), sizeOf, run_info hi, Instr.fill, newRow, h0]
theorem opQ_sound (h : Sim c σ β a w) (hq : opQ c.P c.gl o σ K) : Run c.P o a w (QOut c σ β w K) := by
 unfold opQ at hq
 split at hq
 case h_1 x ho => exact q_same (fun _ e => by rw [ho] at e; cases e) (by simp [execOp, ho]) hq (h.eval x)
 case h_2 x ho => exact q_same (fun _ e => by rw [ho] at e; cases e) (by simp [execOp, ho]) hq (h.eval x)
 case h_3 cc x y ho =>
  split at hq
  ·rename_i t ht
   have hc := h.eval cc
   rw [ht] at hc
   have hv := hc.inv_v
   split at hq
   ·exact q_same (fun _ e => by rw [ho] at e; cases e) (by simp [execOp, ho, hv, asBool]) hq (h.eval x)
   ·exact q_same (fun _ e => by rw [ho] at e; cases e) (by simp [execOp, ho, hv, asBool]) hq (h.eval y)
  ·exact hq.elim
 case h_4 t p ho =>
  split at hq
  ·rename_i r hr
   obtain ⟨v, hv, hrel⟩ := load_run h hr
   exact q_same (fun _ e => by rw [ho] at e; cases e) (by simp [execOp, ho, hv]) hq hrel
  ·exact hq.elim
 case h_5 t p f ho =>
  split at hq
  ·rename_i offs ht
   split at hq
   ·rename_i fo fs b hf
    obtain ⟨hz, hq⟩ := hq
    have hp := h.eval p
    have hd : ∀ c : Call, o.op ≠ .defer c := fun _ e => by rw [ho] at e; cases e
    split at hq
    ·rename_i ob off he
     rw [he] at hp
     obtain ⟨bl, hb, hv⟩ := hp.inv_ref
     exact q_same hd (by simp [execOp, ho, hv, part_off ht hf hz]) hq (.ref hb)
    ·rename_i cs he
     rw [he] at hp
     obtain ⟨bl, off, arr, e, fr, hv, _⟩ := hp.inv_d.inv_pt
     have := hp.inv_d
     rw [hv] at this
     exact q_same hd (by simp [execOp, ho, hv, part_off ht hf hz]) hq (.a (this.pt_drop fo))
    ·rename_i ob i sz j he
     rw [he] at hp
     obtain ⟨bl, n, cp, hb, hv⟩ := hp.inv_eref
     exact q_same (v := .pointer (some ⟨bl, i * sz + j + fo, none⟩)) hd (by simp [execOp, ho, hv, part_off ht hf hz]) hq (by rw [Nat.add_assoc]; exact .eref hb)
    ·exact hq.elim
   ·exact hq.elim
  ·exact hq.elim
 case h_6 t x i ho =>
  have hd : ∀ c : Call, o.op ≠ .defer c := fun _ e => by rw [ho] at e; cases e
  split at hq
  ·rename_i k n hi
   have hiv := h.eval i
   rw [hi] at hiv
   have hn := hiv.inv_v
   split at hq
   ·rename_i e ht
    split at hq
    ·rename_i ti hti
     have hx := h.eval x
     have row : ∀ xs, Rd (stF c σ β w) w (a.eval x) (.sl xs) → idxK n xs ti.sz (fun c => K (.a (.d (.pt c)))) → Run c.P o a w (QOut c σ β w K) := by
      intro xs hr hk
      obtain ⟨h0, hk⟩ := hk
      split at hk
      ·rename_i cc hcc
       obtain ⟨hsz, hk⟩ := hk
       have hlt := (List.getElem?_eq_some_iff.1 hcc).1
       rcases hr.inv_sl with ⟨_, rfl⟩ | ⟨b, off, len, cap, sz, arr, e', fr, hv, hlen, hc1, hc2, hst, hb, hall, hcell⟩
       ·simp at hcc
       ·have hs : sz = ti.sz := (hall cc (List.mem_of_getElem? hcc)).symm.trans hsz
        subst hs
        refine q_same (v := .pointer (some ⟨b, off + n.toNat * ti.sz, none⟩)) hd (by simp [execOp, ho, hv, hn, idx_slice ht hti h0 (show n < (len : Int) by omega)]) hk (.a (Rd.mk_pt hst hb fun j d hj => ?_))
        exact hcell _ cc j d hcc hj
      ·exact hk.elim
     split at hq
     ·rename_i xs he
      rw [he] at hx
      exact row xs hx.inv_d hq
     ·rename_i xs he
      rw [he] at hx
      obtain ⟨p, m, hv, hr⟩ := hx.inv_cs
      exact row xs (hv ▸ hr) hq
     ·rename_i ob he
      rw [he] at hx
      split at hq
      ·rename_i e' sz xs hm
       obtain ⟨h0, hk⟩ := hq
       split at hk
       ·rename_i cc hcc
        obtain ⟨hsz, hk⟩ := hk
        have hlt := (List.getElem?_eq_some_iff.1 hcc).1
        obtain ⟨cells, hrow, hf, hall⟩ := h.obj ob _ hm
        rcases hrow.cells with ⟨_, hz, _⟩ | ⟨g, cap, cur, hv, _⟩
        ·omega
        ·have hv' : a.eval x = .slice (some ⟨g, 0, none⟩) xs.length cap := hx.inv_own.trans hv
         refine q_same (v := .pointer (some ⟨g, 0 + n.toNat * ti.sz, none⟩)) hd (by simp [execOp, ho, hv', hn, idx_slice ht hti h0 (show n < (xs.length : Int) by omega)]) hk ?_
         have := RelR.eref (β := β) (st := stF c σ β w) (w := w) (o := ob) (i := n.toNat) (sz := ti.sz) (j := 0) hv
         simpa using this
       ·exact hk.elim
      ·exact hq.elim
     ·exact hq.elim
    ·exact hq.elim
   ·rename_i len e ht
    split at hq
    ·rename_i ti hti
     obtain ⟨h0, h1, hq⟩ := hq
     have hx := h.eval x
     split at hq
     ·rename_i ob off he
      rw [he] at hx
      obtain ⟨bl, hb, hv⟩ := hx.inv_ref
      exact q_same hd (by simp [execOp, ho, hv, hn, idx_arr ht hti h0 h1]) hq (.ref hb)
     ·rename_i cs he
      rw [he] at hx
      obtain ⟨bl, off, arr, e, fr, hv, _⟩ := hx.inv_d.inv_pt
      have := hx.inv_d
      rw [hv] at this
      exact q_same hd (by simp [execOp, ho, hv, hn, idx_arr ht hti h0 h1]) hq (.a (this.pt_drop _))
     ·exact hq.elim
    ·exact hq.elim
   ·exact hq.elim
  ·exact hq.elim
 case h_7 x ho =>
  have hd : ∀ c : Call, o.op ≠ .defer c := fun _ e => by rw [ho] at e; cases e
  have hx := h.eval x
  split at hq
  ·rename_i ob off he
   rw [he] at hx
   obtain ⟨bl, hb, hv⟩ := hx.inv_ref
   exact q_same hd (by simp [execOp, ho, hv]) hq (.ref hb)
  ·rename_i cs he
   rw [he] at hx
   obtain ⟨bl, off, arr, e, fr, hv, _⟩ := hx.inv_d.inv_pt
   have := hx.inv_d
   rw [hv] at this
   exact q_same hd (by simp [execOp, ho, hv]) hq (.a this)
  ·rename_i ob i sz j he
   rw [he] at hx
   obtain ⟨bl, n, cp, hb, hv⟩ := hx.inv_eref
   exact q_same hd (by simp [execOp, ho, hv]) hq (.eref hb)
  ·exact hq.elim
 case h_8 op t x y ty ho => exact q_bin h ho (by unfold opQ; rw [ho]; exact hq)
 case h_9 t x i ho =>
  have hd : ∀ c : Call, o.op ≠ .defer c := fun _ e => by rw [ho] at e; cases e
  have hx := h.eval x
  have hi := h.eval i
  split at hq
  ·rename_i s k n ht hes hei
   rw [hes] at hx; rw [hei] at hi
   obtain ⟨h0, hq⟩ := hq
   split at hq
   ·rename_i b hb
    have hlt : n.toNat < s.size := by
     by_cases hl : n.toNat < s.size
     ·exact hl
     ·rw [ByteArray.getElem?_ge' s _ hl] at hb; cases hb
    have hr := Go.run_index_string (P := c.P) w t s k n (tk_str ht)
    rw [dif_pos ⟨h0, by omega⟩] at hr
    have hbe : s[n.toNat]'hlt = b := by rw [ByteArray.getElem?_lt' s _ hlt] at hb; exact Option.some.inj hb
    rw [hbe] at hr
    exact q_same hd (by simp only [execOp, ho, hx.inv_v, hi.inv_v, Sem.run_bind]; rw [hr]; rfl) hq (.a (.v rfl))
   ·exact hq.elim
  ·exact hq.elim
 case h_10 op t x ho =>
  have hd : ∀ c : Call, o.op ≠ .defer c := fun _ e => by rw [ho] at e; cases e
  have hx := h.eval x
  split at hq
  ·rename_i u hu
   rw [hu] at hx
   split at hq
   ·rename_i v hv
    unfold unR at hv
    split at hv
    ·cases hv; exact q_same hd (by simp [execOp, ho, hx.inv_v, Op.unary, Op.intArith]) hq (.a (.v rfl))
    ·cases hv; exact q_same hd (by simp [execOp, ho, hx.inv_v, Op.unary]) hq (.a (.v rfl))
    ·cases hv
   ·exact hq.elim
  ·exact hq.elim
 case h_11 s t x ho =>
  have hd : ∀ c : Call, o.op ≠ .defer c := fun _ e => by rw [ho] at e; cases e
  have hx := h.eval x
  split at hq
  ·rename_i k0 k k' n hs ht he
   rw [he] at hx
   exact q_same (v := .int k (k.wrap n)) hd (by simp [execOp, ho, hx.inv_v, convert, run_under (tk_int hs), run_under (tk_int ht), Conv.intToInt]) hq (.a (.v rfl))
  ·exact hq.elim
 case h_12 t x i ok ho =>
  split at hq
  ·rename_i r hr
   obtain ⟨v, hv, hrel⟩ := look_run h hr
   exact q_same (fun _ e => by rw [ho] at e; cases e) (by simp [execOp, ho, hv]) hq hrel
  ·exact hq.elim
 case h_13 x i ho =>
  have hd : ∀ c : Call, o.op ≠ .defer c := fun _ e => by rw [ho] at e; cases e
  have hx := h.eval x
  split at hq
  ·rename_i rs he
   rw [he] at hx
   obtain ⟨vs, hv, hf⟩ := hx.inv_tp
   split at hq
   ·rename_i r hr
    obtain ⟨u, hu, hrel⟩ := hf.get hr
    exact q_same hd (by simp [execOp, ho, hv, Instr.extract, hu]) hq hrel
   ·exact hq.elim
  ·exact hq.elim
 case h_14 t x l hi m ho =>
  have hd : ∀ c : Call, o.op ≠ .defer c := fun _ e => by rw [ho] at e; cases e
  have hx := h.eval x
  split at hq
  ·rename_i e ht
   split at hq
   ·rename_i ti hti
    split at hq
    ·rename_i xs he
     rw [he] at hx
     obtain ⟨u, r, hk, hrun, hrel⟩ := slice_run h ht hti hx.inv_d hq.2 hq.1
     exact q_same hd (by simp [execOp, ho, hrun]) hk (hrel β)
    ·rename_i xs he
     rw [he] at hx
     obtain ⟨p, n, hv, hr⟩ := hx.inv_cs
     obtain ⟨u, r, hk, hrun, hrel⟩ := slice_run h ht hti (hv ▸ hr) hq.2 hq.1
     exact q_same hd (by simp [execOp, ho, hrun]) hk (hrel β)
    ·exact hq.elim
   ·exact hq.elim
  ·exact hq.elim
 case h_15 k ho => exact q_call h ho (by unfold opQ; rw [ho]; exact hq)
 case h_16 t parts ho =>
  split at hq
  ·rename_i ds hds
   exact q_build h ho hds hq
  ·exact hq.elim
 case h_17 t len parts ho =>
  split at hq
  ·rename_i hl
   obtain ⟨rfl, hp⟩ := hl
   split at hq
   ·rename_i e ht
    split at hq
    ·rename_i ti hti
     exact q_build0 h ho hp ht hti hq
    ·exact hq.elim
   ·exact hq.elim
  ·exact hq.elim
 case h_18 => exact hq.elim
end
end Go.VC
end
section
namespace Go.VC
open Go.RowKit
section
variable {c : Cx} {σ : S} {β : Nat → Value} {a : Act} {w : World} {o : Oper} {K : S → Prop}
theorem a_quiet (h : Sim c σ β a w) (hd : ∀ d, o.dst = some d → d < c.N) (hr : Run c.P o a w (QOut c σ β w fun r => K (σ.put o.dst r))) : Run c.P o a w (AOut c a o K) :=
 hr.mono fun v w' ⟨r, hk, hkeep, hrel⟩ => ⟨_, _, hk, (h.grow hkeep).1.put hd hrel⟩
theorem cellsR_rel {st : Nat → Prop} {v : Value} {r : R} {cs : List R} (hv : RelR β st w v r) (hc : cellsR r = some cs) : F2 (fun u x => u.oneCell' = true ∧ RelR β st w u x) v.cells.toList cs := by
 have single : ∀ {r : R}, RelR β st w v r → v.oneCell' = true → F2 (fun u x => u.oneCell' = true ∧ RelR β st w u x) v.cells.toList [r] := by
  intro r hv h1
  rw [cells_one h1]
  exact F2.cons ⟨h1, hv⟩ F2.nil
 unfold cellsR at hc
 split at hc
 ·cases hc
  cases hv with | a h =>
   obtain ⟨l, rfl, hf⟩ := h
   exact ⟨by simp [Value.cells, hf.1], fun i u x hu hx => by
    simp only [List.getElem?_map, Option.map_eq_some_iff] at hx
    obtain ⟨d, hd, rfl⟩ := hx
    have := hf.2 i u d (by simpa [Value.cells] using hu) hd
    exact ⟨this.one, .a this⟩⟩
 ·cases hc; exact single hv hv.inv_d.one
 ·cases hc
  obtain ⟨p, n, rfl, hr⟩ := hv.inv_cs
  exact single (.a hr) rfl
 ·cases hc; obtain ⟨b, _, rfl⟩ := hv.inv_ref; exact single hv rfl
 ·cases hc; obtain ⟨b, n, cp, _, rfl⟩ := hv.inv_eref; exact single hv rfl
 ·cases hc; cases hv with | own h h1 => exact single (.own h h1) h1
 ·cases hc; cases hv with | omp h h1 => exact single (.omp h h1) h1
 ·cases hc; cases hv with | clo h => exact single (.clo h) rfl
 ·cases hc
  cases hv with
  | agr hl h1 hd => exact ⟨by simpa [Value.cells] using hl, fun i u x hu hx => ⟨h1 u (List.mem_of_getElem? (by simpa [Value.cells] using hu)), hd i u x (by simpa [Value.cells] using hu) hx⟩⟩
 all_goals cases hc
theorem Sim.newBox (h : Sim c σ β a w) {d : Nat} {e : TypeId} {vals : Array Value} {cs : List R} (hf : F2 (fun u x => u.oneCell' = true ∧ RelR β (stF c σ β w) w u x) vals.toList cs) :
  Sim c (σ.newOb d (.box (cs.map (R.kill d)))) (upd β d (.pointer (some ⟨w.heap.size, 0, none⟩))) a (w.alloc (.cells vals e)) := by
 have hn : ∀ b, ownB (.pointer (some ⟨w.heap.size, 0, none⟩)) = some b → w.heap.size ≤ b ∨ ∃ y, σ.mem d = some y ∧ ownB (β d) = some b := fun b hb => by cases hb; exact .inl (Nat.le_refl _)
 refine h.new (Keep.alloc _ _ _) hn ⟨_, vals, e, rfl, heap_alloc_new _ _, by simp [hf.1], fun i u x hu hx => ?_⟩
 simp only [List.getElem?_map, Option.map_eq_some_iff] at hx
 obtain ⟨r, hr, rfl⟩ := hx
 obtain ⟨h1, h2⟩ := hf.2 i u r hu hr
 refine ⟨h1, (h2.mono fun b hb => ⟨st_new (by simp) (fun b hb => heap_alloc_old _ _ _ hb.1) hn hb, heap_alloc_old _ _ _ hb.1⟩).turn fun o' e => by simp [upd, e]⟩
theorem a_alloc {t : TypeId} (h : Sim c σ β a w) (ho : o.op = .alloc t) (hd : ∀ d, o.dst = some d → d < c.N) (hq : opA0 c.P c.gl o σ K) : Run c.P o a w (AOut c a o K) := by
 have hdf : ∀ c : Call, o.op ≠ .defer c := fun _ e => by rw [ho] at e; cases e
 simp only [opA0, ho] at hq
 split at hq
 ·rename_i ti d hti hdst
  obtain ⟨hz, hk⟩ := hq
  obtain ⟨z, hz1, hz2⟩ := run_zero (w := w) hti
  have hs := h.newBox (d := d) (e := t) (vals := z.cells) (cs := ti.z.map fun v => .a (.d (cellD v))) ⟨by simp [hz2], fun i u x hu hx => by
   simp only [List.getElem?_map, Option.map_eq_some_iff] at hx
   obtain ⟨u', hu', rfl⟩ := hx
   rw [hz2, hu] at hu'; cases hu'
   have h1 := List.all_eq_true.1 hz u (by rw [hz2]; exact List.mem_of_getElem? hu)
   exact ⟨h1, .a (cellD_rd h1)⟩⟩
  have e1 : (ti.z.map fun v => R.a (.d (cellD v))).map (R.kill d) = ti.z.map fun v => .a (.d (cellD v)) := by
   rw [List.map_map]; exact List.map_congr_left fun v _ => by simp [R.kill, R.says, R.says0]
  rw [e1] at hs
  refine Run.val (v := .pointer (some ⟨w.heap.size, 0, none⟩)) (w' := w.alloc (.cells z.cells t)) hdf ?_ ⟨_, upd β d (.pointer (some ⟨w.heap.size, 0, none⟩)), hk, ?_⟩
  ·simp [execOp, ho, Instr.alloc, hz1, newVar, newRow]
  ·rw [hdst]
   exact hs.put (fun d' e => hd d' (hdst.trans e)) (.ref (by simp [upd]))
 ·exact hq.elim
theorem a_box {t : TypeId} {x : Operand} (h : Sim c σ β a w) (ho : o.op = .box t x) (hd : ∀ d, o.dst = some d → d < c.N) (hq : opA0 c.P c.gl o σ K) : Run c.P o a w (AOut c a o K) := by
 have hdf : ∀ c : Call, o.op ≠ .defer c := fun _ e => by rw [ho] at e; cases e
 simp only [opA0, ho] at hq
 split at hq
 ·rename_i cs d hcs hdst
  have hs := h.newBox (d := d) (e := t) (cellsR_rel (h.eval x) hcs)
  refine Run.val (v := .pointer (some ⟨w.heap.size, 0, none⟩)) (w' := w.alloc (.cells (a.eval x).cells t)) hdf ?_ ⟨_, upd β d (.pointer (some ⟨w.heap.size, 0, none⟩)), hq, ?_⟩
  ·simp [execOp, ho, Instr.box, newVar, newRow]
  ·rw [hdst]
   exact hs.put (fun d' e => hd d' (hdst.trans e)) (.ref (by simp [upd]))
 ·exact hq.elim
theorem run_storeVar {P : Program} {t : TypeId} {ti : TI} {b off : Nat} {arr : Array Value} {e : TypeId} {v : Value} (hti : tinf P t = some ti) (hl : v.cells.toList.length = ti.sz) (hb : w.heap[b]? = some (.cells arr e (0, 0)))
  (hle : off + v.cells.toList.length ≤ arr.size) (h1 : ∀ u ∈ v.cells.toList, u.oneCell' = true) :
  (Instr.storeAt t (.pointer (some ⟨b, off, none⟩)) v).run P w = .ok () (w.setRow b (arr.toList.take off ++ v.cells.toList ++ arr.toList.drop (off + v.cells.toList.length)).toArray) := by
 have := run_storeCells_at P b off e v.cells.toList 0 arr w hb (by simpa using hle) h1
 simp only [Nat.add_zero] at this
 have e1 : ¬ (v.cells.size ≠ ti.sz) := by simpa using hl
 simp only [Instr.storeAt, Instr.sureAddr, Sem.run_bind, Sem.run_pure, Result.andThen_ok, storeVar, run_size hti]
 rw [if_neg e1]
 exact this
theorem setRow_keep {b : Nat} {arr : Array Value} {X : Nat → Prop} (hX : X b) : Keep X w (w.setRow b arr) :=
 ⟨rfl, rfl, rfl, by simp [World.setRow], fun k hk hx => setRow_other w b k arr fun e => hx (e ▸ hX)⟩
theorem flat_splice {sz : Nat} : ∀ (xs : List (List D)) (i j : Nat) (x ds : List D), (∀ x ∈ xs, x.length = sz) → xs[i]? = some x → j + ds.length ≤ sz →
  (xs.set i (x.take j ++ ds ++ x.drop (j + ds.length))).flatten = xs.flatten.take (i * sz + j) ++ ds ++ xs.flatten.drop (i * sz + j + ds.length)
 | [], i, j, x, ds, _, hx, _ => by simp at hx
 | y :: ys, 0, j, x, ds, h, hx, hj => by
  simp at hx; subst hx
  have hy := h y (by simp)
  simp only [List.set_cons_zero, List.flatten_cons, Nat.zero_mul, Nat.zero_add]
  rw [List.take_append_of_le_length (by omega), List.drop_append_of_le_length (by omega)]
  simp
 | y :: ys, i + 1, j, x, ds, h, hx, hj => by
  have hy := h y (by simp)
  have ih := flat_splice ys i j x ds (fun x hx => h x (by simp [hx])) (by simpa using hx) hj
  have e1 : (i + 1) * sz + j = y.length + (i * sz + j) := by rw [hy, Nat.add_mul]; omega
  simp only [List.set_cons_succ, List.flatten_cons, ih, e1]
  rw [List.take_length_add_append, Nat.add_assoc, Nat.add_assoc, List.drop_length_add_append]
  simp [Nat.add_assoc]
theorem st_setOb {ob b : Nat} {x0 x : Ob} {arr : Array Value} (hm : σ.mem ob = some x0) (hb : ownB (β ob) = some b) (k : Nat) (hk : stF c σ β w k) :
  stF c (σ.setOb ob x) β (w.setRow b arr) k ∧ (w.setRow b arr).heap[k]? = w.heap[k]? := by
 have hs : (w.setRow b arr).heap[k]? = w.heap[k]? := setRow_other _ _ _ _ fun e => hk.2.2.1 ob _ hm (by rw [hb, e])
 refine ⟨⟨by simpa [World.setRow] using hk.1, hk.2.1, fun o' z hz => ?_, hk.2.2.2.same hs⟩, hs⟩
 by_cases eo : o' = ob
 ·subst eo; exact hk.2.2.1 o' _ hm
 ·simp only [S.setOb, upd, if_neg eo] at hz; exact hk.2.2.1 o' z hz
theorem take_splice {α : Type} (cur vs : List α) (p n : Nat) (hp : p + vs.length ≤ n) (hn : n ≤ cur.length) :
  (cur.take p ++ vs ++ cur.drop (p + vs.length)).take n = (cur.take n).take p ++ vs ++ (cur.take n).drop (p + vs.length) := by
 have h1 : (cur.take n).take p = cur.take p := by rw [List.take_take]; congr 1; omega
 have hl : (cur.take p ++ vs).length = p + vs.length := by simp; omega
 rw [h1, List.take_append, hl, List.take_of_length_le (by rw [hl]; exact hp), List.drop_take]
theorem a_store {t : TypeId} {p x : Operand} (h : Sim c σ β a w) (ho : o.op = .store t p x) (hd : ∀ d, o.dst = some d → d < c.N) (hq : opA0 c.P c.gl o σ K) : Run c.P o a w (AOut c a o K) := by
 have hdf : ∀ c : Call, o.op ≠ .defer c := fun _ e => by rw [ho] at e; cases e
 simp only [opA0, ho] at hq
 split at hq
 ·rename_i σ' hst
  have hp := h.eval p
  have hx := h.eval x
  unfold storeR at hst
  split at hst
  ·rename_i ti new hti hnew
   have hcells := cellsR_rel hx hnew
   split at hst
   ·rename_i hsz
    have hvl : (a.eval x).cells.toList.length = ti.sz := by rw [hcells.1]; exact hsz
    have hv1 : ∀ u ∈ (a.eval x).cells.toList, u.oneCell' = true := fun u hu => by
     obtain ⟨i, hi⟩ := List.mem_iff_getElem?.1 hu
     have hi' := (List.getElem?_eq_some_iff.1 hi).1
     exact (hcells.2 i u _ hi (List.getElem?_eq_getElem (by rw [← hcells.1]; exact hi'))).1
    split at hst
    ·rename_i ob off hpe
     rw [hpe] at hp
     obtain ⟨b, hb, hpv⟩ := hp.inv_ref
     split at hst
     ·rename_i cs hm
      obtain ⟨b', arr, e, hb', hh, hf⟩ := h.obj ob _ hm
      rw [hb] at hb'; cases hb'
      split at hst
      ·rename_i hle
       have hlarr : arr.size = cs.length := by simpa using hf.1
       have key : ∀ cs', cs' = cs.take off ++ new ++ cs.drop (off + new.length) → K ((σ.setOb ob (.box cs')).put o.dst .any) → Run c.P o a w (AOut c a o K) := by
        intro cs' hcs' hk
        refine Run.skip (w' := w.setRow b (arr.toList.take off ++ (a.eval x).cells.toList ++ arr.toList.drop (off + (a.eval x).cells.toList.length)).toArray) hdf ?_ ⟨_, β, hk, ?_⟩
        ·simp only [execOp, ho, hpv, Sem.run_bind, run_storeVar hti hvl hh (by rw [hcells.1, hlarr]; exact hle) hv1, Result.andThen_ok, Sem.run_pure]
        ·refine (h.setOb hm (setRow_keep (by rw [hb]; rfl)) ?_).put hd .any
         rw [hb]
         refine ⟨b, _, e, rfl, setRow_heap _ _ _ _ _ _ hh, ?_⟩
         subst hcs'
         have hcl := hcells.1
         have ff := ((hf.take off).append hcells).append (hf.drop (off + new.length))
         simp only [hcl] at *
         exact F2.mono ff fun u r hr => ⟨hr.1, hr.2.mono (st_setOb hm (by rw [hb]; rfl))⟩
       cases hst
       refine key _ ?_ hq
       split
       ·rename_i r; exact set_splice cs off r (by simp at hle; omega)
       ·rfl
      ·cases hst
     ·cases hst
    ·rename_i ob i sz j hpe
     rw [hpe] at hp
     obtain ⟨b, n, cp, hb, hpv⟩ := hp.inv_eref
     split at hst
     ·rename_i e z xs hm
      split at hst
      ·rename_i y ds hy hds
       split at hst
       ·rename_i hle
        obtain ⟨cells, hrow, hf, hall⟩ := h.obj ob _ hm
        obtain rfl : z = sz := by rw [← hall y (List.mem_of_getElem? hy)]; exact hle.1
        have hnew' := allD_inv hds
        have hdl : ds.length = new.length := by rw [hnew']; simp
        have hcD : F2 (Rd (stF c σ β w) w) (a.eval x).cells.toList ds := ⟨by rw [hcells.1, hdl], fun k u d hu hd' => (hcells.2 k u (.a (.d d)) hu (by rw [hnew']; simp [hd'])).2.inv_d⟩
        have key : ∀ y', y' = y.take j ++ ds ++ y.drop (j + ds.length) → K ((σ.setOb ob (.log e z (xs.set i y'))).put o.dst .any) → Run c.P o a w (AOut c a o K) := by
         intro y' hy' hk
         rcases hrow with hrow | ⟨h0, _⟩
         ·rcases hrow.2 with ⟨_, h0⟩ | ⟨g, cap, cur, hv, _, hg, hn, hm', hs, ht⟩
          ·have := (List.getElem?_eq_some_iff.1 hy).1; omega
          ·have hil := (List.getElem?_eq_some_iff.1 hy).1
           rw [hb] at hv
           have hvi := hv
           simp only [Value.slice.injEq, Option.some.injEq, Addr.mk.injEq] at hvi
           obtain ⟨⟨rfl, _, _⟩, rfl, rfl⟩ := hvi
           have hxl : (xs.length) * z ≤ cp * z := Nat.mul_le_mul_right _ hn
           have hix : (i + 1) * z ≤ xs.length * z := Nat.mul_le_mul_right _ hil
           rw [Nat.add_mul, Nat.one_mul] at hix
           have hpos : i * z + j + (a.eval x).cells.toList.length ≤ xs.length * z := by rw [hcD.1]; omega
           obtain ⟨vs, hvs⟩ : ∃ vs, vs = (a.eval x).cells.toList := ⟨_, rfl⟩
           have hrun := run_storeVar (w := w) (off := i * z + j) hti hvl hg (by rw [hs]; omega) hv1
           rw [← hvs] at hrun hpos hcD
           have hown : ownB (β ob) = some b := by rw [hb]; cases cp with | zero => omega | succ k => rfl
           have hcl := hrow.1
           refine Run.skip (w' := w.setRow b (cur.toList.take (i * z + j) ++ vs ++ cur.toList.drop (i * z + j + vs.length)).toArray) hdf ?_ ⟨_, β, hk, ?_⟩
           ·simp only [execOp, ho, hpv, Sem.run_bind, hrun, Result.andThen_ok, Sem.run_pure]
           ·refine (h.setOb hm (setRow_keep hown) ?_).put hd .any
            have hclen : cur.toList.length = cp * z := by simpa using hs
            refine ⟨cells.take (i * z + j) ++ vs ++ cells.drop (i * z + j + vs.length), .inl ⟨?_, .inr ⟨b, cp, _, by rw [hb]; simp, Nat.zero_le _, setRow_heap _ _ _ _ _ _ hg, by simpa using hn, hm', ?_, ?_⟩⟩, ?_, ?_⟩
            ·simp only [List.length_append, List.length_take, List.length_drop, List.length_set, hcl]; omega
            ·simp only [List.size_toArray, List.length_append, List.length_take, List.length_drop, hclen]; omega
            ·simp only [List.length_set]
             rw [take_splice cur.toList vs _ _ hpos (by rw [hclen]; exact hxl), ht]
            ·subst hy'
             rw [flat_splice xs i j y ds hall hy (by rw [← hle.1]; exact hle.2)]
             have ff := ((hf.take (i * z + j)).append hcD).append (hf.drop (i * z + j + ds.length))
             rw [hcD.1]
             exact F2.mono ff fun u r hr => hr.mono (st_setOb hm hown)
            ·intro x' hx'
             subst hy'
             rcases List.mem_or_eq_of_mem_set hx' with h1 | rfl
             ·exact hall x' h1
             ·have h1 := hle.1
              have h2 := hle.2
              simp only [List.length_append, List.length_take, List.length_drop]; omega
         ·have := (List.getElem?_eq_some_iff.1 hy).1; omega
        cases hst
        refine key _ ?_ hq
        split
        ·rename_i d
         refine set_splice y j d ?_
         have := hle.2
         simp at this; omega
        ·rfl
       ·cases hst
      ·cases hst
     ·cases hst
    ·cases hst
   ·cases hst
  ·cases hst
 ·exact hq.elim
end
end Go.VC
end
section
namespace Go.VC
open Go.RowKit
section
variable {c : Cx} {σ : S} {β : Nat → Value} {a : Act} {w : World} {o : Oper} {K : S → Prop}
theorem rest1_sound (h : Sim c σ β a w) {v : Value} {r : R} {x : A} (hv : RelR β (stF c σ β w) w v r) (ha : argA σ r = some x) (hl : r.low) :
  Sim c (σ.rest1 r) β a w ∧ (∀ b, stF c σ β w b → stF c (σ.rest1 r) β w b) ∧ RelA (stF c (σ.rest1 r) β w) w v x := by
 unfold argA at ha
 split at ha
 ·cases ha; cases hv with | a h' => exact ⟨h, fun _ hb => hb, h'⟩
 ·cases ha; obtain ⟨p, n, rfl, hr⟩ := hv.inv_cs; exact ⟨h, fun _ hb => hb, hr⟩
 ·split at ha
  ·rename_i ob _ e sz xs hm
   cases ha
   obtain ⟨cells, hr, hf, hall⟩ := h.obj _ _ hm
   have hx : ∀ st, (∀ b, stF c σ β w b → st b) → (∀ b, ownB (β ob) = some b → st b) → Rd st w (β ob) (.sl xs) := fun st h1 h2 => row_rd hr hf hall h1 h2
   have hz := h.frz (f := fun _ => .sl xs) hm (fun st h1 h2 => .inl (hx st h1 h2)) (fun st h1 h2 off b hb => by
    rw [hb] at hr
    rcases hr with hr | ⟨_, _, p, hp⟩
    ·rcases hr.2 with ⟨hp, _⟩ | ⟨_, _, _, hp, _⟩ <;> cases hp
    ·cases hp) hl (fun b' hb' => hr.nd hb')
   have e1 : σ.rest1 (.own ob) = σ.frz ob fun _ => .sl xs := by simp [S.rest1, hm]
   rw [e1]
   exact ⟨hz.1, hz.2.1, by rw [hv.inv_own]; exact hx _ hz.2.1 hz.2.2⟩
  ·cases ha
 ·split at ha
  ·rename_i ob _ kv hm
   cases ha
   obtain ⟨r, clock, es, vs, hb, hh, hl', hs', hk, hd⟩ := h.obj _ _ hm
   have hx : ∀ st, (∀ b, stF c σ β w b → st b) → (∀ b, ownB (β ob) = some b → st b) → Rd st w (β ob) (.mp kv) := fun st h1 h2 => by
    rw [hb]
    exact .mp (h2 r (by rw [hb]; rfl)) hh hl' hs' hk fun i p a => (hd i p a).mono fun b hb => ⟨h1 b hb, rfl⟩
   have hz := h.frz (f := fun _ => .mp kv) hm (fun st h1 h2 => .inl (hx st h1 h2)) (fun st h1 h2 off b hb' => by rw [hb] at hb'; cases hb') hl (fun b' hb' => by rw [hb] at hb'; cases hb'; exact nd_map hh)
   have e1 : σ.rest1 (.omp ob) = σ.frz ob fun _ => .mp kv := by simp [S.rest1, hm]
   rw [e1]
   refine ⟨hz.1, hz.2.1, ?_⟩
   cases hv with | omp e _ => rw [← e]; exact hx _ hz.2.1 hz.2.2
  ·cases ha
 ·split at ha
  ·rename_i ob off x cs hm
   obtain ⟨ds, h1, rfl⟩ := Option.map_eq_some_iff.1 ha
   obtain ⟨b, arr, e, hb, hh, hf⟩ := h.obj _ _ hm
   have hds := allD_inv h1
   have hx : ∀ st, (∀ b, stF c σ β w b → st b) → (∀ b, ownB (β ob) = some b → st b) → ∀ k b', β ob = .pointer (some ⟨b', 0, none⟩) → Rd st w (.pointer (some ⟨b', k, none⟩)) (.pt (ds.drop k)) := fun st h1 h2 k b' hb' => by
    rw [hb] at hb'; cases hb'
    refine Rd.mk_pt (h2 b (by rw [hb]; rfl)) hh fun j d hj => ?_
    rw [List.getElem?_drop] at hj
    obtain ⟨u, hu, _, hr⟩ := hf.get (show cs[k + j]? = some (.a (.d d)) by rw [hds]; simp [hj])
    exact ⟨u, by simpa using hu, hr.inv_d.mono fun b hb => ⟨h1 b hb, rfl⟩⟩
   have hz := h.frz (f := fun k => .pt (ds.drop k)) hm (fun st h1 h2 => .inr ⟨b, hb⟩) hx hl (fun b' hb' => by rw [hb] at hb'; cases hb'; exact nd_cells hh)
   have e1 : σ.rest1 (.ref ob off) = σ.frz ob fun k => .pt (ds.drop k) := by simp [S.rest1, hm, h1]
   rw [e1]
   obtain ⟨b', hb', rfl⟩ := hv.inv_ref
   exact ⟨hz.1, hz.2.1, hx _ hz.2.1 hz.2.2 off b' hb'⟩
  ·cases ha
 all_goals cases ha
theorem rest_sound : ∀ (rs : List R) {σ : S} (h : Sim c σ β a w) {K : S → List A → Prop} {vs avs : List Value} {acc : List A}, F2 (RelR β (stF c σ β w) w) vs rs → F2 (RelA (stF c σ β w) w) avs acc → σ.rest rs acc K →
  ∃ σ' as, Sim c σ' β a w ∧ (∀ b, stF c σ β w b → stF c σ' β w b) ∧ F2 (RelA (stF c σ' β w) w) (avs.reverse ++ vs) as ∧ K σ' as
 | [], σ, h, K, vs, avs, acc, hv, hacc, hk => by
  rw [hv.of_nil]
  refine ⟨σ, acc.reverse, h, fun _ hb => hb, ?_, hk⟩
  rw [List.append_nil]
  refine ⟨by simp [hacc.1], fun i u x hu hx => ?_⟩
  have hl := hacc.1
  have hi := (List.getElem?_eq_some_iff.1 hu).1
  rw [List.length_reverse] at hi
  rw [List.getElem?_reverse hi] at hu
  rw [List.getElem?_reverse (by rw [← hl]; exact hi), ← hl] at hx
  exact hacc.2 _ u x hu hx
 | r :: rs, σ, h, K, vs, avs, acc, hv, hacc, hk => by
  obtain ⟨v, vs', rfl, hr, hvs⟩ := hv.of_cons
  simp only [S.rest] at hk
  split at hk
  ·rename_i x hx
   obtain ⟨hlow, hk⟩ := hk
   obtain ⟨hs, hst, hrel⟩ := rest1_sound h hr hx hlow
   have H : ∀ b, stF c σ β w b → stF c (σ.rest1 r) β w b ∧ w.heap[b]? = w.heap[b]? := fun b hb => ⟨hst b hb, rfl⟩
   obtain ⟨σ', as, h1, h2, h3, h4⟩ := rest_sound rs hs (vs := vs') (avs := v :: avs) (acc := x :: acc) (hvs.mono fun _ _ => RelR.mono H) (F2.cons hrel (hacc.mono fun _ _ => RelA.mono H)) hk
   exact ⟨σ', as, h1, fun b hb => h2 b (hst b hb), by simpa using h3, h4⟩
  ·exact hk.elim
theorem a_slice {t : TypeId} {x : Operand} {l hi m : Option Operand} (h : Sim c σ β a w) (ho : o.op = .slice t x l hi m) (hd : ∀ d, o.dst = some d → d < c.N) (hq : opA0 c.P c.gl o σ K) : Run c.P o a w (AOut c a o K) := by
 have hdf : ∀ c : Call, o.op ≠ .defer c := fun _ e => by rw [ho] at e; cases e
 simp only [opA0, ho] at hq
 split at hq
 ·rename_i ob he
  have hx := h.eval x
  rw [he] at hx
  split at hq
  ·rename_i e0 z xs e hm ht
   split at hq
   ·rename_i ti hti
    obtain ⟨hlow, hq⟩ := hq
    have e1 : argA σ (.own ob) = some (.d (.sl xs)) := by simp [argA, hm]
    have e2 : σ.rest1 (.own ob) = σ.frz ob fun _ => .sl xs := by simp [S.rest1, hm]
    obtain ⟨hs, hst, hrel⟩ := rest1_sound h hx e1 hlow
    rw [e2] at hs hrel
    obtain ⟨u, r, hk, hrun, hr⟩ := slice_run h (st := stF c (σ.frz ob fun _ => .sl xs) β w) ht hti hrel hq.2 hq.1
    refine Run.val hdf (v := u) (w' := w) (by simp [execOp, ho, hrun]) ⟨_, β, hk, hs.put hd (hr β)⟩
   ·exact hq.elim
  ·exact hq.elim
 ·exact a_quiet h hd (opQ_sound h hq)
theorem flat_len {sz : Nat} : ∀ {l : List (List D)}, (∀ c ∈ l, c.length = sz) → l.flatten.length = l.length * sz
 | [], _ => by simp
 | x :: l, h => by
  have h1 := flat_len (l := l) fun y hy => h y (List.mem_cons_of_mem _ hy)
  have h2 := h x (by simp)
  simp only [List.flatten_cons, List.length_append, List.length_cons, h1, h2, Nat.add_mul]
  omega
abbrev AOutB (c : Cx) (a : Act) (o : Oper) (β : Nat → Value) (ob : Nat) (K : S → Prop) : Value → World → Prop :=
 fun v w' => ∃ σ' β', K σ' ∧ (∀ i, i ≠ ob → β' i = β i) ∧ Sim c σ' β' (a.put o.dst v) w'
theorem appK_soundB {t : TypeId} {x y : Operand} {k : Call} (h : Sim c σ β a w) (ho : o.op = .call k) (hc : k.callee = .builtin .append) (hargs : k.args = #[x, y]) (hty : k.argTypes = #[t, t])
  (hd : ∀ d, o.dst = some d → d < c.N) (hq : appK c.P σ t (σ.eval c.gl x) (σ.eval c.gl y) o.dst K) : ∃ ob, (∀ o', σ.eval c.gl x = .own o' → ob = o') ∧ Run c.P o a w (AOutB c a o β ob K) := by
 have hdf : ∀ c : Call, o.op ≠ .defer c := fun _ e => by rw [ho] at e; cases e
 have hx := h.eval x
 have hy := h.eval y
 unfold appK at hq
 split at hq
 ·rename_i e d ys ht hdst hys
  split at hq
  ·rename_i ti hti
   obtain ⟨hz, hsz, hbs, hyl, hq⟩ := hq
   obtain ⟨i, u, z0, hi, hu, hz0, hti'⟩ := tinf_info hti
   have htsz : i.size = ti.sz := by rw [hti']
   have htbs : i.bytes = ti.bs := by rw [hti']
   have htz : z0.cells.size = ti.sz := by rw [← hz, hti']; simp
   have hst := tk_slice ht
   have exec : ∀ (v' : Value) (w' : World), (Builtin.append_ #[t, t] o.type #[a.eval x, a.eval y]).run c.P w = .ok v' w' → (execOp a.eval o).run c.P w = .ok (.value v') w' := by
    intro v' w' hr
    simp [execOp, ho, resolve, hc, hargs, hty, invoke, builtin, hr]
   -- what is appended: its cells
   have hnew : ∃ (p : Option Addr) (cp : Nat) (news : List Value), a.eval y = .slice p ys.length cp ∧ news.length = ys.length * ti.sz ∧ F2 (Rd (stF c σ β w) w) news ys.flatten ∧ (p = none → ys = []) ∧ (∀ ad, p = some ad → ys ≠ [] → ∀ j u, news[j]? = some u → w.cell? (ad.add j) = some u) := by
    have fromRd : ∀ {v}, Rd (stF c σ β w) w v (.sl ys) → ∃ (p : Option Addr) (cp : Nat) (news : List Value), v = .slice p ys.length cp ∧ news.length = ys.length * ti.sz ∧ F2 (Rd (stF c σ β w) w) news ys.flatten ∧ (p = none → ys = []) ∧ (∀ ad, p = some ad → ys ≠ [] → ∀ j u, news[j]? = some u → w.cell? (ad.add j) = some u) := by
     intro v hr
     have hfl : ys.flatten.length = ys.length * ti.sz := flat_len hyl
     rcases hr.inv_sl with ⟨⟨p, rfl⟩, rfl⟩ | ⟨b, off, n, cap, sz, arr, e', fr, rfl, rfl, hn, hm, hstb, hb, hl, hcell⟩
     ·exact ⟨p, 0, [], rfl, by simp, F2.nil, fun _ => rfl, fun _ _ h => absurd rfl h⟩
     ·have hs : ys = [] ∨ sz = ti.sz := by
       cases ys with
       | nil => exact .inl rfl
       | cons x _ => exact .inr ((hl x (by simp)).symm.trans (hyl x (by simp)))
      have hflat : ∀ k d, ys.flatten[k]? = some d → ∃ u, arr[off + k]? = some u ∧ Rd (stF c σ β w) w u d := by
       intro k d hk
       rcases hs with rfl | rfl
       ·simp at hk
       ·have hk' : k < ys.length * ti.sz := by rw [← hfl]; exact (List.getElem?_eq_some_iff.1 hk).1
        have hq' : k / ti.sz < ys.length := by rw [Nat.div_lt_iff_lt_mul hsz]; exact hk'
        have hmod : k % ti.sz < ti.sz := Nat.mod_lt _ hsz
        have hx' : ys[k / ti.sz]? = some ys[k / ti.sz] := List.getElem?_eq_getElem hq'
        have hd' : ys[k / ti.sz][k % ti.sz]? = some (ys[k / ti.sz][k % ti.sz]'(by rw [hyl _ (List.getElem_mem hq')]; exact hmod)) := List.getElem?_eq_getElem _
        have := flat_get hyl hx' hd'
        rw [Nat.div_add_mod' k ti.sz, hk] at this
        obtain ⟨u, hu, hr⟩ := hcell _ _ _ _ hx' hd'
        rw [Nat.add_assoc, Nat.div_add_mod' k ti.sz] at hu
        exact ⟨u, hu, by cases this; exact hr⟩
      refine ⟨_, cap, (List.range (ys.length * ti.sz)).map fun k => arr.getD (off + k) undef, rfl, by simp, ⟨by simp [hfl], fun k u d hu hd => ?_⟩, fun h => (by cases h), fun ad had _ j u hu => ?_⟩
      ·simp only [List.getElem?_map, Option.map_eq_some_iff] at hu
       obtain ⟨k', hk', rfl⟩ := hu
       obtain ⟨hlt, rfl⟩ := List.getElem?_eq_some_iff.1 hk'
       obtain ⟨u, hu, hr⟩ := hflat k d hd
       simp only [List.getElem_range, Array.getD_eq_getD_getElem?, hu]
       exact hr
      ·cases had
       simp only [List.getElem?_map, Option.map_eq_some_iff] at hu
       obtain ⟨k', hk', rfl⟩ := hu
       obtain ⟨hlt, rfl⟩ := List.getElem?_eq_some_iff.1 hk'
       simp only [List.length_range] at hlt
       obtain ⟨u, hu, hr⟩ := hflat j _ (List.getElem?_eq_getElem (by rw [hfl]; exact hlt))
       rw [add_at, cell_at hb]
       simp only [List.getElem_range, Array.getD_eq_getD_getElem?, hu, Option.getD_some]
    unfold rowsR at hys
    split at hys
    ·rename_i xs he
     cases hys
     rw [he] at hy
     exact fromRd (RelR.inv_d hy)
    ·rename_i xs he
     cases hys
     rw [he] at hy
     obtain ⟨p, n, hv, hr⟩ := hy.inv_cs
     rw [hv]; exact fromRd hr
    ·rename_i ob he
     rw [he] at hy
     split at hys
     ·rename_i e' z' xs hm
      cases hys
      obtain ⟨cells, hr, hf, hl⟩ := h.obj ob _ hm
      rw [hy.inv_own]
      rcases hr.cells with ⟨rfl, h0, _, p, cp, hv⟩ | ⟨g, cap, cur, hv, hg, hn, hm', _, _, hcl, hk⟩
      ·have : ys = [] := List.eq_nil_of_length_eq_zero h0
       subst this
       exact ⟨p, cp, [], hv, by simp, F2.nil, fun _ => rfl, fun _ _ h => absurd rfl h⟩
      ·refine ⟨_, cap, cells, hv, ?_, hf, fun h => (by cases h), fun ad had _ j u hu => ?_⟩
       ·cases hys' : ys with
        | nil => subst hys'; simpa using hcl
        | cons x l =>
         have h1 := hl x (by rw [hys']; simp)
         have h2 := hyl x (by rw [hys']; simp)
         rw [← hys', hcl, ← h1, h2]
       ·cases had
        rw [add_at, cell_at hg]
        simpa using hk j u hu
     ·cases hys
    ·cases hys
   obtain ⟨p, cp, news, hyv, hnl, hnf, hp0, hnc⟩ := hnew
   have h1 : ∀ u ∈ news, u.oneCell' = true := fun u hu => by
    obtain ⟨i, hi⟩ := List.mem_iff_getElem?.1 hu
    have hi' := (List.getElem?_eq_some_iff.1 hi).1
    exact (hnf.2 i u _ hi (List.getElem?_eq_getElem (by rw [← hnf.1]; exact hi'))).one
   -- the end: the new row is object ob
   have fin : ∀ (ob : Nat) (xs : List (List D)) (cells : List Value) (v' : Value) (w' : World) (row : Option Nat), F2 (Rd (stF c σ β w) w) cells xs.flatten → (∀ x ∈ xs, x.length = ti.sz) →
     (Builtin.append_ #[t, t] o.type #[a.eval x, a.eval y]).run c.P w = .ok v' w' → RowIs w' e ti.sz v' (xs ++ ys).length (cells ++ news) → w.grownBy w' row →
     (∀ b, row = some b → ∃ y, σ.mem ob = some y ∧ ownB (β ob) = some b) → (∀ b, ownB v' = some b → w.heap.size ≤ b ∨ row = some b) →
     K ((σ.newOb ob (.log e ti.sz (xs ++ ys))).put (some d) (.own ob)) → Run c.P o a w (AOutB c a o β ob K) := by
    intro ob xs cells v' w' row hf hxl hrun hrow hg hrb hvb hk
    have hn : ∀ b, ownB v' = some b → w.heap.size ≤ b ∨ ∃ y, σ.mem ob = some y ∧ ownB (β ob) = some b := fun b hb => (hvb b hb).imp id (hrb b)
    have kp : Keep (fun b => ∃ y, σ.mem ob = some y ∧ ownB (β ob) = some b) w w' := Keep.grown hg hrb
    have hs := h.new (o := ob) (x := .log e ti.sz (xs ++ ys)) (bv := v') kp hn ⟨cells ++ news, hrow, by
     rw [List.flatten_append]
     exact (hf.append hnf).mono fun _ _ => Rd.mono fun b hb => ⟨st_new kp.size (fun b hb => kp.block b hb.1 fun ⟨y, h1, h2⟩ => hb.2.2.1 ob y h1 h2) hn hb, kp.block b hb.1 fun ⟨y, h1, h2⟩ => hb.2.2.1 ob y h1 h2⟩, fun c hc => by
     rcases List.mem_append.1 hc with h1 | h1
     ·exact hxl c h1
     ·exact hyl c h1⟩
    refine Run.val hdf (exec v' w' hrun) ⟨_, upd β ob v', hk, fun i hi => by simp [upd, hi], ?_⟩
    rw [hdst]
    refine hs.put (fun d' e => hd d' (hdst.trans e)) (.own (by simp [upd]) ?_)
    rcases hrow with hr | ⟨_, _, p, rfl⟩
    ·rcases hr.2 with ⟨rfl, _⟩ | ⟨g, cap, cur, rfl, _⟩ <;> rfl
    ·rfl
   -- a row that grows into new memory
   have grow : ∀ (ob : Nat) (xs : List (List D)) (cells : List Value) (q : Option Addr) (cap : Nat), a.eval x = .slice q xs.length cap → F2 (Rd (stF c σ β w) w) cells xs.flatten → (∀ x ∈ xs, x.length = ti.sz) → cells.length = xs.length * ti.sz →
     (∀ ad, q = some ad → ∀ j v, cells[j]? = some v → w.cell? (ad.add j) = some v) → (q = none → xs = [] ∧ cap = 0) → cap < xs.length + ys.length → xs.length ≤ cap → (xs.length + ys.length) * ti.bs ≤ 140737488355328 →
     K ((σ.newOb ob (.log e ti.sz (xs ++ ys))).put (some d) (.own ob)) → Run c.P o a w (AOutB c a o β ob K) := by
    intro ob xs cells q cap hxv hf hxl hcl hcc hq0 hcap hxc hbytes hk
    have hyne : ys ≠ [] := fun h => by subst h; simp at hcap; omega
    obtain ⟨ad, rfl⟩ : ∃ ad, p = some ad := by
     cases p with
     | none => exact absurd (hp0 rfl) hyne
     | some ad => exact ⟨ad, rfl⟩
    have hlen : xs.length + ys.length ≤ 140737488355328 := Nat.le_trans (Nat.le_mul_of_pos_right _ hbs) hbytes
    have hge := grownCap_ge w (xs.length + ys.length) cap e
    have hcm := grownCap_le_maxLen w (xs.length + ys.length) cap e (by simp only [maxLen]; omega)
    have mk : ∀ (cs : Array Value), cs.toList = cells ++ news ++ (Builtin.zeroCells z0.cells (grownCap w (xs.length + ys.length) cap e - (xs.length + ys.length))).toList →
      (Builtin.append_ #[t, t] o.type #[a.eval x, a.eval y]).run c.P w = .ok (.slice (some ⟨w.heap.size, 0, none⟩) (xs.length + ys.length) (grownCap w (xs.length + ys.length) cap e)) (w.drew.alloc (.cells cs e)) → Run c.P o a w (AOutB c a o β ob K) := by
     intro cs hcs hrun
     refine fin ob xs cells _ _ none hf hxl hrun (.inl ⟨by simp [hcl, hnl, Nat.add_mul], .inr ⟨w.heap.size, _, cs, by simp, Nat.zero_le _, heap_alloc_new w.drew _, by simpa using hge, hcm, ?_, ?_⟩⟩) ⟨rfl, rfl, rfl, by simp, fun k hk _ => heap_alloc_old w.drew _ k hk⟩ (fun b hb => by cases hb) (fun b hb => ?_) hk
     ·rw [← Array.length_toList, hcs]
      simp only [List.length_append, hcl, hnl, Array.length_toList, size_zeroCells, htz, ← Nat.add_mul]
      congr 1; omega
     ·rw [hcs]
      have e1 : (xs ++ ys).length * ti.sz = (cells ++ news).length := by simp [hcl, hnl, Nat.add_mul]
      rw [e1, List.take_left]
     ·left
      cases hcp : grownCap w (xs.length + ys.length) cap e with
      | zero => rw [hcp] at hb; cases hb
      | succ k => rw [hcp] at hb; cases hb; exact Nat.le_refl _
    cases q with
    | none =>
     obtain ⟨rfl, rfl⟩ := hq0 rfl
     obtain rfl : cells = [] := List.eq_nil_of_length_eq_zero (by simpa using hcl)
     have hpos : 0 < ys.length := by cases ys with | nil => exact absurd rfl hyne | cons => simp
     simp only [List.length_nil, Nat.zero_add] at hbytes hlen hcap mk
     refine mk _ ?_ (by rw [hxv, hyv]; exact run_append_nil (P := c.P) w t o.type e i z0 hst hi hz0 ad ys.length cp news (by rw [hnl, htsz]) (hnc ad rfl hyne) hpos (by omega) (by rw [htbs]; omega))
     simp
    | some bd =>
     have hnx : Builtin.nextslicecap (xs.length + ys.length) cap * i.bytes ≤ 281474976710656 := by
      have := nextslicecap_le hcap
      rw [htbs]
      calc _ ≤ (2 * (xs.length + ys.length)) * ti.bs := Nat.mul_le_mul_right _ this
       _ = 2 * ((xs.length + ys.length) * ti.bs) := by rw [Nat.mul_assoc]
       _ ≤ _ := by omega
     refine mk _ ?_ (by rw [hxv, hyv]; exact run_append_grow (P := c.P) w t o.type e i z0 hst hi hz0 bd xs.length cap cells (by rw [hcl, htsz]) (hcc bd rfl) ad ys.length cp news (by rw [hnl, htsz]) (hnc ad rfl hyne) hcap (by omega) hnx)
     simp
   split at hq
   ·rename_i ob he
    rw [he] at hx
    split at hq
    ·rename_i e' z' xs hm
     obtain ⟨rfl, rfl, hbytes, hk⟩ := hq
     obtain ⟨cells, hr, hf, hl⟩ := h.obj ob _ hm
     have hxv := hx.inv_own
     have hlen : xs.length + ys.length ≤ 140737488355328 := Nat.le_trans (Nat.le_mul_of_pos_right _ hbs) hbytes
     refine ⟨ob, fun o' e => by rw [he] at e; cases e; rfl, ?_⟩
     by_cases hyne : ys = []
     ·-- nothing is appended
      subst hyne
      obtain rfl : news = [] := List.eq_nil_of_length_eq_zero (by simpa using hnl)
      have hrun : (Builtin.append_ #[t, t] o.type #[a.eval x, a.eval y]).run c.P w = .ok (a.eval x) w := by
       have hshape : ∃ q cap, a.eval x = .slice q xs.length cap ∧ xs.length ≤ cap := by
        rw [hxv]
        rcases hr.cells with ⟨_, h0, _, q, cap, hv⟩ | ⟨g, cap, cur, hv, _, hn, _⟩
        ·exact ⟨q, cap, by rw [hv, h0], by omega⟩
        ·exact ⟨_, cap, hv, hn⟩
       obtain ⟨q, cap, hv, hle⟩ := hshape
       have hfc : ∀ w : World, (Builtin.firstCells ti.sz 0 (.slice p 0 cp)).run c.P w = .ok #[] w := by
        intro w
        cases p <;> simp [Builtin.firstCells, loadCells, loadCellsFrom]
       simp only [List.length_nil] at hyv
       have hsf : ∀ (b : Option Addr), (if let some a := b then storeCells (a.add (xs.length * ti.sz)) (#[] : Array Value).toList else pure () : Sem Unit).run c.P w = .ok () w := by
        intro b; cases b <;> rfl
       rw [hv, hyv]
       simp only [Builtin.append_, List.getElem?_toArray, List.getElem?_cons_zero, List.getElem?_cons_succ, Sem.run_bind, run_under hst, Result.andThen_ok, run_size hti]
       cases q <;> simp [Builtin.lenOf, hle, hfc, storeCells]
      refine fin ob xs cells _ w (ownB (β ob)) hf hl hrun (by rw [hxv]; simpa using hr) ⟨rfl, rfl, rfl, Nat.le_refl _, fun _ _ _ => rfl⟩ (fun b hb => ⟨_, hm, hb⟩) (fun b hb => .inr (by rw [← hxv]; exact hb)) hk
     ·rcases hr.cells with ⟨rfl, h0, hob, q, cap, hv⟩ | ⟨g, cap, cur, hv, hg, hn, hmx, hcpos, hcs, hcl, hkk⟩
      ·have hxs : xs = [] := List.eq_nil_of_length_eq_zero h0
       subst hxs
       have hpos : 0 < ys.length := by cases ys with | nil => exact absurd rfl hyne | cons => simp
       have hcap0 : cap = 0 ∨ ∃ k, cap = k + 1 ∧ q = none := by
        cases cap with
        | zero => exact .inl rfl
        | succ k =>
         cases q with
         | none => exact .inr ⟨k, rfl, rfl⟩
         | some ad => rw [hv] at hob; cases hob
       rcases hcap0 with rfl | ⟨k, rfl, rfl⟩
       ·exact grow ob [] [] q 0 (hxv.trans hv) hf hl (by simp) (fun _ _ j v hj => by simp at hj) (fun _ => ⟨rfl, rfl⟩) (by simpa using hpos) (by simp) hbytes hk
       ·exfalso
        rw [hv] at hr
        rcases hr with hr | ⟨_, _, p', e'⟩
        ·rcases hr.2 with ⟨e', _⟩ | ⟨_, _, _, e', _⟩ <;> cases e'
        ·cases e'
      ·by_cases hroom : xs.length + ys.length ≤ cap
       ·obtain ⟨ad, rfl⟩ : ∃ ad, p = some ad := by
         cases p with
         | none => exact absurd (hp0 rfl) hyne
         | some ad => exact ⟨ad, rfl⟩
        have hfit : xs.length * i.size + news.length ≤ cur.size := by rw [hnl, hcs, htsz, ← Nat.add_mul]; exact Nat.mul_le_mul_right _ hroom
        have hrun := run_append_room (P := c.P) w t o.type _ i hst hi g xs.length cap cur hg ad ys.length cp news (by rw [hnl, htsz]) (hnc ad rfl hyne) h1 hroom hfit
        have hob : ownB (β ob) = some g := by rw [hv]; cases cap with | zero => omega | succ k => rfl
        refine fin ob xs cells _ _ (some g) hf hl (by rw [hxv, hv, hyv]; exact hrun) (.inl ⟨by simp [hcl, hnl, Nat.add_mul], .inr ⟨g, cap, _, by simp, Nat.zero_le _, setRow_heap w g cur _ _ _ hg, by simpa using hroom, hmx, ?_, ?_⟩⟩) ⟨rfl, rfl, rfl, by simp [World.setRow], fun k _ hk => setRow_other w g k _ (fun e => hk (by rw [e]))⟩ (fun b hb => ⟨_, hm, by rw [hob]; exact hb⟩) (fun b hb => .inr ?_) hk
        ·rw [← htsz] at *
         simp only [List.size_toArray, List.length_append, List.length_take, List.length_drop, Array.length_toList]
         omega
        ·rw [← htsz]
         have hcl' : cells = cur.toList.take (xs.length * i.size) := by
          apply List.ext_getElem?
          intro k
          rw [List.getElem?_take]
          by_cases hk' : k < xs.length * i.size
          ·rw [if_pos hk']
           have : k < cells.length := by rw [hcl, ← htsz]; exact hk'
           rw [List.getElem?_eq_getElem this]
           have := hkk k _ (List.getElem?_eq_getElem this)
           simpa using this.symm
          ·rw [if_neg hk', List.getElem?_eq_none (by rw [hcl, ← htsz]; omega)]
         have e1 : (xs ++ ys).length * i.size = (cells ++ news).length := by simp [hcl, hnl, htsz, Nat.add_mul]
         rw [hcl'] at e1 ⊢
         rw [e1, List.take_left]
        ·cases cap with
         | zero => omega
         | succ k => cases hb; rfl
       ·exact grow ob xs cells _ cap (hxv.trans hv) hf hl hcl (fun ad had j v hj => by cases had; rw [add_at, cell_at hg]; simpa using hkk j v hj) (fun h => by cases h) (by omega) hn hbytes hk
    ·exact hq.elim
   ·rename_i xs he
    rw [he] at hx
    obtain ⟨hyne, hxl, hbytes, hk⟩ := hq
    obtain ⟨q, n, hv, hr⟩ := hx.inv_cs
    refine ⟨d, fun o' e => (by rw [he] at e; cases e), ?_⟩
    have hpos : 0 < ys.length := by cases ys with | nil => exact absurd rfl hyne | cons => simp
    rcases hr.inv_sl with ⟨⟨q', e1⟩, rfl⟩ | ⟨b, off, n', cap, sz, arr, e', fr, e1, hn, hc1, hc2, hstb, hb, hall, hcell⟩
    ·cases e1
     exact grow d [] [] q 0 hv F2.nil (by simp) (by simp) (fun _ _ j v hj => by simp at hj) (fun _ => ⟨rfl, rfl⟩) (by simpa using hpos) (by simp) hbytes hk
    ·cases e1
     subst hn
     have hs : xs = [] ∨ sz = ti.sz := by
      cases xs with
      | nil => exact .inl rfl
      | cons x _ => exact .inr ((hall x (by simp)).symm.trans (hxl x (by simp)))
     have hfl : xs.flatten.length = xs.length * ti.sz := flat_len hxl
     have hflat : ∀ k d, xs.flatten[k]? = some d → ∃ u, arr[off + k]? = some u ∧ Rd (stF c σ β w) w u d := by
      intro k d' hk'
      rcases hs with rfl | rfl
      ·simp at hk'
      ·have hlt : k < xs.length * ti.sz := by rw [← hfl]; exact (List.getElem?_eq_some_iff.1 hk').1
       have hq' : k / ti.sz < xs.length := by rw [Nat.div_lt_iff_lt_mul hsz]; exact hlt
       have hx' : xs[k / ti.sz]? = some xs[k / ti.sz] := List.getElem?_eq_getElem hq'
       have hd' : xs[k / ti.sz][k % ti.sz]? = some (xs[k / ti.sz][k % ti.sz]'(by rw [hxl _ (List.getElem_mem hq')]; exact Nat.mod_lt _ hsz)) := List.getElem?_eq_getElem _
       have := flat_get hxl hx' hd'
       rw [Nat.div_add_mod' k ti.sz, hk'] at this
       obtain ⟨u, hu, hr⟩ := hcell _ _ _ _ hx' hd'
       rw [Nat.add_assoc, Nat.div_add_mod' k ti.sz] at hu
       exact ⟨u, hu, by cases this; exact hr⟩
     refine grow d xs ((List.range (xs.length * ti.sz)).map fun k => arr.getD (off + k) undef) _ xs.length hv ⟨by simp [hfl], fun k u d' hu hd' => ?_⟩ hxl (by simp) (fun ad had j v hj => ?_) (fun h => by cases h) (by omega) (Nat.le_refl _) hbytes hk
     ·simp only [List.getElem?_map, Option.map_eq_some_iff] at hu
      obtain ⟨k', hk', rfl⟩ := hu
      obtain ⟨hlt, rfl⟩ := List.getElem?_eq_some_iff.1 hk'
      obtain ⟨u, hu, hr⟩ := hflat k d' hd'
      simp only [List.getElem_range, Array.getD_eq_getD_getElem?, hu]
      exact hr
     ·cases had
      simp only [List.getElem?_map, Option.map_eq_some_iff] at hj
      obtain ⟨k', hk', rfl⟩ := hj
      obtain ⟨hlt, rfl⟩ := List.getElem?_eq_some_iff.1 hk'
      simp only [List.length_range] at hlt
      obtain ⟨u, hu, hr⟩ := hflat j _ (List.getElem?_eq_getElem (by rw [hfl]; exact hlt))
      rw [add_at, cell_at hb]
      simp only [List.getElem_range, Array.getD_eq_getD_getElem?, hu, Option.getD_some]
   ·exact hq.elim
  ·exact hq.elim
 ·exact hq.elim
theorem appK_sound {t : TypeId} {x y : Operand} {k : Call} (h : Sim c σ β a w) (ho : o.op = .call k) (hc : k.callee = .builtin .append) (hargs : k.args = #[x, y]) (hty : k.argTypes = #[t, t])
  (hd : ∀ d, o.dst = some d → d < c.N) (hq : appK c.P σ t (σ.eval c.gl x) (σ.eval c.gl y) o.dst K) : Run c.P o a w (AOut c a o K) := by
 obtain ⟨ob, _, hr⟩ := appK_soundB h ho hc hargs hty hd hq
 exact hr.mono fun v w' ⟨σ', β', hk, _, hs⟩ => ⟨σ', β', hk, hs⟩
end
end Go.VC
end
