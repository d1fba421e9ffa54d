/- The abstract machine's data: what a value of the machine stands for, and that it stands for the same where memory that it may look at has not changed. -/
import Derived.OrdersIn
import Derived.RangeFuncIn
import Derived.RangeFuncNested
import Derived.RangeFuncLeaves
import Derived.Maps.AppendAt
import Derived.Laws.MakeOwn
import Derived.Below
import Derived.MapKept
set_option linter.unusedVariables false
set_option linter.unusedSimpArgs false
namespace Go.VC
open Go.RowKit

/-! ### Lists, place by place -/
def F2 {α β : Type} (r : α → β → Prop) (l : List α) (l' : List β) : Prop :=
  l.length = l'.length ∧ ∀ (i : Nat) (a : α) (b : β), l[i]? = some a → l'[i]? = some b → r a b
section
variable {α β : Type} {r r' : α → β → Prop} {l l1 : List α} {l' l1' : List β}
theorem F2.nil : F2 r [] [] := ⟨rfl, fun i a b h => by simp at h⟩
theorem F2.cons {a : α} {b : β} (h : r a b) (t : F2 r l l') : F2 r (a :: l) (b :: l') :=
  ⟨by simp [t.1], fun i x y hx hy => by
    cases i with
    | zero => simp at hx hy; subst hx; subst hy; exact h
    | succ i => exact t.2 i x y (by simpa using hx) (by simpa using hy)⟩
theorem F2.mono (h : F2 r l l') (k : ∀ a b, r a b → r' a b) : F2 r' l l' := ⟨h.1, fun i a b x y => k _ _ (h.2 i a b x y)⟩
theorem F2.uncons {a : α} {l2 : List α} {b : β} {l2' : List β} (h : F2 r (a :: l2) (b :: l2')) : r a b ∧ F2 r l2 l2' :=
  ⟨h.2 0 a b rfl rfl, by simpa using h.1, fun i x y hx hy => h.2 (i + 1) x y (by simpa using hx) (by simpa using hy)⟩
theorem F2.of_nil {l : List α} (h : F2 r l ([] : List β)) : l = [] := List.eq_nil_of_length_eq_zero h.1
theorem F2.of_cons {l : List α} {b : β} {t : List β} (h : F2 r l (b :: t)) : ∃ a s, l = a :: s ∧ r a b ∧ F2 r s t := by
  cases l with
  | nil => exact absurd h.1 (by simp)
  | cons a s => exact ⟨a, s, rfl, h.uncons.1, h.uncons.2⟩
theorem F2.append (h : F2 r l l') (k : F2 r l1 l1') : F2 r (l ++ l1) (l' ++ l1') := by
  refine ⟨by simp [h.1, k.1], fun i a b x y => ?_⟩
  rw [List.getElem?_append] at x y
  by_cases hi : i < l.length
  · rw [if_pos hi] at x; rw [if_pos (by rw [← h.1]; exact hi)] at y; exact h.2 i a b x y
  · rw [if_neg hi] at x; rw [if_neg (by rw [← h.1]; exact hi)] at y; rw [← h.1] at y; exact k.2 _ a b x y
theorem F2.set {a : α} {b : β} (h : F2 r l l') (hr : r a b) (n : Nat) : F2 r (l.set n a) (l'.set n b) := by
  refine ⟨by simp [h.1], fun i x y hx hy => ?_⟩
  rw [List.getElem?_set] at hx hy
  by_cases hn : n = i
  · subst hn
    rw [if_pos rfl] at hx hy
    by_cases hl : n < l.length
    · rw [if_pos hl] at hx; rw [if_pos (by rw [← h.1]; exact hl)] at hy
      cases hx; cases hy; exact hr
    · rw [if_neg hl] at hx; cases hx
  · rw [if_neg hn] at hx hy; exact h.2 i x y hx hy
theorem F2.take (h : F2 r l l') (n : Nat) : F2 r (l.take n) (l'.take n) := by
  refine ⟨by simp [h.1], fun i x y hx hy => ?_⟩
  rw [List.getElem?_take] at hx hy
  split at hx
  · rw [if_pos ‹_›] at hy; exact h.2 i x y hx hy
  · cases hx
theorem F2.drop (h : F2 r l l') (n : Nat) : F2 r (l.drop n) (l'.drop n) := by
  refine ⟨by simp [h.1], fun i x y hx hy => ?_⟩
  rw [List.getElem?_drop] at hx hy
  exact h.2 _ x y hx hy
theorem F2.get (h : F2 r l l') {i : Nat} {b : β} (hb : l'[i]? = some b) : ∃ a, l[i]? = some a ∧ r a b := by
  have hi : i < l'.length := (List.getElem?_eq_some_iff.1 hb).1
  exact ⟨l[i]'(by rw [h.1]; exact hi), by simp, h.2 i _ _ (by simp) hb⟩
theorem F2.map {γ δ : Type} {s : γ → δ → Prop} {f : γ → α} {g : δ → β} {m : List γ} {m' : List δ} (h : F2 s m m') (k : ∀ a b, s a b → r (f a) (g b)) : F2 r (m.map f) (m'.map g) :=
  ⟨by simp [h.1], fun i a b x y => by
    simp only [List.getElem?_map, Option.map_eq_some_iff] at x y
    obtain ⟨x', hx, rfl⟩ := x
    obtain ⟨y', hy, rfl⟩ := y
    exact k _ _ (h.2 i x' y' hx hy)⟩
end

/-! ### Data -/
/-- One cell's datum that nobody writes any more. -/
inductive D where
  | v (x : Value)
  | sl (xs : List (List D))
  | pt (cs : List D)
  | fn (f : FuncId) (caps : List D)
  | mp (kv : List (Int × D))
/-- A value: of one cell, or a struct's, an array's. -/
inductive A where
  | d (x : D)
  | ag (xs : List D)
instance : Inhabited D := ⟨.v undef⟩

inductive Rd (st : Nat → Prop) (w : World) : Value → D → Prop
  | v {x : Value} (h : x.oneCell' = true) : Rd st w x (.v x)
  | nil {p : Option Addr} : Rd st w (.slice p 0 0) (.sl [])
  | sl {b off cap sz n : Nat} {arr : Array Value} {e : TypeId} {fr : Nat × Nat} {xs : List (List D)} {vs : Nat → Nat → Value}
      (hst : st b) (hb : w.heap[b]? = some (.cells arr e fr)) (hn : n = xs.length) (hcap : n ≤ cap) (hm : cap ≤ maxLen) (hlen : ∀ x ∈ xs, x.length = sz)
      (hc : ∀ i, i < xs.length → ∀ j, j < sz → arr[off + i * sz + j]? = some (vs i j))
      (hd : ∀ (i : Nat) (x : List D) (j : Nat) (d : D), xs[i]? = some x → x[j]? = some d → Rd st w (vs i j) d) :
      Rd st w (.slice (some ⟨b, off, none⟩) n cap) (.sl xs)
  | pt {b off : Nat} {arr : Array Value} {e : TypeId} {fr : Nat × Nat} {cs : List D} {vs : Nat → Value}
      (hst : st b) (hb : w.heap[b]? = some (.cells arr e fr)) (hc : ∀ j, j < cs.length → arr[off + j]? = some (vs j))
      (hd : ∀ (j : Nat) (d : D), cs[j]? = some d → Rd st w (vs j) d) : Rd st w (.pointer (some ⟨b, off, none⟩)) (.pt cs)
  | fn {f : FuncId} {caps : List D} {vs : List Value} (hl : vs.length = caps.length)
      (hd : ∀ (j : Nat) (d : D) (v : Value), caps[j]? = some d → vs[j]? = some v → Rd st w v d) : Rd st w (.func (.func f) #[] vs.toArray) (.fn f caps)
  | mpn : Rd st w (.map none) (.mp [])
  | mp {r clock : Nat} {es : Array MapEntry} {kv : List (Int × D)} {vs : Nat → Value} (hst : st r) (hb : w.heap[r]? = some (.map es clock)) (hl : es.size = kv.length) (hs : MapKept.Stamped es clock)
      (hk : ∀ (i : Nat) (e : MapEntry) (p : Int × D), es[i]? = some e → kv[i]? = some p → e.key = .int .i64 p.1 ∧ e.val = vs i)
      (hd : ∀ (i : Nat) (p : Int × D), kv[i]? = some p → Rd st w (vs i) p.2) : Rd st w (.map (some r)) (.mp kv)

theorem Rd.mono {st st' : Nat → Prop} {w w' : World} (H : ∀ b, st b → st' b ∧ w'.heap[b]? = w.heap[b]?) {v : Value} {d : D} (h : Rd st w v d) : Rd st' w' v d := by
  induction h with
  | v h => exact .v h
  | nil => exact .nil
  | sl hst hb hn hcap hm hlen hc _ ih => exact .sl (H _ hst).1 ((H _ hst).2.trans hb) hn hcap hm hlen hc ih
  | pt hst hb hc _ ih => exact .pt (H _ hst).1 ((H _ hst).2.trans hb) hc ih
  | fn hl _ ih => exact .fn hl ih
  | mpn => exact .mpn
  | mp hst hb hl hs hk _ ih => exact .mp (H _ hst).1 ((H _ hst).2.trans hb) hl hs hk ih
theorem Rd.one {st : Nat → Prop} {w : World} {v : Value} {d : D} (h : Rd st w v d) : v.oneCell' = true := by
  cases h <;> first | assumption | rfl

def RelA (st : Nat → Prop) (w : World) (v : Value) : A → Prop
  | .d x => Rd st w v x
  | .ag xs => ∃ cs : List Value, v = .agg cs.toArray ∧ F2 (Rd st w) cs xs
theorem RelA.mono {st st' : Nat → Prop} {w w' : World} (H : ∀ b, st b → st' b ∧ w'.heap[b]? = w.heap[b]?) {v : Value} {x : A} (h : RelA st w v x) : RelA st' w' v x := by
  cases x with
  | d x => exact Rd.mono H h
  | ag xs => obtain ⟨cs, e, k⟩ := h; exact ⟨cs, e, k.mono fun _ _ => Rd.mono H⟩

/-- The block that a value alone leads to. -/
def ownB : Value → Option Nat
  | .pointer (some a) => some a.block
  | .slice (some a) _ (_ + 1) => some a.block
  | .map (some r) => some r
  | _ => none

/-! ### Registers and objects -/
inductive R where
  | any
  | a (x : A)
  | cs (xs : List (List D))
  | ref (o off : Nat)
  | eref (o i sz j : Nat)
  | own (o : Nat)
  | omp (o : Nat)
  | clo (f : FuncId) (caps : List (Nat × Nat))
  | tp (xs : List R)
  | sem (os : List Nat) (p : (Nat → Value) → Value → Prop)
  | agr (xs : List R)
instance : Inhabited R := ⟨.any⟩
/-- An object that is told by a statement of its own: which other objects it speaks of, and what it says. -/
structure SemOb where
  os : List Nat
  p : (Nat → Value) → (Nat → Prop) → World → Value → Prop
  lt : ∀ {β : Nat → Value} {st : Nat → Prop} {w : World} {bv : Value}, p β st w bv → ∀ b, ownB bv = some b → b < w.heap.size
  mono : ∀ {β : Nat → Value} {st st' : Nat → Prop} {w w' : World} {bv : Value}, (∀ b, st b → st' b ∧ w'.heap[b]? = w.heap[b]?) → p β st w bv → (∀ b, ownB bv = some b → w'.heap[b]? = w.heap[b]?) → p β st' w' bv
  dep : ∀ {β β' : Nat → Value} {st : Nat → Prop} {w : World} {bv : Value}, (∀ o ∈ os, β' o = β o) → p β st w bv → p β' st w bv
inductive Ob where
  | box (cs : List R)
  | log (e : TypeId) (sz : Nat) (xs : List (List D))
  | mpo (kv : List (Int × D))
  | iter (kv : List (Int × D)) (seen : List Nat)
  | frame (vs : List Value) (rs : Nat → R)
  | sem (x : SemOb)
  | lost

inductive RelR (β : Nat → Value) (st : Nat → Prop) (w : World) : Value → R → Prop
  | any {v : Value} : RelR β st w v .any
  | a {v : Value} {x : A} (h : RelA st w v x) : RelR β st w v (.a x)
  | cs {p : Option Addr} {n : Nat} {xs : List (List D)} (h : Rd st w (.slice p n n) (.sl xs)) : RelR β st w (.slice p n n) (.cs xs)
  | ref {o off b : Nat} (h : β o = .pointer (some ⟨b, 0, none⟩)) : RelR β st w (.pointer (some ⟨b, off, none⟩)) (.ref o off)
  | eref {o i sz j b n c : Nat} (h : β o = .slice (some ⟨b, 0, none⟩) n c) : RelR β st w (.pointer (some ⟨b, i * sz + j, none⟩)) (.eref o i sz j)
  | own {o : Nat} {v : Value} (h : β o = v) (h1 : v.oneCell' = true) : RelR β st w v (.own o)
  | omp {o : Nat} {v : Value} (h : β o = v) (h1 : v.oneCell' = true) : RelR β st w v (.omp o)
  | clo {f : FuncId} {caps : List (Nat × Nat)} {vs : List Value}
      (h : F2 (fun v c => ∃ b, β c.1 = .pointer (some ⟨b, 0, none⟩) ∧ v = .pointer (some ⟨b, c.2, none⟩)) vs caps) : RelR β st w (.func (.func f) #[] vs.toArray) (.clo f caps)
  | tp {vs : List Value} {xs : List R} (hl : vs.length = xs.length)
      (hd : ∀ (j : Nat) (v : Value) (r : R), vs[j]? = some v → xs[j]? = some r → RelR β st w v r) : RelR β st w (.tuple vs.toArray) (.tp xs)
  | agr {vs : List Value} {xs : List R} (hl : vs.length = xs.length) (h1 : ∀ v ∈ vs, v.oneCell' = true)
      (hd : ∀ (j : Nat) (v : Value) (r : R), vs[j]? = some v → xs[j]? = some r → RelR β st w v r) : RelR β st w (.agg vs.toArray) (.agr xs)
  | sem {os : List Nat} {p : (Nat → Value) → Value → Prop} {v : Value} (h : p β v) (hp : ∀ β', (∀ o ∈ os, β' o = β o) → p β' v) : RelR β st w v (.sem os p)

/-- Which objects a register names. -/
def R.says0 (o : Nat) : R → Bool
  | .ref o' _ | .own o' | .omp o' | .eref o' _ _ _ => o' == o
  | .clo _ caps => caps.any fun c => c.1 == o
  | .tp _ | .agr _ => true
  | .sem os _ => os.any fun o' => o' == o
  | _ => false
def R.says (o : Nat) : R → Bool
  | .tp xs | .agr xs => xs.any (R.says0 o)
  | r => r.says0 o
def R.kill (o : Nat) (r : R) : R := if r.says o then .any else r
def Ob.kill (o : Nat) : Ob → Ob
  | .box cs => .box (cs.map (R.kill o))
  | .frame vs rs => .frame vs fun t => (rs t).kill o
  | .sem x => if x.os.any (fun o' => o' == o) then .lost else .sem x
  | x => x

theorem RelR.mono {β : Nat → Value} {st st' : Nat → Prop} {w w' : World} (H : ∀ b, st b → st' b ∧ w'.heap[b]? = w.heap[b]?) {v : Value} {r : R} (h : RelR β st w v r) : RelR β st' w' v r := by
  induction h with
  | any => exact .any
  | a h => exact .a (h.mono H)
  | cs h => exact .cs (h.mono H)
  | ref h => exact .ref h
  | eref h => exact .eref h
  | own h h1 => exact .own h h1
  | omp h h1 => exact .omp h h1
  | clo h => exact .clo h
  | tp hl _ ih => exact .tp hl ih
  | agr hl h1 _ ih => exact .agr hl h1 ih
  | sem h hp => exact .sem h hp
/-- Another place for objects that the register doesn't name. -/
theorem RelR.turn {β β' : Nat → Value} {st : Nat → Prop} {w : World} {o : Nat} (H : ∀ o', o' ≠ o → β' o' = β o') {v : Value} {r : R} (h : RelR β st w v r) : RelR β' st w v (r.kill o) := by
  have flat : ∀ {v : Value} {r : R}, RelR β st w v r → r.says0 o = false → RelR β' st w v r := by
    intro v r h
    cases h with
    | any => exact fun _ => .any
    | a h => exact fun _ => .a h
    | cs h => exact fun _ => .cs h
    | ref h => intro k; simp [R.says0] at k; exact .ref ((H _ k).trans h)
    | eref h => intro k; simp [R.says0] at k; exact .eref ((H _ k).trans h)
    | own h h1 => intro k; simp [R.says0] at k; exact .own ((H _ k).trans h) h1
    | omp h h1 => intro k; simp [R.says0] at k; exact .omp ((H _ k).trans h) h1
    | clo h =>
      intro k
      simp only [R.says0, List.any_eq_false, beq_iff_eq] at k
      refine .clo ⟨h.1, fun i v c hv hc => ?_⟩
      obtain ⟨b, hb, e⟩ := h.2 i v c hv hc
      exact ⟨b, (H _ (k c (List.mem_of_getElem? hc))).trans hb, e⟩
    | tp hl hd => intro k; simp [R.says0] at k
    | agr hl h1 hd => intro k; simp [R.says0] at k
    | sem h hp =>
      intro k
      simp only [R.says0, List.any_eq_false, beq_iff_eq] at k
      have e : ∀ o' ∈ _, β' o' = β o' := fun o' ho' => H o' (k o' ho')
      exact .sem (hp _ e) fun β2 h2 => hp β2 fun o' ho' => (h2 o' ho').trans (e o' ho')
  unfold R.kill
  split
  · exact .any
  · rename_i hk
    cases h with
    | tp hl hd =>
      refine .tp hl fun j v r hv hr => flat (hd j v r hv hr) ?_
      simp only [R.says, Bool.not_eq_true, List.any_eq_false] at hk
      simpa using hk r (List.mem_of_getElem? hr)
    | agr hl h1 hd =>
      refine .agr hl h1 fun j v r hv hr => flat (hd j v r hv hr) ?_
      simp only [R.says, Bool.not_eq_true, List.any_eq_false] at hk
      simpa using hk r (List.mem_of_getElem? hr)
    | any => exact .any
    | a h => exact .a h
    | cs h => exact .cs h
    | ref h => exact flat (.ref h) (by simpa [R.says] using hk)
    | eref h => exact flat (.eref h) (by simpa [R.says] using hk)
    | own h h1 => exact flat (.own h h1) (by simpa [R.says] using hk)
    | omp h h1 => exact flat (.omp h h1) (by simpa [R.says] using hk)
    | clo h => exact flat (.clo h) (by simpa [R.says] using hk)
    | sem h hp => exact flat (.sem h hp) (by simpa [R.says] using hk)

def RowIs (w : World) (e : TypeId) (sz : Nat) (v : Value) (n : Nat) (cells : List Value) : Prop :=
  w.ownsRow 0 e sz v n cells ∨ (n = 0 ∧ cells = [] ∧ ∃ p, v = .slice p 0 0)

def ObRel (β : Nat → Value) (st : Nat → Prop) (w : World) (bv : Value) : Ob → Prop
  | .box cs => ∃ (b : Nat) (arr : Array Value) (e : TypeId), bv = .pointer (some ⟨b, 0, none⟩) ∧ w.heap[b]? = some (.cells arr e (0, 0)) ∧
      F2 (fun v r => v.oneCell' = true ∧ RelR β st w v r) arr.toList cs
  | .log e sz xs => ∃ cells : List Value, RowIs w e sz bv xs.length cells ∧ F2 (Rd st w) cells xs.flatten ∧ ∀ x ∈ xs, x.length = sz
  | .mpo kv => ∃ (r clock : Nat) (es : Array MapEntry) (vs : Nat → Value), bv = .map (some r) ∧ w.heap[r]? = some (.map es clock) ∧ es.size = kv.length ∧ MapKept.Stamped es clock ∧
      (∀ (i : Nat) (e : MapEntry) (p : Int × D), es[i]? = some e → kv[i]? = some p → e.key = .int .i64 p.1 ∧ e.val = vs i) ∧
      (∀ (i : Nat) (p : Int × D), kv[i]? = some p → Rd st w (vs i) p.2)
  | .iter kv seen => ∃ b : Nat, bv = .pointer (some ⟨b, 0, none⟩) ∧ ((kv = [] ∧ seen = [] ∧ w.heap[b]? = some (.mapIter none 0 #[] 0)) ∨
      ∃ (m clock : Nat) (es : Array MapEntry) (vs : Nat → Value) (arr : Array Nat), st m ∧ w.heap[b]? = some (.mapIter (some m) clock arr clock) ∧ w.heap[m]? = some (.map es clock) ∧ es.size = kv.length ∧ MapKept.Stamped es clock ∧
        (∀ (i : Nat) (e : MapEntry) (p : Int × D), es[i]? = some e → kv[i]? = some p → e.key = .int .i64 p.1 ∧ e.val = vs i) ∧
        (∀ (i : Nat) (p : Int × D), kv[i]? = some p → Rd st w (vs i) p.2) ∧ F2 (fun s i => ∃ e, es[i]? = some e ∧ e.born = s) arr.toList seen)
  | .frame vs rs => ownB bv = none ∧ ∀ t, RelR β st w (vs.getD t undef) (rs t)
  | .sem x => x.p β st w bv
  | .lost => ∀ b, ownB bv = some b → b < w.heap.size

theorem RowIs.same {w w' : World} {e : TypeId} {sz n : Nat} {v : Value} {cells : List Value} (h : RowIs w e sz v n cells) (H : ∀ b, ownB v = some b → w'.heap[b]? = w.heap[b]?) (h0 : ∀ a m, v = .slice (some a) m 0 → w'.heap[a.block]? = w.heap[a.block]?) : RowIs w' e sz v n cells := by
  rcases h with h | h
  · refine .inl ⟨h.1, ?_⟩
    rcases h.2 with k | ⟨g, cap, cur, rfl, hb, hg, rest⟩
    · exact .inl k
    · refine .inr ⟨g, cap, cur, rfl, hb, ?_, rest⟩
      cases cap with
      | zero => exact (h0 _ _ rfl).trans hg
      | succ c => exact (H g rfl).trans hg
  · exact .inr h
/-- A row of no capacity may as well be told as empty. -/
theorem RowIs.low {w : World} {e : TypeId} {sz n : Nat} {v : Value} {cells : List Value} (h : RowIs w e sz v n cells) : RowIs w e sz v n cells ∧ ∀ a m, v = .slice (some a) m 0 → (n = 0 ∧ cells = [] ∧ ∃ p, v = .slice p 0 0) := by
  refine ⟨h, fun a m e' => ?_⟩
  rcases h with h | h
  · rcases h.2 with ⟨k, _⟩ | ⟨g, cap, cur, rfl, hb, hg, hn, hm, hs, ht⟩
    · rw [k] at e'; cases e'
    · cases e'
      obtain rfl : n = 0 := by omega
      refine ⟨rfl, ?_, _, rfl⟩
      have := h.1
      exact List.eq_nil_of_length_eq_zero (by simpa using this)
  · exact h
theorem RowIs.kept {w w' : World} {e : TypeId} {sz n : Nat} {v : Value} {cells : List Value} (h : RowIs w e sz v n cells) (H : ∀ b, ownB v = some b → w'.heap[b]? = w.heap[b]?) : RowIs w' e sz v n cells := by
  obtain ⟨h, h0⟩ := h.low
  by_cases hz : ∃ a m, v = .slice (some a) m 0
  · obtain ⟨a, m, e'⟩ := hz
    exact .inr (h0 a m e')
  · exact h.same H fun a m e' => absurd ⟨a, m, e'⟩ hz

theorem ObRel.mono {β : Nat → Value} {st st' : Nat → Prop} {w w' : World} (H : ∀ b, st b → st' b ∧ w'.heap[b]? = w.heap[b]?) {bv : Value} {x : Ob} (h : ObRel β st w bv x)
    (k : ∀ b, ownB bv = some b → w'.heap[b]? = w.heap[b]?) : ObRel β st' w' bv x := by
  cases x with
  | box cs =>
    obtain ⟨b, arr, e, rfl, hb, hr⟩ := h
    exact ⟨b, arr, e, rfl, (k b rfl).trans hb, hr.mono fun _ _ h => ⟨h.1, h.2.mono H⟩⟩
  | log e sz xs =>
    obtain ⟨cells, hr, hf, hs⟩ := h
    exact ⟨cells, hr.kept k, hf.mono fun _ _ => Rd.mono H, hs⟩
  | mpo kv =>
    obtain ⟨r, clock, es, vs, rfl, hb, hl, hs, hk, hd⟩ := h
    exact ⟨r, clock, es, vs, rfl, (k r rfl).trans hb, hl, hs, hk, fun i p a => (hd i p a).mono H⟩
  | iter kv seen =>
    obtain ⟨b, rfl, h | ⟨m, clock, es, vs, arr, hm, hb, hh, hl, hs, hk, hd, hf⟩⟩ := h
    · exact ⟨b, rfl, .inl ⟨h.1, h.2.1, (k b rfl).trans h.2.2⟩⟩
    · exact ⟨b, rfl, .inr ⟨m, clock, es, vs, arr, (H m hm).1, (k b rfl).trans hb, (H m hm).2.trans hh, hl, hs, hk, fun i p a => (hd i p a).mono H, hf⟩⟩
  | frame vs rs => exact ⟨h.1, fun t => (h.2 t).mono H⟩
  | sem x => exact x.mono H h k
  | lost =>
    intro b hb
    have h1 := h b hb
    have h2 := k b hb
    rcases Nat.lt_or_ge b w'.heap.size with hlt | hge
    · exact hlt
    · rw [Array.getElem?_eq_none hge] at h2
      rw [Array.getElem?_eq_getElem h1] at h2
      cases h2
theorem ObRel.turn {β β' : Nat → Value} {st : Nat → Prop} {w : World} {o : Nat} (H : ∀ o', o' ≠ o → β' o' = β o') {bv : Value} {x : Ob} (h : ObRel β st w bv x) : ObRel β' st w bv (x.kill o) := by
  cases x with
  | box cs =>
    obtain ⟨b, arr, e, rfl, hb, hr⟩ := h
    refine ⟨b, arr, e, rfl, hb, by simp [hr.1], fun i v r hv hr' => ?_⟩
    simp only [List.getElem?_map, Option.map_eq_some_iff] at hr'
    obtain ⟨r0, h0, rfl⟩ := hr'
    exact ⟨(hr.2 i v r0 hv h0).1, (hr.2 i v r0 hv h0).2.turn H⟩
  | log e sz xs => exact h
  | mpo kv => exact h
  | iter kv seen => exact h
  | frame vs rs => exact ⟨h.1, fun t => (h.2 t).turn H⟩
  | sem x =>
    simp only [Ob.kill]
    split
    · exact fun b hb => x.lt h b hb
    · rename_i hk
      simp only [Bool.not_eq_true, List.any_eq_false, beq_iff_eq] at hk
      exact x.dep (fun o' ho' => H o' (hk o' ho')) h
  | lost => exact h

end Go.VC
