/- The abstract machine: registers, objects, and what each operation of the loaded code does to them; 'awp': what must hold ahead of a piece of code so that something holds behind it. -/
import Derived.Test.YtjmbgnncokeliaaDoorVA
set_option linter.unusedVariables false
set_option linter.unusedSimpArgs false
namespace Go.VC
open Go.RowKit

/-! ### Types, as the machine needs them -/
def cellD : Value → D
  | .slice none 0 0 => .sl []
  | .map none => .mp []
  | x => .v x
structure TI where
  sz : Nat
  bs : Nat
  ag : Bool
  z : List Value
def isAggD : TypeDesc → Bool
  | .struct _ | .array _ _ => true
  | _ => false
def tinf (P : Program) (t : TypeId) : Option TI :=
  match P.info? t, P.underlying t with
  | some i, some u => match i.zero with
    | some z => some ⟨i.size, i.bytes, isAggD u, z.cells.toList⟩
    | none => none
  | _, _ => none
inductive TK where
  | bool | int (k : IntKind) | str | slice (e : TypeId) | arr (n : Nat) (e : TypeId) | struct (offs : List (Nat × Nat × Bool))
  | map (k e : TypeId) | ptr (e : TypeId) | fn | iface | other
def tk (P : Program) (t : TypeId) : TK :=
  match P.underlying t with
  | some .bool => .bool
  | some (.int k) => .int k
  | some .string => .str
  | some (.slice e) => .slice e
  | some (.array n e) => .arr n e
  | some (.struct fs) => .struct (fs.toList.map fun f => (f.offset, ((P.info? f.type).map (·.size)).getD 0, ((P.underlying f.type).map isAggD).getD true))
  | some (.map k e) => .map k e
  | some (.pointer e) => .ptr e
  | some (.func _ _ _) => .fn
  | some (.interface _) => .iface
  | _ => .other

/-! ### States -/
structure S where
  regs : Nat → R
  mem : Nat → Option Ob
def upd {α : Type} (f : Nat → α) (t : Nat) (x : α) : Nat → α := fun i => if i = t then x else f i
def S.put (σ : S) (dst : Option Tmp) (r : R) : S :=
  match dst with
  | some d => { σ with regs := upd σ.regs d r }
  | none => σ
def S.newOb (σ : S) (o : Nat) (x : Ob) : S := { regs := fun t => (σ.regs t).kill o, mem := upd (fun o' => (σ.mem o').map (Ob.kill o)) o (some x) }
def S.setOb (σ : S) (o : Nat) (x : Ob) : S := { σ with mem := upd σ.mem o (some x) }
/-- A register behind an object's being laid to rest: it tells what the object held. -/
def R.frz (o : Nat) (f : Nat → D) : R → R
  | .own o' => if o' = o then .a (.d (f 0)) else .own o'
  | .omp o' => if o' = o then .a (.d (f 0)) else .omp o'
  | .ref o' off => if o' = o then .a (.d (f off)) else .ref o' off
  | r => if r.says o then .any else r
def Ob.frz (o : Nat) (f : Nat → D) : Ob → Ob
  | .box cs => .box (cs.map (R.frz o f))
  | .frame vs rs => .frame vs fun t => (rs t).frz o f
  | .sem x => if x.os.any (fun o' => o' == o) then .lost else .sem x
  | x => x
def S.frz (σ : S) (o : Nat) (f : Nat → D) : S := { regs := fun t => (σ.regs t).frz o f, mem := fun o' => if o' = o then none else (σ.mem o').map (Ob.frz o f) }

def constR : Value → R
  | .agg cs => if cs.toList.all Value.oneCell' then .a (.ag (cs.toList.map cellD)) else .any
  | .tuple _ => .any
  | .slice none 0 0 => .cs []
  | x => .a (.d (cellD x))
def S.eval (gl : Nat → Option (List D)) (σ : S) : Operand → R
  | .tmp t => σ.regs t
  | .const v => constR v
  | .global g => match gl g with
    | some cs => .a (.d (.pt cs))
    | none => .any
  | .func f => .a (.d (.fn f []))

/-- All of one cell. -/
def allD : List R → Option (List D)
  | [] => some []
  | .a (.d x) :: rs => (allD rs).map (x :: ·)
  | _ :: _ => none
/-- A register's cells, as they are stored. -/
def cellsR : R → Option (List R)
  | .a (.ag ds) => some (ds.map fun d => .a (.d d))
  | .a (.d x) => some [.a (.d x)]
  | .cs xs => some [.a (.d (.sl xs))]
  | .ref o f => some [.ref o f]
  | .eref o i s j => some [.eref o i s j]
  | .own o => some [.own o]
  | .omp o => some [.omp o]
  | .clo f c => some [.clo f c]
  | .agr xs => some xs
  | .any | .tp _ | .sem _ _ => none

def loadR (P : Program) (σ : S) (t : TypeId) (p : R) : Option R :=
  match tinf P t with
  | none => none
  | some ti =>
    match p with
    | .ref o off => match σ.mem o with
      | some (.box cs) => match ti.ag with
        | true => if off + ti.sz ≤ cs.length then (allD ((cs.drop off).take ti.sz)).map fun ds => .a (.ag ds) else none
        | false => cs[off]?
      | _ => none
    | .a (.d (.pt cs)) => match ti.ag with
      | true => if ti.sz ≤ cs.length then some (.a (.ag (cs.take ti.sz))) else none
      | false => (cs[0]?).map fun d => .a (.d d)
    | .eref o i sz j => match σ.mem o with
      | some (.log _ _ xs) => match xs[i]? with
        | some x => if x.length = sz then (match ti.ag with
          | true => if j + ti.sz ≤ x.length then some (.a (.ag ((x.drop j).take ti.sz))) else none
          | false => (x[j]?).map fun d => .a (.d d)) else none
        | none => none
      | _ => none
    | _ => none

def storeR (P : Program) (σ : S) (t : TypeId) (p x : R) : Option S :=
  match tinf P t, cellsR x with
  | some ti, some new =>
    if new.length = ti.sz then
      match p with
      | .ref o off => match σ.mem o with
        | some (.box cs) => if off + new.length ≤ cs.length then
            some (σ.setOb o (.box (match new with
              | [r] => cs.set off r
              | _ => cs.take off ++ new ++ cs.drop (off + new.length)))) else none
        | _ => none
      | .eref o i sz j => match σ.mem o with
        | some (.log e z xs) => match xs[i]?, allD new with
          | some y, some ds => if y.length = sz ∧ j + ds.length ≤ y.length then
              some (σ.setOb o (.log e z (xs.set i (match ds with
                | [d] => y.set j d
                | _ => y.take j ++ ds ++ y.drop (j + ds.length))))) else none
          | _, _ => none
        | _ => none
      | _ => none
    else none
  | _, _ => none

/-- What '!=', '+', .. tell of two values; where they may be asked. -/
def binR (op : BinOp) (x y : Value) : Option (Prop × Value) :=
  match x, y with
  | .int k a, .int k' b =>
    match op with
    | .shl => some (0 ≤ b, .int k (k.wrap (a * 2 ^ (min b.toNat k.bits))))
    | .shr => some (0 ≤ b, .int k (a.fdiv (2 ^ (min b.toNat k.bits))))
    | .add => some (k = k', .int k (k.wrap (a + b)))
    | .sub => some (k = k', .int k (k.wrap (a - b)))
    | .mul => some (k = k', .int k (k.wrap (a * b)))
    | .quo => some (k = k' ∧ b ≠ 0, .int k (k.wrap (a.tdiv b)))
    | .rem => some (k = k' ∧ b ≠ 0, .int k (a.tmod b))
    | .and => some (k = k', .int k (k.wrap (BitVec.ofInt k.bits a &&& BitVec.ofInt k.bits b).toNat))
    | .or => some (k = k', .int k (k.wrap (BitVec.ofInt k.bits a ||| BitVec.ofInt k.bits b).toNat))
    | .xor => some (k = k', .int k (k.wrap (BitVec.ofInt k.bits a ^^^ BitVec.ofInt k.bits b).toNat))
    | .andNot => some (k = k', .int k (k.wrap (BitVec.ofInt k.bits a &&& ~~~BitVec.ofInt k.bits b).toNat))
    | .eql => some (k = k', .bool (a == b))
    | .neq => some (k = k', .bool (a != b))
    | .lss => some (k = k', .bool (decide (a < b)))
    | .leq => some (k = k', .bool (decide (a ≤ b)))
    | .gtr => some (k = k', .bool (decide (a > b)))
    | .geq => some (k = k', .bool (decide (a ≥ b)))
  | .string a, .string b =>
    match op with
    | .eql => some (True, .bool (a.toList == b.toList))
    | .neq => some (True, .bool (!(a.toList == b.toList)))
    | .lss => some (True, .bool (Op.bytesLess a.toList b.toList))
    | .leq => some (True, .bool (Op.bytesLess a.toList b.toList || a.toList == b.toList))
    | .gtr => some (True, .bool (!(Op.bytesLess a.toList b.toList || a.toList == b.toList)))
    | .geq => some (True, .bool (!Op.bytesLess a.toList b.toList))
    | _ => none
  | _, _ => none
def unR (op : UnOp) (x : Value) : Option Value :=
  match op, x with
  | .neg, .int k n => some (.int k (k.wrap (0 - n)))
  | .not, .bool b => some (.bool !b)
  | _, _ => none

/-- An element of a row. -/
def idxK (n : Int) (xs : List (List D)) (sz : Nat) (K : List D → Prop) : Prop :=
  0 ≤ n ∧ match xs[n.toNat]? with
    | some c => c.length = sz ∧ K c
    | none => False
/-- A way that parts. -/
def brK (b : Bool) (X Y : Prop) : Prop := (b = true → X) ∧ (b = false → Y)
def fc (r : R) (K : R → Prop) : Prop := K r

/-! ### Results of calls -/
inductive Rv where
  | a (x : A)
  | clip (xs : List (List D))
  | fresh (e : TypeId) (sz : Nat) (xs : List (List D))
def D.flat : D → Bool
  | .v _ => true
  | .fn _ caps => caps.isEmpty
  | _ => false
def A.flat : A → Bool
  | .d x => x.flat
  | .ag xs => xs.all D.flat
def Rv.flat : Rv → Bool
  | .a x => x.flat
  | _ => false

structure Keep (X : Nat → Prop) (w w' : World) : Prop where
  os : w'.os = w.os
  tape : w'.tape = w.tape
  output : w'.output = w.output
  size : w.heap.size ≤ w'.heap.size
  block : ∀ k, k < w.heap.size → ¬ X k → w'.heap[k]? = w.heap[k]?
def RelV (st : Nat → Prop) (w : World) (n : Nat) (u : Value) : Rv → Prop
  | .a x => RelA st w u x
  | .clip xs => ∃ p k, u = .slice p k k ∧ Rd st w u (.sl xs)
  | .fresh e sz xs => (∃ cells : List Value, RowIs w e sz u xs.length cells ∧ F2 (Rd st w) cells xs.flatten ∧ ∀ x ∈ xs, x.length = sz) ∧ ∀ b, ownB u = some b → n ≤ b
def Rv.isFresh : Rv → Bool
  | .fresh _ _ _ => true
  | _ => false
/-- The blocks of results that are their receiver's own. -/
def freshB (us : List Value) (res : List Rv) (b : Nat) : Prop := ∃ (i : Nat) (u : Value) (r : Rv), us[i]? = some u ∧ res[i]? = some r ∧ r.isFresh = true ∧ ownB u = some b
/-- Blocks of deferred calls are no data. -/
def NotDef (w : World) (b : Nat) : Prop := ∀ x, w.heap[b]? ≠ some (.deferred x)
def newSt (st : Nat → Prop) (w w' : World) (us : List Value) (res : List Rv) : Nat → Prop :=
  fun b => (st b ∧ b < w.heap.size) ∨ (w.heap.size ≤ b ∧ b < w'.heap.size ∧ ¬ freshB us res b ∧ NotDef w' b)
def retV : List Value → Value
  | [v] => v
  | vs => .tuple vs.toArray
def EnvOk (gl : Nat → Option (List D)) (st : Nat → Prop) (w : World) : Prop := ∀ g cs, gl g = some cs → Rd st w (.pointer (some ⟨g, 0, none⟩)) (.pt cs)
def FnOk (P : Program) (f : FuncId) : Prop := ∃ fn, P.funcs[f]? = some fn ∧ fn.body.isNone = false ∧ (fn.name == "runtime.NumGoroutine") = false
/-- What a call does: it returns these results; all that was there is as it was. -/
def Holds (P : Program) (gl : Nat → Option (List D)) (f : FuncId) (as : List A) (res : List Rv) : Prop :=
  FnOk P f ∧ ∀ (st : Nat → Prop) (w : World) (vs : List Value), EnvOk gl st w → F2 (RelA st w) vs as →
    Calls P f vs.toArray w fun e w' => ∃ us : List Value, e = .returned (retV us) ∧ Keep (fun _ => False) w w' ∧
      F2 (RelV (newSt st w w' us res) w' w.heap.size) us res ∧
      (∀ (i j : Nat) (u u' : Value) (r r' : Rv) (b : Nat), us[i]? = some u → us[j]? = some u' → res[i]? = some r → res[j]? = some r' → r.isFresh = true → r'.isFresh = true → ownB u = some b → ownB u' = some b → i = j)

/-- A register as what is handed to a call. -/
def argA (σ : S) : R → Option A
  | .a x => some x
  | .cs xs => some (.d (.sl xs))
  | .own o => match σ.mem o with
    | some (.log _ _ xs) => some (.d (.sl xs))
    | _ => none
  | .omp o => match σ.mem o with
    | some (.mpo kv) => some (.d (.mp kv))
    | _ => none
  | .ref o off => match σ.mem o with
    | some (.box cs) => (allD cs).map fun ds => .d (.pt (ds.drop off))
    | _ => none
  | .clo _ _ | .eref _ _ _ _ | .any | .tp _ | .sem _ _ | .agr _ => none
def argsA (σ : S) : List R → Option (List A)
  | [] => some []
  | r :: rs => match argA σ r, argsA σ rs with
    | some x, some xs => some (x :: xs)
    | _, _ => none
/-- An object that is handed on and may be kept: nobody writes it any more. -/
def S.rest1 (σ : S) : R → S
  | .own o => match σ.mem o with
    | some (.log _ _ xs) => σ.frz o fun _ => .sl xs
    | _ => σ
  | .omp o => match σ.mem o with
    | some (.mpo kv) => σ.frz o fun _ => .mp kv
    | _ => σ
  | .ref o _ => match σ.mem o with
    | some (.box cs) => match allD cs with
      | some ds => σ.frz o fun off => .pt (ds.drop off)
      | none => σ
    | _ => σ
  | _ => σ
/-- No object that was handed in. -/
def R.low : R → Prop
  | .own o | .omp o | .ref o _ => o < 1000000000
  | _ => True
/-- Registers that are kept: what they tell, and the state then. -/
def S.rest (σ : S) : List R → List A → (S → List A → Prop) → Prop
  | [], acc, K => K σ acc.reverse
  | r :: rs, acc, K => match argA σ r with
    | some x => r.low ∧ (σ.rest1 r).rest rs (x :: acc) K
    | none => False
/-- Results, as registers; the one that is its receiver's own. -/
def regsOf (id : Nat) : List Rv → List R
  | [] => []
  | .a x :: rs => .a x :: regsOf (id + 1) rs
  | .clip xs :: rs => .cs xs :: regsOf (id + 1) rs
  | .fresh _ _ _ :: rs => .own id :: regsOf (id + 1) rs
def freshOf (id : Nat) : List Rv → Option (Nat × TypeId × Nat × List (List D))
  | [] => none
  | .fresh e z xs :: _ => some (id, e, z, xs)
  | _ :: rs => freshOf (id + 1) rs
def one : List R → R
  | [r] => r
  | rs => .tp rs
def baseId (d : Tmp) : List Rv → Nat
  | [_] => d
  | _ => 1000 + 16 * d
def S.ret (σ : S) (dst : Option Tmp) (res : List Rv) (K : S → Prop) : Prop :=
  match dst with
  | none => K σ
  | some d => (res.filter Rv.isFresh).length ≤ 1 ∧ baseId d res + res.length ≤ 1000000000 ∧
    (match freshOf (baseId d res) res with
    | none => K (σ.put (some d) (one (regsOf (baseId d res) res)))
    | some (id, e, z, xs) => K ((σ.newOb id (.log e z xs)).put (some d) (one (regsOf (baseId d res) res))))

/-! ### How a state stands to the machine's own -/
/-- What stays the same while a piece of code runs. -/
structure Cx where
  P : Program
  gl : Nat → Option (List D)
  X : Nat → Prop
  st0 : Nat → Prop
  w0 : World
  N : Nat
  df : List Deferred
  hX : ∀ b, st0 b → ¬ X b
  M : List Nat
  E : (Nat → Prop) → World → Prop
  hE : ∀ {st st' : Nat → Prop} {w w' : World}, (∀ b, st b → st' b ∧ w'.heap[b]? = w.heap[b]?) → E st w → E st' w'
def stF (c : Cx) (σ : S) (β : Nat → Value) (w : World) (b : Nat) : Prop :=
  b < w.heap.size ∧ (b < c.w0.heap.size → c.st0 b) ∧ (∀ o x, σ.mem o = some x → ownB (β o) ≠ some b) ∧ NotDef w b
/-- The marks that ranges over functions leave among the deferred calls. -/
def markD (D : Nat) : Deferred := { target := .collected D, args := #[] }
structure MarksOk (c : Cx) (σ : S) (β : Nat → Value) (w : World) (Ds : List Nat) : Prop where
  nd : Ds.Nodup
  ok : ∀ D ∈ Ds, c.w0.heap.size ≤ D ∧ w.heap[D]? = some (.deferred (some [])) ∧ ∀ o x, σ.mem o = some x → ownB (β o) ≠ some D
structure Sim (c : Cx) (σ : S) (β : Nat → Value) (a : Act) (w : World) : Prop where
  keep : Keep c.X c.w0 w
  size : a.tmps.size = c.N
  df : ∃ Ds : List Nat, a.defers = Ds.map markD ++ c.df ∧ MarksOk c σ β w (Ds ++ c.M)
  ext : c.E (stF c σ β w) w
  obj : ∀ o x, σ.mem o = some x → ObRel β (stF c σ β w) w (β o) x
  blk : ∀ o x b, σ.mem o = some x → ownB (β o) = some b → c.w0.heap.size ≤ b ∨ (c.X b ∧ 1000000000 ≤ o)
  dis : ∀ o o' x x' b, σ.mem o = some x → σ.mem o' = some x' → ownB (β o) = some b → ownB (β o') = some b → o = o'
  reg : ∀ t, RelR β (stF c σ β w) w (a.tmps.getD t undef) (σ.regs t)
  env : EnvOk c.gl (stF c σ β w) w

/-- What a call does that may turn the caller's objects. -/
def Inl (P : Program) (gl : Nat → Option (List D)) (f : FuncId) (rs : List R) (σ : S) (K : S → List R → Prop) : Prop :=
  FnOk P f ∧ ∀ (c : Cx) (β : Nat → Value) (a : Act) (w : World) (vs : List Value), c.P = P → c.gl = gl → Sim c σ β a w → F2 (RelR β (stF c σ β w) w) vs rs →
    Calls P f vs.toArray w fun e w' => ∃ (us : List Value) (rs' : List R) (σ' : S) (β' : Nat → Value), e = .returned (retV us) ∧ Sim c σ' β' a w' ∧ F2 (RelR β' (stF c σ' β' w') w') us rs' ∧ K σ' rs'
def callK (P : Program) (gl : Nat → Option (List D)) (f : FuncId) (rs : List R) (dst : Option Tmp) (σ : S) (K : S → Prop) : Prop :=
  (∃ (as : List A) (res : List Rv), argsA σ rs = some as ∧ Holds P gl f as res ∧ res.all Rv.flat = true ∧ σ.ret dst res K) ∨
  (∃ res : List Rv, σ.rest rs [] fun σ' as => Holds P gl f as res ∧ σ'.ret dst res K) ∨
  Inl P gl f rs σ (fun σ' rs' => K (σ'.put dst (one rs')))

def retR : List A → R
  | [x] => .a x
  | xs => .tp (xs.map R.a)
/-- A call that may stand beside others: nothing of it is the caller's own, and nothing that is the caller's own is kept. -/
def callQ (P : Program) (gl : Nat → Option (List D)) (f : FuncId) (rs : List R) (σ : S) (K : R → Prop) : Prop :=
  ∃ (as : List A) (res : List A), argsA σ rs = some as ∧ Holds P gl f as (res.map Rv.a) ∧ (res.all A.flat = true ∨ rs = as.map R.a) ∧
    K (retR res)
def allDA : List A → Option (List D)
  | [] => some []
  | .d x :: xs => (allDA xs).map (x :: ·)
  | .ag _ :: _ => none

/-! ### Maps of ints -/
/-- What a map's missing elements are. -/
def mapT (P : Program) (t : TypeId) : Option D :=
  match tk P t with
  | .map k e => match tk P k, P.info? e with
    | .int .i64, some i => match i.zero with
      | some z => if z.oneCell' then some (cellD z) else none
      | none => none
    | _, _ => none
  | _ => none
def mapOf (σ : S) : R → Option (List (Int × D))
  | .a (.d (.mp kv)) => some kv
  | .omp o => match σ.mem o with
    | some (.mpo kv) => some kv
    | _ => none
  | _ => none
def kvGet : List (Int × D) → Int → Option D
  | [], _ => none
  | (k, x) :: kv, n => if k = n then some x else kvGet kv n
def kvSet : List (Int × D) → Int → D → List (Int × D)
  | [], n, y => [(n, y)]
  | (k, x) :: kv, n, y => if k = n then (k, y) :: kv else (k, x) :: kvSet kv n y
def lookR (P : Program) (σ : S) (t : TypeId) (x i : R) (ok : Bool) : Option R :=
  match mapT P t, mapOf σ x, i with
  | some z, some kv, .a (.d (.v (.int .i64 n))) => match ok with
    | true => some (.tp [.a (.d ((kvGet kv n).getD z)), .a (.d (.v (.bool (kvGet kv n).isSome)))])
    | false => some (.a (.d ((kvGet kv n).getD z)))
  | _, _, _ => none
def updK (P : Program) (gl : Nat → Option (List D)) (σ : S) (t : TypeId) (m k v : Operand) (K : S → Prop) : Prop :=
  match σ.eval gl m, σ.eval gl k, mapT P t with
  | .omp ob, .a (.d (.v (.int .i64 n))), some _ => σ.rest [σ.eval gl v] [] fun σ' as => match as, σ'.mem ob with
    | [.d x], some (.mpo kv) => K (σ'.setOb ob (.mpo (kvSet kv n x)))
    | _, _ => False
  | _, _, _ => False

/-- A range over a map that nobody writes any more. -/
def rangeK (P : Program) (σ : S) (t : TypeId) (x : R) (dst : Option Tmp) (K : S → Prop) : Prop :=
  match tk P t, x, dst with
  | .map _ _, .a (.d (.mp kv)), some d => K ((σ.newOb d (.iter kv [])).put (some d) (.ref d 0))
  | _, _, _ => False
/-- A step: whichever entry is left. -/
def nextK (σ : S) (x : R) (dst : Option Tmp) (K : S → Prop) : Prop :=
  match x with
  | .ref ob 0 => match σ.mem ob with
    | some (.iter kv seen) => (∀ (i : Nat) (p : Int × D), kv[i]? = some p → i ∉ seen → K ((σ.setOb ob (.iter kv (seen ++ [i]))).put dst (.tp [.a (.d (.v (.bool true))), .a (.d (.v (.int .i64 p.1))), .a (.d p.2)]))) ∧
      ((∀ i, i < kv.length → i ∈ seen) → K (σ.put dst (.tp [.a (.d (.v (.bool false)))])))
    | _ => False
  | _ => False
def entryK (σ : S) (x : R) (dst : Option Tmp) (K : S → Prop) : Prop :=
  match x with
  | .ref ob 0 => match σ.mem ob with
    | some (.iter kv seen) => match seen.getLast?.bind (kv[·]?) with
      | some p => K (σ.put dst (.tp [.a (.d (.v (.int .i64 p.1))), .a (.d p.2)]))
      | none => False
    | _ => False
  | _ => False

/-! ### Operations that are told by what they do -/
def WF (ρ : Option Nat) : Fence := { Fence.wide with round := ρ }
/-- An operation comes to a value, and a world, of which Z holds. -/
def Run (P : Program) (o : Oper) (a : Act) (w : World) (Z : Value → World → Prop) : Prop :=
  ∀ (ρ : Option Nat) (n : Nat) (next : Act → World → Prop) (Q : Exit → Act → World → Prop), (∀ v w', Z v w' → next (a.put o.dst v) w') → o.wpIn (WF ρ) n P a w next Q
abbrev AOut (c : Cx) (a : Act) (o : Oper) (K : S → Prop) : Value → World → Prop :=
  fun v w' => ∃ σ' β', K σ' ∧ Sim c σ' β' (a.put o.dst v) w'
/-- An operation comes to a state of which K holds. -/
def SemOp (P : Program) (gl : Nat → Option (List D)) (o : Oper) (σ : S) (K : S → Prop) : Prop :=
  ∀ (c : Cx) (β : Nat → Value) (a : Act) (w : World), c.P = P → c.gl = gl → Sim c σ β a w → (∀ d, o.dst = some d → d < c.N) → Run c.P o a w (AOut c a o K)
/-- Another state that the same memory may be told by. -/
def Ghost (σ σ' : S) : Prop := ∀ (c : Cx) (β : Nat → Value) (a : Act) (w : World), Sim c σ β a w → ∃ β', Sim c σ' β' a w
/-- Types of rows of pointers, of maps of pointers or by other keys, of pointers. -/
def isXT (P : Program) (t : TypeId) : Bool := match tk P t with
  | .slice e => match tk P e with
    | .ptr _ => true
    | _ => false
  | .map k e => match tk P k, tk P e with
    | _, .ptr _ => true
    | .int .i64, _ => false
    | _, _ => true
  | .ptr _ => true
  | _ => false
/-- Structs of which a row, or a map, is a part. -/
def isXB (P : Program) (t : TypeId) : Bool := match tinf P t with
  | some ti => ti.z.any fun v => match v with
    | .slice none 0 0 | .map none => true
    | _ => false
  | none => false
/-- Which operations are told by what they do. -/
def isX (P : Program) (o : Oper) : Bool := match o.op with
  | .binOp _ _ _ y _ => match y with
    | .const v => match v with
      | .int _ _ | .bool _ | .string _ => false
      | _ => true
    | _ => false
  | .slice _ _ l h m => match l, h, m with
    | some _, none, none => o.pos == "slices.go:253"
    | _, _, _ => false
  | .load t _ | .indexAddr t _ _ | .lookup t _ _ _ | .mapUpdate t _ _ _ | .insert t _ _ _ | .makeMap t _ | .buildSlice t _ _ => isXT P t
  | .call c => match c.callee with
    | .builtin b => match b with
      | .append => match c.argTypes.toList with
        | [t, u] => u != t || isXT P t
        | _ => false
      | .len | .min | .max => false
      | _ => true
    | .invoke _ _ => true
    | .value _ => false
  | .build t _ => isXB P t
  | .move _ | .assign _ | .pick .. | .alloc _ | .box .. | .store .. | .fieldAddr .. | .nilCheck _ | .unOp .. | .convert .. | .extract .. | .range .. | .next .. | .entry _ => false
  | .makeFunc .. => o.pos == "law.go:47" || o.pos == "law.go:50" || o.pos == "graph.go:120" || o.pos == "text.go:142" || o.pos == "word.go:21" || o.pos == "report.go:73"
  | _ => true

/-! ### Operations -/
def bnd (σ : S) (gl : Nat → Option (List D)) (d : Int) : Option Operand → Option Int
  | none => some d
  | some x => match σ.eval gl x with
    | .a (.d (.v (.int _ n))) => some n
    | _ => none
/-- 'x[l:h:m]' of a row. -/
def sliceK (xs : List (List D)) (sz : Nat) (l h : Option Int) (m : Option (Option Int)) (K : R → Prop) : Prop :=
  match l, h with
  | some l, some h => 0 ≤ l ∧ l ≤ h ∧ h ≤ xs.length ∧ (∀ c ∈ xs, c.length = sz) ∧
    (match m with
    | none => K (.a (.d (.sl ((xs.take h.toNat).drop l.toNat))))
    | some (some m) => m = h ∧ K (.cs ((xs.take h.toNat).drop l.toNat))
    | some none => False)
  | _, _ => False
def lenR (σ : S) : R → Option (Bool × Int)
  | .a (.d (.sl xs)) => some (false, xs.length)
  | .cs xs => some (false, xs.length)
  | .own o => match σ.mem o with
    | some (.log _ _ xs) => some (false, xs.length)
    | _ => none
  | .a (.d (.v (.string s))) => some (true, s.size)
  | _ => none
/-- The rows that are appended. -/
def rowsR (σ : S) : R → Option (List (List D))
  | .a (.d (.sl xs)) => some xs
  | .cs xs => some xs
  | .own o => match σ.mem o with
    | some (.log _ _ xs) => some xs
    | _ => none
  | _ => none
def appK (P : Program) (σ : S) (t : TypeId) (x y : R) (dst : Option Tmp) (K : S → Prop) : Prop :=
  match tk P t, dst, rowsR σ y with
  | .slice e, some d, some ys => match tinf P e with
    | some ti => ti.z.length = ti.sz ∧ 0 < ti.sz ∧ 0 < ti.bs ∧ (∀ c ∈ ys, c.length = ti.sz) ∧
      (match x with
      | .own o => match σ.mem o with
        | some (.log e' z xs) => e' = e ∧ z = ti.sz ∧ (xs.length + ys.length) * ti.bs ≤ 140737488355328 ∧
          K ((σ.newOb o (.log e z (xs ++ ys))).put (some d) (.own o))
        | _ => False
      | .cs xs => ys ≠ [] ∧ (∀ c ∈ xs, c.length = ti.sz) ∧ (xs.length + ys.length) * ti.bs ≤ 140737488355328 ∧ K ((σ.newOb d (.log e ti.sz (xs ++ ys))).put (some d) (.own d))
      | _ => False)
    | none => False
  | _, _, _ => False
/-- The cells of a row that is written out: which places are told, and what stands there. -/
def rowK (σ : S) (gl : Nat → Option (List D)) : List (Nat × Operand) → List (Nat × A) → (S → List (Nat × A) → Prop) → Prop
  | [], acc, K => K σ acc.reverse
  | (i, x) :: rest, acc, K => match argA σ (σ.eval gl x) with
    | some y => (σ.eval gl x).low ∧ rowK (σ.rest1 (σ.eval gl x)) gl rest ((i, y) :: acc) K
    | none => False
def A.cells : A → List D
  | .d x => [x]
  | .ag xs => xs
/-- Fields are filled into cells. -/
def fillD (place : Nat → Option (Nat × Nat)) (cells : List D) : List (Nat × A) → Option (List D)
  | [] => some cells
  | (i, y) :: rest => match place i with
    | some (off, sz) => if y.cells.length = sz ∧ off + sz ≤ cells.length then fillD place (match y.cells with
        | [d] => cells.set off d
        | ds => cells.take off ++ ds ++ cells.drop (off + sz)) rest else none
    | none => none

/-- Operations that turn no object: what they tell. -/
def opQ (P : Program) (gl : Nat → Option (List D)) (o : Oper) (σ : S) (K : R → Prop) : Prop :=
  match o.op with
  | .move x => fc (σ.eval gl x) K
  | .assign x => fc (σ.eval gl x) K
  | .pick c a b => match σ.eval gl c with
    | .a (.d (.v (.bool t))) => match t with
      | true => fc (σ.eval gl a) K
      | false => fc (σ.eval gl b) K
    | _ => False
  | .load t p => match loadR P σ t (σ.eval gl p) with
    | some r => fc r K
    | none => False
  | .fieldAddr t p f => match tk P t with
    | .struct offs => match offs[f]? with
      | some (fo, fs, _) => fs ≠ 0 ∧ (match σ.eval gl p with
        | .ref ob off => K (.ref ob (off + fo))
        | .a (.d (.pt cs)) => K (.a (.d (.pt (cs.drop fo))))
        | .eref ob i sz j => K (.eref ob i sz (j + fo))
        | _ => False)
      | none => False
    | _ => False
  | .indexAddr t x i => match σ.eval gl i with
    | .a (.d (.v (.int _ n))) => match tk P t with
      | .slice e => match tinf P e with
        | some ti => (match σ.eval gl x with
          | .a (.d (.sl xs)) => idxK n xs ti.sz fun c => K (.a (.d (.pt c)))
          | .cs xs => idxK n xs ti.sz fun c => K (.a (.d (.pt c)))
          | .own ob => match σ.mem ob with
            | some (.log _ _ xs) => idxK n xs ti.sz fun c => K (.eref ob n.toNat ti.sz 0)
            | _ => False
          | _ => False)
        | none => False
      | .arr len e => match tinf P e with
        | some ti => 0 ≤ n ∧ n < len ∧ (match σ.eval gl x with
          | .ref ob off => K (.ref ob (off + n.toNat * ti.sz))
          | .a (.d (.pt cs)) => K (.a (.d (.pt (cs.drop (n.toNat * ti.sz)))))
          | _ => False)
        | none => False
      | _ => False
    | _ => False
  | .nilCheck x => match σ.eval gl x with
    | .ref ob off => K (.ref ob off)
    | .a (.d (.pt cs)) => K (.a (.d (.pt cs)))
    | .eref ob i sz j => K (.eref ob i sz j)
    | _ => False
  | .binOp op t x y _ => match σ.eval gl x, σ.eval gl y with
    | .a (.d (.v (.bool a))), .a (.d (.v (.bool b))) => (match tk P t, op with
      | .bool, .eql => K (.a (.d (.v (.bool (a == b)))))
      | .bool, .neq => K (.a (.d (.v (.bool (a != b)))))
      | _, _ => False)
    | .a (.d (.v a)), .a (.d (.v b)) => (match binR op a b with
      | some (c, v) => c ∧ K (.a (.d (.v v)))
      | none => False)
    | _, _ => False
  | .unOp op _ x => match σ.eval gl x with
    | .a (.d (.v a)) => (match unR op a with
      | some v => K (.a (.d (.v v)))
      | none => False)
    | _ => False
  | .convert s t x => match tk P s, tk P t, σ.eval gl x with
    | .int _, .int k, .a (.d (.v (.int _ n))) => K (.a (.d (.v (.int k (k.wrap n)))))
    | _, _, _ => False
  | .lookup t x i ok => match lookR P σ t (σ.eval gl x) (σ.eval gl i) ok with
    | some r => fc r K
    | none => False
  | .extract x i => match σ.eval gl x with
    | .tp rs => match rs[i]? with
      | some r => fc r K
      | none => False
    | _ => False
  | .slice t x l h m => match tk P t with
    | .slice e => match tinf P e with
      | some ti => (match σ.eval gl x with
        | .a (.d (.sl xs)) => (m.isSome = true → h.isSome = true) ∧ sliceK xs ti.sz (bnd σ gl 0 l) (bnd σ gl xs.length h) (m.map fun y => bnd σ gl 0 (some y)) K
        | .cs xs => (m.isSome = true → h.isSome = true) ∧ sliceK xs ti.sz (bnd σ gl 0 l) (bnd σ gl xs.length h) (m.map fun y => bnd σ gl 0 (some y)) K
        | _ => False)
      | none => False
    | _ => False
  | .call c => match c.callee with
    | .builtin b => match b, c.args.toList, c.argTypes.toList with
      | .len, [x], [t] => (match lenR σ (σ.eval gl x) with
        | some (s, n) => (match tk P t, s with
          | .slice _, false => K (.a (.d (.v (.int .i64 n))))
          | .str, true => K (.a (.d (.v (.int .i64 n))))
          | _, _ => False)
        | none => False)
      | .min, [x, y], _ => (match σ.eval gl x, σ.eval gl y with
        | .a (.d (.v (.int k a))), .a (.d (.v (.int _ b))) => K (.a (.d (.v (.int k (if b < a then b else a)))))
        | _, _ => False)
      | .max, [x, y], _ => (match σ.eval gl x, σ.eval gl y with
        | .a (.d (.v (.int k a))), .a (.d (.v (.int _ b))) => K (.a (.d (.v (.int k (if b > a then b else a)))))
        | _, _ => False)
      | _, _, _ => False
    | .value f => match σ.eval gl f with
      | .a (.d (.fn g caps)) => callQ P gl g (c.args.toList.map (σ.eval gl) ++ caps.map fun d => .a (.d d)) σ K
      | _ => False
    | _ => False
  | _ => False

/-- An operation. -/
def opA0 (P : Program) (gl : Nat → Option (List D)) (o : Oper) (σ : S) (K : S → Prop) : Prop :=
  match o.op with
  | .assign x => match x, o.dst with
    | .const (.slice none 0 0), some d => match tk P o.type with
      | .slice e => (match tinf P e with
        | some ti => K ((σ.newOb d (.log e ti.sz [])).put (some d) (.own d))
        | none => False)
      | _ => False
    | _, _ => opQ P gl o σ fun r => K (σ.put o.dst r)
  | .store t p x => match storeR P σ t (σ.eval gl p) (σ.eval gl x) with
    | some σ' => K (σ'.put o.dst .any)
    | none => False
  | .alloc t => match tinf P t, o.dst with
    | some ti, some d => ti.z.all Value.oneCell' = true ∧ K ((σ.newOb d (.box (ti.z.map fun v => .a (.d (cellD v))))).put (some d) (.ref d 0))
    | _, _ => False
  | .box t x => match cellsR (σ.eval gl x), o.dst with
    | some cs, some d => K ((σ.newOb d (.box (cs.map (R.kill d)))).put (some d) (.ref d 0))
    | _, _ => False
  | .slice t x l h m => match σ.eval gl x with
    | .own ob => (match σ.mem ob, tk P t with
      | some (.log _ _ xs), .slice e => match tinf P e with
        | some ti => ob < 1000000000 ∧ (m.isSome = true → h.isSome = true) ∧ sliceK xs ti.sz (bnd σ gl 0 l) (bnd σ gl xs.length h) (m.map fun y => bnd σ gl 0 (some y)) fun r => K ((σ.frz ob fun _ => .sl xs).put o.dst r)
        | none => False
      | _, _ => False)
    | _ => opQ P gl o σ fun r => K (σ.put o.dst r)
  | .build t parts => rowK σ gl parts.toList [] fun σ' ps => match tinf P t, tk P t with
    | some ti, .struct offs => ti.z.all Value.oneCell' = true ∧ (offs.all fun x => x.2.1 != 0) = true ∧ (match fillD (fun i => (offs[i]?).map fun x => (x.1, x.2.1)) (ti.z.map cellD) ps with
      | some ds => K (σ'.put o.dst (.a (.ag ds)))
      | none => False)
    | _, _ => False
  | .buildSlice t len parts => if len = 0 then parts.toList = [] ∧ (match tk P t, o.dst with
    | .slice e, some d => (match tinf P e with
      | some ti => K ((σ.newOb d (.log e ti.sz [])).put (some d) (.own d))
      | none => False)
    | _, _ => False) else rowK σ gl parts.toList [] fun σ' ps => match tk P t, o.dst with
    | .slice e, some d => match tinf P e with
      | some ti => ti.z.all Value.oneCell' = true ∧ 0 < ti.sz ∧ ti.z.length = ti.sz ∧ len * ti.sz ≤ 2 ^ 24 ∧ len ≠ 0 ∧
        (match fillD (fun i => some (i * ti.sz, ti.sz)) (List.replicate len (ti.z.map cellD)).flatten ps with
        | some ds => K ((σ'.newOb d (.log e ti.sz ((List.range len).map fun i => (ds.drop (i * ti.sz)).take ti.sz))).put (some d) (.own d))
        | none => False)
      | none => False
    | _, _ => False
  | .range t x => rangeK P σ t (σ.eval gl x) o.dst K
  | .next x false => nextK σ (σ.eval gl x) o.dst K
  | .entry x => entryK σ (σ.eval gl x) o.dst K
  | .makeMap t none => match o.dst, mapT P t with
    | some d, some _ => K ((σ.newOb d (.mpo [])).put (some d) (.omp d))
    | _, _ => False
  | .mapUpdate t m k v => updK P gl σ t m k v fun σ' => K (σ'.put o.dst .any)
  | .insert t m k v => updK P gl σ t m k v fun σ' => K (σ'.put o.dst .any)
  | .makeFunc fn first caps => match fn, first.toList, caps.toList with
    | .func f, [], cs => (σ.rest (cs.map (σ.eval gl)) [] fun σ' as => match allDA as with
      | some ds => K (σ'.put o.dst (.a (.d (.fn f ds))))
      | none => False)
    | _, _, _ => False
  | .call c => match c.callee with
    | .builtin .append => match c.args.toList, c.argTypes.toList with
      | [x, y], [t, u] => u = t ∧ appK P σ t (σ.eval gl x) (σ.eval gl y) o.dst K
      | _, _ => False
    | .value f => match σ.eval gl f with
      | .a (.d (.fn g caps)) => callK P gl g (c.args.toList.map (σ.eval gl) ++ caps.map fun d => .a (.d d)) o.dst σ K
      | .clo g caps => Inl P gl g (c.args.toList.map (σ.eval gl) ++ caps.map fun x => .ref x.1 x.2) σ (fun σ' rs' => K (σ'.put o.dst (one rs')))
      | .sem _ _ => SemOp P gl o σ K
      | _ => False
    | _ => opQ P gl o σ fun r => K (σ.put o.dst r)
  | _ => opQ P gl o σ fun r => K (σ.put o.dst r)

def opA (P : Program) (gl : Nat → Option (List D)) (o : Oper) (σ : S) (K : S → Prop) : Prop :=
  match isX P o with
  | true => SemOp P gl o σ K
  | false => opA0 P gl o σ K

/-- Which operations turn no object, by their form. -/
def quietO (o : Oper) : Bool :=
  match o.op with
  | .assign (.const (.slice none 0 0)) => false
  | .move _ | .assign _ | .pick .. | .load .. | .fieldAddr .. | .indexAddr .. | .nilCheck _ | .binOp .. | .unOp .. | .convert .. | .extract .. | .slice .. | .lookup .. => true
  | .call c => match c.callee with
    | .builtin b => match b with
      | .len | .min | .max => true
      | _ => false
    | _ => true
  | _ => false

/-- An operation's guard. -/
def gK (b want : Bool) (X Y : Prop) : Prop := if want then brK b X Y else brK b Y X
/-- What the guard's operation has told; 'none' within: it was not done itself. -/
def guardR (ops : Array Oper) (σ : S) (j : Nat) : Option (Option Bool) :=
  match ((ops[j]?).bind (·.dst)).map σ.regs with
  | some (.a (.d (.v (.bool b)))) => some (some b)
  | some (.tp []) => some none
  | _ => none
def opsA (P : Program) (gl : Nat → Option (List D)) (ops : Array Oper) : List Oper → S → (S → Prop) → Prop
  | [], σ, K => K σ
  | o :: rest, σ, K => match o.guard with
    | none => opA P gl o σ fun σ' => opsA P gl ops rest σ' K
    | some (j, want) => match guardR ops σ j with
      | some (some b) => gK b want (opA P gl o σ fun σ' => opsA P gl ops rest σ' K) (opsA P gl ops rest (σ.put o.dst (.tp [])) K)
      | some none => opsA P gl ops rest (σ.put o.dst (.tp [])) K
      | none => False

/-! ### Regions that draw their order: what turns no object comes first, in whatever order; then one after the other -/
/-- What hangs on an operation. -/
def depA (ops : Array Oper) (listed : Array Bool) (k : Nat) : Array Bool :=
  ops.foldl (fun d o => d.push (!listed.getD d.size true && o.after.any fun e => Region.binds .any e && (e.on == k || d.getD e.on false))) #[]
def depOk (ops : Array Oper) (listed : Array Bool) (k : Nat) (d : Array Bool) (j : Nat) : Bool :=
  !d.getD j false || match ops[j]? with
    | none => false
    | some o => !listed.getD j true && o.after.any fun e => Region.binds .any e && (e.on == k || d.getD e.on false)
def freeW (ops : Array Oper) (listed : Array Bool) (k : Nat) (o : Oper) (d : Array Bool) : Bool :=
  (List.range d.size).all (depOk ops listed k d) && (List.range ops.size).all fun j => match ops[j]? with
    | none => true
    | some oj => j == k || listed.getD j true || d.getD j false || (quietO oj && o.apart ops oj)
def freeQ (ops : Array Oper) (listed : Array Bool) (k : Nat) : Bool :=
  match ops[k]? with
  | none => false
  | some o => quietO o && freeW ops listed k o (depA ops listed k)
def drawFrom (ops : Array Oper) : List Oper → Nat → Bool → Array Bool → Bool
  | [], _, _, listed => (Region.ready .any ops listed).isEmpty
  | o :: rest, k, q, listed => (Region.ready .any ops listed).contains k && (if q && quietO o then freeQ ops listed k else Region.ready .any ops listed == [k]) && drawFrom ops rest (k + 1) (q && quietO o) (listed.setIfInBounds k true)
def DrawOk (ops : Array Oper) : Prop := (Region.noSelect ops && drawFrom ops ops.toList 0 true (Array.replicate ops.size false)) = true
/-- An operation of a drawn region. -/
def inD (P : Program) (gl : Nat → Option (List D)) (o : Oper) (σ : S) (K : S → Prop) : Prop :=
  match quietO o with
  | true => opQ P gl o σ fun r => K (σ.put o.dst r)
  | false => opA P gl o σ K
def opsQ (P : Program) (gl : Nat → Option (List D)) (ops : Array Oper) : List Oper → S → (S → Prop) → Prop
  | [], σ, K => K σ
  | o :: rest, σ, K => match o.guard with
    | none => inD P gl o σ fun σ' => opsQ P gl ops rest σ' K
    | some (j, want) => match guardR ops σ j with
      | some (some b) => gK b want (inD P gl o σ fun σ' => opsQ P gl ops rest σ' K) (opsQ P gl ops rest (σ.put o.dst (.tp [])) K)
      | some none => opsQ P gl ops rest (σ.put o.dst (.tp [])) K
      | none => False

inductive Ex where
  | normal
  | exit (id : Nat)
  | ret
def Ex.then (next : S → Prop) (Q : Ex → S → Prop) : Ex → S → Prop
  | .normal, σ => next σ
  | e, σ => Q e σ
def Ex.inBlock (id : Nat) (Q : Ex → S → Prop) : Ex → S → Prop
  | .exit id', σ => if id' = id then Q .normal σ else Q (.exit id') σ
  | e, σ => Q e σ

def Qh (c : Cx) (Q : Ex → S → Prop) : Exit → Act → World → Prop
  | .normal, a, w => ∃ σ β, Sim c σ β a w ∧ Q .normal σ
  | .exit id, a, w => ∃ σ β, Sim c σ β a w ∧ Q (.exit id) σ
  | .ret, a, w => ∃ σ β, Sim c σ β a w ∧ Q .ret σ
  | _, _, _ => False
def dstOK (N : Nat) : Code → Bool
  | .region _ ops _ => ops.toList.all fun o => match o.dst with
    | some d => decide (d < N)
    | none => true
  | .seq a b => dstOK N a && dstOK N b
  | .cond _ x y => dstOK N x && dstOK N y
  | .block _ c | .loop c | .scope c => dstOK N c
  | .rangeFunc _ ps x y => (ps.toList.all fun d => decide (d < N)) && dstOK N x && dstOK N y
  | .skip | .label _ | .exit _ | .ret | .goto _ => true
  | .refuse _ => false

/-- No range over a function. -/
def noRng : Code → Bool
  | .seq a b | .cond _ a b => noRng a && noRng b
  | .block _ c | .loop c | .scope c => noRng c
  | .rangeFunc .. => false
  | _ => true
/-- A piece of code that is told by what it does. -/
def SemCode (P : Program) (gl : Nat → Option (List D)) (code : Code) (Q : Ex → S → Prop) (σ : S) : Prop :=
  ∀ (c : Cx) (β : Nat → Value) (a : Act) (w : World) (ρ : Option Nat) (n : Nat), c.P = P → c.gl = gl → c.P.follows .mixedOrders = true → dstOK c.N code = true → (ρ = none ∨ noRng code = true) → Sim c σ β a w → code.wpIn (WF ρ) n c.P (Qh c Q) a w
/-- What must hold ahead of a piece of code. -/
def awp (P : Program) (gl : Nat → Option (List D)) : Code → (Ex → S → Prop) → S → Prop
  | .skip, Q, σ => Q .normal σ
  | .label _, Q, σ => Q .normal σ
  | .exit id, Q, σ => Q (.exit id) σ
  | .ret, Q, σ => Q .ret σ
  | .seq a b, Q, σ => awp P gl a (Ex.then (awp P gl b Q) Q) σ
  | .cond c x y, Q, σ => match σ.eval gl c with
    | .a (.d (.v (.bool b))) => brK b (awp P gl x Q σ) (awp P gl y Q σ)
    | _ => False
  | .block id c, Q, σ => awp P gl c (Ex.inBlock id Q) σ
  | .scope c, Q, σ => awp P gl c Q σ
  | .loop c, Q, σ => ∀ I : S → Prop, (∀ σ, awp P gl c (Ex.then I Q) σ → I σ) → (∀ σ σ', Ghost σ σ' → I σ' → I σ) → I σ
  | .region id ops draw, Q, σ => match draw with
    | false => opsA P gl ops ops.toList σ (Q .normal)
    | true => (DrawOk ops ∧ opsQ P gl ops ops.toList σ (Q .normal)) ∨ SemCode P gl (.region id ops true) Q σ
  | code, Q, σ => SemCode P gl code Q σ
end Go.VC
