/- The V layer, part 3: operations over ideal values; each is sound for the model's operation that it stands for. -/
import Derived.Test.YtjhbkbbmhmfkbaaV2
import Derived.Deep.MidRow
import Derived.Laws.Append
namespace VL
open Go

inductive Opd where
  | t (n : Nat) | c (v : IV)
def Opd.get (e : Env) : Opd → Option IV
  | .t n => e n
  | .c v => some v

def IV.notLp : IV → Prop
  | .lp _ _ => False
  | _ => True
def IV.boxable : IV → Prop
  | .lp _ _ | .tup _ => False
  | _ => True
def IV.isCell : IV → Prop
  | .lp _ _ | .agg _ | .tup _ => False
  | _ => True

abbrev Kont := Env → Loc → Heap → Prop
/-- What is looked up at once. -/
def chkP (a : Prop) [Decidable a] (k : Prop) : Prop := if a then k else False
theorem chkP_iff {a k : Prop} [Decidable a] : chkP a k ↔ a ∧ k := by
  unfold chkP
  split
  · rename_i h; exact ⟨fun q => ⟨h, q⟩, fun q => q.2⟩
  · rename_i h; exact ⟨fun q => q.elim, fun q => (h q.1).elim⟩
/-- Two ways. -/
def br (t : Bool) (A B : Prop) : Prop := match t with
  | true => A
  | false => B
theorem br_iff {t : Bool} {A B : Prop} : br t A B ↔ (t = true → A) ∧ (t = false → B) := by cases t <;> simp [br]
/-- What there is. -/
def optK {α : Type} (o : Option α) (K : α → Prop) : Prop := match o with
  | some v => K v
  | none => False
theorem optK_def {α : Type} {o : Option α} {K : α → Prop} : optK o K = (match o with
  | some v => K v
  | none => False) := rfl
instance instDecNotLp (x : IV) : Decidable x.notLp := match x with
  | .lp _ _ => .isFalse fun h => h
  | .bool _ | .int _ _ | .str _ | .nilp | .ptr _ _ _ | .pel _ _ | .vs _ _ _ | .rs _ _ _ | .agg _ | .iface _ _ | .nili | .fn _ _ _ | .nilf | .tup _ => .isTrue trivial
instance instDecBoxable (x : IV) : Decidable x.boxable := match x with
  | .lp _ _ | .tup _ => .isFalse fun h => h
  | .bool _ | .int _ _ | .str _ | .nilp | .ptr _ _ _ | .pel _ _ | .vs _ _ _ | .rs _ _ _ | .agg _ | .iface _ _ | .nili | .fn _ _ _ | .nilf => .isTrue trivial
instance instDecIsCell (x : IV) : Decidable x.isCell := match x with
  | .lp _ _ | .tup _ | .agg _ => .isFalse fun h => h
  | .bool _ | .int _ _ | .str _ | .nilp | .ptr _ _ _ | .pel _ _ | .vs _ _ _ | .rs _ _ _ | .iface _ _ | .nili | .fn _ _ _ | .nilf => .isTrue trivial

/-! ### pure operations on values -/
def inr (n : Int) : Prop := -9223372036854775808 ≤ n ∧ n ≤ 9223372036854775807
/-- A number of a kind: of 64 bits with a sign it is to be in its range; else it turns round. -/
def ovf (k : IntKind) (n : Int) (K : IV → Prop) : Prop := match k with
  | .i64 => inr n ∧ K (.int .i64 n)
  | k => K (.int k (k.wrap n))
theorem wrap64 {n : Int} (h1 : -9223372036854775808 ≤ n) (h2 : n ≤ 9223372036854775807) : IntKind.i64.wrap n = n := by rw [IntKind.wrap_i64]; omega
theorem ovf_out {k : IntKind} {n : Int} {K : IV → Prop} (h : ovf k n K) : K (.int k (k.wrap n)) := by
  unfold ovf at h
  split at h
  · rw [wrap64 h.1.1 h.1.2]; exact h.2
  · exact h
theorem ovf_ex {k : IntKind} {n : Int} {K : IV → Prop} (h : ovf k n K) : ∃ r, K r ∧ ∀ K' : IV → Prop, K' r → ovf k n K' := by
  unfold ovf at h ⊢
  split at h
  · exact ⟨_, h.2, fun K' q => ⟨h.1, q⟩⟩
  · rename_i k' hk
    refine ⟨_, h, fun K' q => ?_⟩
    cases k <;> first | exact q | exact (hk rfl).elim
def binI (op : BinOp) (k : IntKind) (a b : Int) (K : IV → Prop) : Prop :=
  match op with
  | .add => ovf k (a + b) K
  | .sub => ovf k (a - b) K
  | .mul => ovf k (a * b) K
  | .quo => b ≠ 0 ∧ ovf k (a.tdiv b) K
  | .rem => b ≠ 0 ∧ K (.int k (a.tmod b))
  | .and => K (.int k (k.wrap (BitVec.ofInt k.bits a &&& BitVec.ofInt k.bits b).toNat))
  | .or => K (.int k (k.wrap (BitVec.ofInt k.bits a ||| BitVec.ofInt k.bits b).toNat))
  | .xor => K (.int k (k.wrap (BitVec.ofInt k.bits a ^^^ BitVec.ofInt k.bits b).toNat))
  | .andNot => K (.int k (k.wrap (BitVec.ofInt k.bits a &&& ~~~BitVec.ofInt k.bits b).toNat))
  | .eql => K (.bool (decide (a = b)))
  | .neq => K (.bool (decide (a ≠ b)))
  | .lss => K (.bool (decide (a < b)))
  | .leq => K (.bool (decide (a ≤ b)))
  | .gtr => K (.bool (decide (b < a)))
  | .geq => K (.bool (decide (b ≤ a)))
  | .shl | .shr => False

/-- The operation on values that no memory is asked for: '==' on ints, bools, pointers against nil. -/
def binV (op : BinOp) : IV → IV → (IV → Prop) → Prop
  | .int k a, .int k' b, K => match op with
    | .shl => 0 ≤ b ∧ K (.int k (k.wrap (a * 2 ^ (min b.toNat k.bits))))
    | .shr => 0 ≤ b ∧ K (.int k (a.fdiv (2 ^ (min b.toNat k.bits))))
    | op => chkP (k = k') (binI op k a b K)
  | _, _, _ => False
/-- Two bools; a pointer and nil; an interface value and nil. -/
def eqV : Nat → IV → IV → Option Bool
  | 0, .bool a, .bool b => some (a == b)
  | 1, .nilp, .nilp => some true
  | 1, .ptr _ _ _, .nilp => some false
  | 1, .nilp, .ptr _ _ _ => some false
  | 2, .nili, .nili => some true
  | 2, .iface _ _, .nili => some false
  | _, _, _ => none

/-- if so asked: no object of the heap -/
def locP : Bool → IV → Prop
  | true, .ptr _ _ _ => False
  | _, _ => True

instance instDecLocP (l : Bool) (x : IV) : Decidable (locP l x) := match l, x with
  | true, .ptr _ _ _ => .isFalse fun h => h
  | false, .ptr _ _ _ => .isTrue trivial
  | false, .bool _ | false, .int _ _ | false, .str _ | false, .nilp | false, .pel _ _ | false, .vs _ _ _ | false, .rs _ _ _ | false, .iface _ _ | false, .nili | false, .fn _ _ _ | false, .nilf | false, .lp _ _ | false, .tup _ | false, .agg _ => .isTrue trivial
  | true, .bool _ | true, .int _ _ | true, .str _ | true, .nilp | true, .pel _ _ | true, .vs _ _ _ | true, .rs _ _ _ | true, .iface _ _ | true, .nili | true, .fn _ _ _ | true, .nilf | true, .lp _ _ | true, .tup _ | true, .agg _ => .isTrue trivial

def getRow (L : Loc) (h : Heap) : IV → (List IV → Nat → Prop) → Prop
  | .pel row o, K => K row o
  | .lp t o, K => optK (L t) fun row => K row o
  | .ptr id i o, K => optK (h.obj id) fun rows => optK rows[i]? fun row => K row o
  | _, _ => False
theorem getRow_def (L : Loc) (h : Heap) (x : IV) (K : List IV → Nat → Prop) : getRow L h x K = (match x, K with
  | .pel row o, K => K row o
  | .lp t o, K => (match L t with
    | some row => K row o
    | none => False)
  | .ptr id i o, K => (match h.obj id with
    | some rows => (match rows[i]? with
      | some row => K row o
      | none => False)
    | none => False)
  | _, _ => False) := by
  cases x <;> try rfl
  · rename_i id i o
    simp only [getRow, optK]
    cases h.obj id with
    | none => rfl
    | some rows =>
      simp only
      cases rows[i]? <;> rfl
  · rename_i t o
    simp only [getRow, optK]
    cases L t <;> rfl

inductive VOp where
  | mov (d : Nat) (x : Opd)
  | pick (d : Nat) (c a b : Opd)
  | bin (d : Nat) (op : BinOp) (x y : Opd)
  | eqv (d k : Nat) (neg : Bool) (x y : Opd)
  | not (d : Nat) (x : Opd)
  | nilchk (d : Nat) (x : Opd)
  | fieldA (d : Nat) (x : Opd) (off : Nat)
  | idxA (d n : Nat) (x i : Opd)
  | load1 (l : Bool) (d : Nat) (x : Opd)
  | loadN (l : Bool) (d n : Nat) (x : Opd)
  | store1 (x v : Opd)
  | storeN (n : Nat) (x v : Opd)
  | len (d : Nat) (x : Opd)
  | alloc (d : Nat) (z : List IV)
  | allocH (d : Nat) (z : List IV)
  | box (d : Nat) (x : Opd)
  | boxH (d : Nat) (x : Opd)
  | build (d : Nat) (z : List IV) (parts : List (Nat × Nat × Opd))
  | bslice (d n : Nat) (z : List IV) (len : Nat) (parts : List (Nat × Opd))
  | app (d n bytes : Nat) (x y : Opd)
  | appR (d n bytes : Nat) (x y : Opd)
  | slc (d n : Nat) (x : Opd) (lo hi mx : Option Opd)
  | mm (d : Nat) (isMax : Bool) (x y : Opd)
  | ext (d : Nat) (x : Opd) (i : Nat)
  | mkF (d f : Nat) (caps : List Opd)
  | call (q : Bool) (d : Option Nat) (f : Nat) (args : List Opd)
  | callv (q : Bool) (d : Option Nat) (x : Opd) (args : List Opd)
  | guard (t : Nat) (b : Bool) (o : VOp)
  | nilR (d n : Nat)
  | nilO (d n : Nat)
  | frz (d n : Nat) (x : Opd)
  | eqS (d : Nat) (ks : List (Option IntKind)) (neg : Bool) (x y : Opd)
  | eqNil (d : Nat) (neg : Bool) (x : Opd)
  | mkI (d : Nat) (t : TypeId) (x : Opd)
  | bad (d : Option Nat)
  | cap (d : Nat) (x : Opd)
  | appZ (d n bytes : Nat) (z : List IV) (x k : Opd)
  | un (d : Nat) (op : UnOp) (x : Opd)
  | cvi (d : Nat) (k : IntKind) (x : Opd)
  | idxP (d n len : Nat) (x i : Opd)
  | idxV (d len : Nat) (x i : Opd)
  | mkS (d n bytes : Nat) (z : List IV) (x : Opd)

def VOp.dst : VOp → Option Nat
  | .mov d _ | .pick d _ _ _ | .bin d _ _ _ | .eqv d _ _ _ _ | .not d _ | .nilchk d _ | .fieldA d _ _ | .idxA d _ _ _ | .load1 _ d _ | .loadN _ d _ _ | .len d _ | .alloc d _ | .allocH d _ | .box d _ | .boxH d _
  | .build d _ _ | .bslice d _ _ _ _ | .app d _ _ _ _ | .appR d _ _ _ _ | .slc d _ _ _ _ _ | .mm d _ _ _ | .ext d _ _ | .mkF d _ _ => some d
  | .store1 _ _ | .storeN _ _ _ => none
  | .call _ d _ _ | .callv _ d _ _ => d
  | .guard _ _ o => o.dst
  | .nilR d _ | .nilO d _ | .frz d _ _ | .eqS d _ _ _ _ | .eqNil d _ _ | .mkI d _ _ | .cap d _ | .appZ d _ _ _ _ _ | .un d _ _ | .cvi d _ _ | .idxP d _ _ _ _ | .idxV d _ _ _ | .mkS d _ _ _ _ => some d
  | .bad d => d

def Env.delO (e : Env) : Option Nat → Env
  | some d => e.del d
  | none => e
def Env.putD (e : Env) : Option Nat → IV → Env
  | some d, v => e.put d v
  | none, _ => e

def getArgs (e : Env) : List Opd → Option (List IV)
  | [] => some []
  | o :: os => match o.get e, getArgs e os with
    | some v, some vs => some (v :: vs)
    | _, _ => none
def allOK : List IV → Prop
  | [] => True
  | x :: xs => x.notLp ∧ allOK xs

instance instDecAllOK : (xs : List IV) → Decidable (allOK xs)
  | [] => .isTrue trivial
  | x :: xs => match instDecNotLp x, instDecAllOK xs with
    | .isTrue a, .isTrue b => .isTrue ⟨a, b⟩
    | .isFalse a, _ => .isFalse fun h => a h.1
    | _, .isFalse b => .isFalse fun h => b h.2

def cellsOf : IV → List IV
  | .agg xs => xs
  | x => [x]

def fillV (e : Env) : List IV → List (Nat × Nat × Opd) → Option (List IV)
  | z, [] => some z
  | z, (off, n, x) :: ps => match x.get e with
    | some v => if (cellsOf v).length = n ∧ off + n ≤ z.length ∧ (cellsOf v).all IV.cell = true then fillV e (z.take off ++ cellsOf v ++ z.drop (off + n)) ps else none
    | none => none
def rowsV (e : Env) (n : Nat) : Rows → List (Nat × Opd) → Option Rows
  | rows, [] => some rows
  | rows, (i, x) :: ps => match x.get e with
    | some v => if (cellsOf v).length = n ∧ i < rows.length ∧ (cellsOf v).all IV.cell = true then rowsV e n (rows.set i (cellsOf v)) ps else none
    | none => none
def boundV (e : Env) (d : Nat) : Option Opd → Option Int
  | none => some d
  | some x => match x.get e with
    | some (.int _ k) => some k
    | _ => none
def HasBody (P : Program) (f : Nat) : Prop := ∃ fn, P.funcs[f]? = some fn ∧ fn.body.isSome = true ∧ (fn.name == "runtime.NumGoroutine") = false
def slcTag (tag : Tag) (mx : Bool) (m h len : Nat) : Tag :=
  if mx then (if m = h then .full else .ro) else if h = len then tag else .ro

/-- Cells of integers and bools, compared. -/
def eqCells : List (Option IntKind) → List IV → List IV → Option Bool
  | [], [], [] => some true
  | some k :: ks, .int k1 a :: xs, .int k2 b :: ys => if k1 = k ∧ k2 = k then (eqCells ks xs ys).map fun r => a == b && r else none
  | none :: ks, .bool a :: xs, .bool b :: ys => (eqCells ks xs ys).map fun r => a == b && r
  | _, _, _ => none

/-- if so asked: the objects that there were stand. -/
def quietP : Bool → Heap → Heap → Prop
  | true, h, h' => ∀ i r, h.obj i = some r → h'.obj i = some r
  | false, _, _ => True

def vop (P : Program) : VOp → Kont → Kont
  | .mov d x, K, e, L, h => match x.get e with
    | some v => K (e.put d v) L h
    | none => False
  | .pick d c a b, K, e, L, h => match c.get e with
    | some (.bool t) => br t (match a.get e with | some v => K (e.put d v) L h | none => False) (match b.get e with | some v => K (e.put d v) L h | none => False)
    | _ => False
  | .bin d op x y, K, e, L, h => match x.get e, y.get e with
    | some a, some b => binV op a b fun v => K (e.put d v) L h
    | _, _ => False
  | .eqv d k neg x y, K, e, L, h => match x.get e, y.get e with
    | some a, some b => (match eqV k a b with
      | some t => K (e.put d (.bool (if neg then !t else t))) L h
      | none => False)
    | _, _ => False
  | .not d x, K, e, L, h => match x.get e with
    | some (.bool b) => K (e.put d (.bool !b)) L h
    | _ => False
  | .nilchk d x, K, e, L, h => match x.get e with
    | some (.ptr i r o) => K (e.put d (.ptr i r o)) L h
    | some (.lp t o) => K (e.put d (.lp t o)) L h
    | _ => False
  | .fieldA d x off, K, e, L, h => match x.get e with
    | some (.ptr i r o) => K (e.put d (.ptr i r (o + off))) L h
    | some (.lp t o) => K (e.put d (.lp t (o + off))) L h
    | some (.pel r o) => K (e.put d (.pel r (o + off))) L h
    | _ => False
  | .idxA d n x i, K, e, L, h => match x.get e, i.get e with
    | some (.vs n' rows _), some (.int _ k) => chkP (n' = n) (0 ≤ k ∧ (optK rows[k.toNat]? fun row => K (e.put d (.pel row 0)) L h))
    | some (.rs n' id len), some (.int _ k) => chkP (n' = n) (0 ≤ k ∧ k < len ∧ K (e.put d (.ptr id k.toNat 0)) L h)
    | _, _ => False
  | .load1 l d x, K, e, L, h => match x.get e with
    | some p => chkP (locP l p) (getRow L h p fun row o => (optK row[o]? fun v => K (e.put d v) L h))
    | none => False
  | .loadN l d n x, K, e, L, h => match x.get e with
    | some p => chkP (locP l p) (getRow L h p fun row o => o + n ≤ row.length ∧ K (e.put d (.agg ((row.drop o).take n))) L h)
    | none => False
  | .store1 x v, K, e, L, h => match x.get e, v.get e with
    | some (.lp t o), some v => chkP v.isCell (optK (L t) fun row => o < row.length ∧ K e (L.put t (row.set o v)) h)
    | some (.ptr id i o), some v => chkP v.isCell (optK (h.obj id) fun rows => optK rows[i]? fun row => o < row.length ∧ K e L (h.put id (rows.set i (row.set o v))))
    | _, _ => False
  | .storeN n x v, K, e, L, h => match x.get e, v.get e with
    | some (.lp t o), some (.agg vs) => optK (L t) fun row => vs.length = n ∧ o + vs.length ≤ row.length ∧ K e (L.put t (row.take o ++ vs ++ row.drop (o + vs.length))) h
    | some (.ptr id i o), some (.agg vs) => optK (h.obj id) fun rows => optK rows[i]? fun row => vs.length = n ∧ o + vs.length ≤ row.length ∧ K e L (h.put id (rows.set i (row.take o ++ vs ++ row.drop (o + vs.length))))
    | _, _ => False
  | .len d x, K, e, L, h => match x.get e with
    | some (.vs _ rows _) => K (e.put d (.int .i64 rows.length)) L h
    | some (.rs _ _ len) => K (e.put d (.int .i64 len)) L h
    | _ => False
  | .alloc d z, K, e, L, h => K ((e.purge d).put d (.lp d 0)) (L.put d z) h
  | .allocH d z, K, e, L, h => ∀ id, h.obj id = none → K (e.put d (.ptr id 0 0)) L (h.put id [z])
  | .box d x, K, e, L, h => match x.get e with
    | some x => chkP x.boxable (K ((e.purge d).put d (.lp d 0)) (L.put d (cellsOf x)) h)
    | none => False
  | .boxH d x, K, e, L, h => match x.get e with
    | some x => chkP x.boxable (∀ id, h.obj id = none → K (e.put d (.ptr id 0 0)) L (h.put id [cellsOf x]))
    | none => False
  | .build d z parts, K, e, L, h => match fillV e z parts with
    | some xs => K (e.put d (.agg xs)) L h
    | none => False
  | .bslice d n z len parts, K, e, L, h => match rowsV e n (List.replicate len z) parts with
    | some rows => K (e.put d (.vs n rows .full)) L h
    | none => False
  | .app d n bytes x y, K, e, L, h => match x.get e, y.get e with
    | some (.vs n1 rows .full), some (.vs n2 more _) => chkP (n1 = n) (chkP (n2 = n) ((rows.length + more.length) * bytes ≤ 140737488355328 ∧ ∀ t, h.tok t = false → K (e.put d (.vs n (rows ++ more) (.own t))) L (h.addT t)))
    | some (.vs n1 rows (.own s)), some (.vs n2 more _) => chkP (n1 = n) (chkP (n2 = n) ((rows.length + more.length) * bytes ≤ 140737488355328 ∧ h.tok s = true ∧ ∀ t, h.tok t = false → K (e.put d (.vs n (rows ++ more) (.own t))) L ((h.delT s).addT t)))
    | _, _ => False
  | .appR d n bytes x y, K, e, L, h => match x.get e, y.get e with
    | some (.rs n1 id len), some (.vs n2 more _) => chkP (n1 = n) (chkP (n2 = n) ((len + more.length) * bytes ≤ 140737488355328 ∧ optK (h.obj id) fun rows => len ≤ rows.length ∧ ∀ id', id' = id ∨ h.obj id' = none → K (e.put d (.rs n id' (len + more.length))) L ((h.del id).put id' (rows.take len ++ more))))
    | _, _ => False
  | .slc d n x lo hi mx, K, e, L, h => match x.get e with
    | some (.vs n1 rows tag) => (match boundV e 0 lo, boundV e rows.length hi with
      | some l, some k => chkP (n1 = n) (0 ≤ l ∧ l ≤ k ∧ k ≤ rows.length ∧ (match mx with
        | none => K (e.put d (.vs n ((rows.take k.toNat).drop l.toNat) (slcTag tag false 0 k.toNat rows.length))) L h
        | some m => (match m.get e with
          | some (.int _ m) => k ≤ m ∧ m ≤ rows.length ∧ K (e.put d (.vs n ((rows.take k.toNat).drop l.toNat) (slcTag tag true m.toNat k.toNat rows.length))) L h
          | _ => False)))
      | _, _ => False)
    | some (.rs n1 id len) => (match lo, boundV e len hi, mx with
      | none, some k, none => chkP (n1 = n) (0 ≤ k ∧ k ≤ len ∧ K (e.put d (.rs n id k.toNat)) L h)
      | _, _, _ => False)
    | _ => False
  | .mm d isMax x y, K, e, L, h => match x.get e, y.get e with
    | some (.int k a), some (.int _ b) => br isMax (K (e.put d (.int k (max a b))) L h) (K (e.put d (.int k (min a b))) L h)
    | _, _ => False
  | .ext d x i, K, e, L, h => match x.get e with
    | some (.tup xs) => optK xs[i]? fun v => K (e.put d v) L h
    | _ => False
  | .mkF d f caps, K, e, L, h => match getArgs e caps with
    | some vs => chkP (allOK vs) (K (e.put d (.fn (.func f) [] vs)) L h)
    | none => False
  | .call q d f args, K, e, L, h => match getArgs e args with
    | some vs => chkP (allOK vs) (CallsV P f vs h fun x h' => quietP q h h' ∧ K (e.putD d x) L h')
    | none => False
  | .callv q d x args, K, e, L, h => match x.get e, getArgs e args with
    | some (.fn (.func f) first cap), some vs => chkP (allOK vs) (HasBody P f ∧ CallsV P f (first ++ vs ++ cap) h fun x h' => quietP q h h' ∧ K (e.putD d x) L h')
    | _, _ => False
  | .guard t b o, K, e, L, h => match e t with
    | some (.bool c) => br c (br b (vop P o K (e.put t (.bool true)) L h) (K ((e.put t (.bool true)).delO o.dst) L h)) (br b (K ((e.put t (.bool false)).delO o.dst) L h) (vop P o K (e.put t (.bool false)) L h))
    | _ => False
  | .nilR d n, K, e, L, h => ∀ id, h.obj id = none → K (e.put d (.rs n id 0)) L (h.put id [])
  | .nilO d n, K, e, L, h => ∀ t, h.tok t = false → K (e.put d (.vs n [] (.own t))) L (h.addT t)
  | .frz d n x, K, e, L, h => match x.get e with
    | some (.rs n1 id len) => chkP (n1 = n) (optK (h.obj id) fun rows => len ≤ rows.length ∧ K (e.put d (.vs n (rows.take len) .ro)) L (h.del id))
    | some (.vs n1 rows _) => chkP (n1 = n) (K (e.put d (.vs n rows .ro)) L h)
    | _ => False
  | .eqS d ks neg x y, K, e, L, h => match x.get e, y.get e with
    | some (.agg xs), some (.agg ys) => (match eqCells ks xs ys with
      | some t => K (e.put d (.bool (if neg then !t else t))) L h
      | none => False)
    | _, _ => False
  | .eqNil d neg x, K, e, L, h => match x.get e with
    | some (.vs _ rows _) => ∀ t : Bool, (t = true → rows = []) → K (e.put d (.bool (if neg then !t else t))) L h
    | _ => False
  | .mkI d t x, K, e, L, h => match x.get e with
    | some v => chkP v.notLp (K (e.put d (.iface t v)) L h)
    | none => False
  | .bad _, _, _, _, _ => False
  | .cap d x, K, e, L, h => match x.get e with
    | some (.vs _ rows .full) => K (e.put d (.int .i64 rows.length)) L h
    | _ => False
  | .appZ d n bytes z x k, K, e, L, h => match x.get e, k.get e with
    | some (.vs n1 [] .full), some (.int _ c) => chkP (n1 = n) (0 < c ∧ c * bytes ≤ 140737488355328 ∧ ∀ id, h.obj id = none → K (e.put d (.rs n id c.toNat)) L (h.put id (List.replicate c.toNat z)))
    | _, _ => False
  | .un d op x, K, e, L, h => match x.get e with
    | some (.int k m) => (match op with
      | .neg => binI .sub k 0 m fun v => K (e.put d v) L h
      | .xor => binI .xor k (if k.signed then -1 else k.max) m fun v => K (e.put d v) L h
      | _ => False)
    | _ => False
  | .cvi d k x, K, e, L, h => match x.get e with
    | some (.int _ m) => ovf k m fun v => K (e.put d v) L h
    | _ => False
  | .idxP d n len x i, K, e, L, h => match x.get e, i.get e with
    | some (.ptr id r o), some (.int _ k) => 0 ≤ k ∧ k < len ∧ K (e.put d (.ptr id r (o + k.toNat * n))) L h
    | some (.lp t o), some (.int _ k) => 0 ≤ k ∧ k < len ∧ K (e.put d (.lp t (o + k.toNat * n))) L h
    | some (.pel r o), some (.int _ k) => 0 ≤ k ∧ k < len ∧ K (e.put d (.pel r (o + k.toNat * n))) L h
    | _, _ => False
  | .idxV d len x i, K, e, L, h => match x.get e, i.get e with
    | some (.agg xs), some (.int _ k) => 0 ≤ k ∧ k < len ∧ optK xs[k.toNat]? fun v => K (e.put d v) L h
    | _, _ => False
  | .mkS d n bytes z x, K, e, L, h => match x.get e with
    | some (.int _ c) => 0 ≤ c ∧ c * bytes ≤ 140737488355328 ∧ ∀ id, h.obj id = none → K (e.put d (.rs n id c.toNat)) L (h.put id (List.replicate c.toNat z))
    | _ => False

/-! ### which operation stands for which -/
def chkC1 : Value → IV → Bool
  | .bool a, .bool b => a == b
  | .int k n, .int k' n' => k == k' && n == n'
  | .string s, .str s' => s.data == s'.data
  | .pointer none, .nilp => true
  | .slice none 0 0, .vs _ [] .full => true
  | .nilIface, .nili => true
  | .nilFunc, .nilf => true
  | _, _ => false
def chkCs : List Value → List IV → Bool
  | [], [] => true
  | v :: vs, x :: xs => chkC1 v x && chkCs vs xs
  | _, _ => false
def chkC : Value → IV → Bool
  | .agg vs, .agg xs => chkCs vs.toList xs
  | v, x => chkC1 v x
def chkX : Operand → Opd → Bool
  | .tmp t, .t t' => t == t'
  | .const v, .c x => chkC v x
  | .func f, .c (.fn (.func g) [] []) => f == g
  | _, _ => false
def chkD (n : Nat) (o : Oper) (d : Nat) : Bool := o.dst == some d && decide (d < n)
def sizeOf? (P : Program) (t : TypeId) : Option Nat := (P.info? t).map (·.size)
def isRow? (P : Program) (t : TypeId) : Option Bool := (P.underlying t).map (·.isRow)
def zeroOf? (P : Program) (t : TypeId) : Option (List Value) := (P.info? t).bind fun i => i.zero.map (·.cells.toList)
def fieldOff? (P : Program) (t : TypeId) (f : Nat) : Option Nat :=
  match P.underlying t with
  | some (.struct fs) => (fs[f]?).bind fun fl => match sizeOf? P fl.type with
    | some (_ + 1) => some fl.offset
    | _ => none
  | _ => none
def elem? (P : Program) (t : TypeId) : Option TypeId :=
  match P.underlying t with
  | some (.slice e) => some e
  | _ => none

/-! ### soundness, operation by operation -/
theorem chkC1_sound {G : Ghost} : ∀ {v : Value} {x : IV}, chkC1 v x = true → R0 G x v ∧ x.cell = true := by
  intro v x h
  unfold chkC1 at h
  split at h <;> first | (cases h; done) | skip
  · rw [beq_iff_eq] at h; subst h; exact ⟨.bool _, rfl⟩
  · rw [Bool.and_eq_true, beq_iff_eq, beq_iff_eq] at h; obtain ⟨rfl, rfl⟩ := h; exact ⟨.int _ _, rfl⟩
  · rename_i s s'
    rw [beq_iff_eq] at h
    have : s = s' := by cases s; cases s'; simp at h; rw [h]
    subst this; exact ⟨.str _, rfl⟩
  · exact ⟨.nilp, rfl⟩
  · exact ⟨.vs (b := 0) (base := 0) (rows := []) (fun _ _ => undef) (Nat.le_refl _) (fun h => absurd rfl h) (fun _ => rfl) rfl (fun _ _ h => by simp at h) (fun _ _ _ _ h => by simp at h) (fun _ _ _ _ h => by simp at h) (fun _ _ _ _ h => by simp at h), rfl⟩
  · exact ⟨.nili, rfl⟩
  · exact ⟨.nilf, rfl⟩

theorem chkCs_sound {G : Ghost} : ∀ {vs : List Value} {xs : List IV}, chkCs vs xs = true → vs.length = xs.length ∧ ∀ (j : Nat) (x : IV), xs[j]? = some x → x.cell = true ∧ ∃ v, vs[j]? = some v ∧ R0 G x v
  | [], [], _ => ⟨rfl, fun _ _ h => by simp at h⟩
  | v :: vs, x :: xs, h => by
    simp only [chkCs, Bool.and_eq_true] at h
    obtain ⟨h1, h2⟩ := h
    obtain ⟨hl, ih⟩ := chkCs_sound (G := G) h2
    refine ⟨by simp [hl], fun j y hj => ?_⟩
    cases j with
    | zero =>
      simp at hj
      subst hj
      have := chkC1_sound (G := G) h1
      exact ⟨this.2, v, rfl, this.1⟩
    | succ j => simpa using ih j y (by simpa using hj)
  | [], _ :: _, h => by simp [chkCs] at h
  | _ :: _, [], h => by simp [chkCs] at h

theorem R0.agg_of {G : Ghost} {xs : List IV} {vs : List Value} (hl : vs.length = xs.length) (h : ∀ (j : Nat) (x : IV), xs[j]? = some x → x.cell = true ∧ ∃ v, vs[j]? = some v ∧ R0 G x v) : R0 G (.agg xs) (.agg vs.toArray) := by
  refine .agg (fun j => vs.getD j undef) (by simp [hl]) (fun j x hj => (h j x hj).1) (fun j x hj => ?_) (fun j x hj => ?_)
  · obtain ⟨v, hv, _⟩ := (h j x hj).2
    simp [hv, List.getD]
  · obtain ⟨v, hv, hr⟩ := (h j x hj).2
    simp [hv, List.getD]; exact hr
theorem R0.agg_inv {G : Ghost} {xs : List IV} {v : Value} (h : R0 G (.agg xs) v) : ∃ vs : List Value, v = .agg vs.toArray ∧ vs.length = xs.length ∧ ∀ (j : Nat) (x : IV), xs[j]? = some x → x.cell = true ∧ ∃ v, vs[j]? = some v ∧ R0 G x v := by
  cases h with
  | @agg _ vs vals hs hc hv hr => exact ⟨vs.toList, by simp, by simpa using hs, fun j x hj => ⟨hc j x hj, vals j, by simpa using hv j x hj, hr j x hj⟩⟩

theorem chkC_sound {G : Ghost} {v : Value} {x : IV} (h : chkC v x = true) : R0 G x v := by
  unfold chkC at h
  split at h
  · obtain ⟨hl, hx⟩ := chkCs_sound (G := G) h
    simpa using R0.agg_of hl hx
  · exact (chkC1_sound h).1

theorem R0.bool_inv {G : Ghost} {b : Bool} {v : Value} (h : R0 G (.bool b) v) : v = .bool b := by cases h; rfl
theorem R0.int_inv {G : Ghost} {k : IntKind} {n : Int} {v : Value} (h : R0 G (.int k n) v) : v = .int k n := by cases h; rfl
theorem R0.str_inv {G : Ghost} {s : ByteArray} {v : Value} (h : R0 G (.str s) v) : v = .string s := by cases h; rfl
theorem R0.nilp_inv {G : Ghost} {v : Value} (h : R0 G .nilp v) : v = .pointer none := by cases h; rfl
theorem R0.nili_inv {G : Ghost} {v : Value} (h : R0 G .nili v) : v = .nilIface := by cases h; rfl
theorem R0.ptr_inv {G : Ghost} {id i o : Nat} {v : Value} (h : R0 G (.ptr id i o) v) : ∃ p, G.obj id = some p ∧ v = .pointer (some ⟨p.b, p.off + i * p.n + o, none⟩) := by
  cases h with
  | ptr h => exact ⟨_, h, rfl⟩

variable {P : Program} {β : Base} {N : Nat} {e : Env} {L : Loc} {h : Heap} {a : Act} {w : World} {G : Ghost} {lam : Nat → Option Nat} {hh : Heap}

theorem chkX_sound (R : RelG β N e L h a w G lam hh) {o : Operand} {x : Opd} (hc : chkX o x = true) {y : IV} (hy : x.get e = some y) : RL lam G y (a.eval o) := by
  unfold chkX at hc
  split at hc
  · rw [beq_iff_eq] at hc
    subst hc
    obtain ⟨v, hv, hr⟩ := R.env _ _ hy
    simpa [Act.eval, Array.getD_eq_getD_getElem?, hv] using hr
  · simp only [Opd.get] at hy
    cases hy
    exact .inr (chkC_sound hc)
  · rw [beq_iff_eq] at hc
    subst hc
    simp only [Opd.get] at hy
    cases hy
    exact .inr (.fn _ (fun _ => undef) (fun _ => undef) rfl rfl (fun _ _ h => by simp at h) (fun _ _ h => by simp at h) (fun _ _ h => by simp at h) (fun _ _ h => by simp at h))
  · cases hc

theorem wp_value {o : Oper} {next : Act → World → Prop} {Q : Exit → Act → World → Prop} {v : Value} {w' : World} (hr : (execOp a.eval o).run P w = .ok (.value v) w') (hn : next (a.put o.dst v) w') : o.wp P a w next Q := by
  unfold Oper.wp; rw [hr]; exact hn
theorem wp_skipped {o : Oper} {next : Act → World → Prop} {Q : Exit → Act → World → Prop} {w' : World} (hr : (execOp a.eval o).run P w = .ok .skip w') (hn : next (a.put o.dst undef) w') : o.wp P a w next Q := by
  unfold Oper.wp; rw [hr]; exact hn

theorem chkD_sound {n : Nat} {o : Oper} {d : Nat} (h : chkD n o d = true) : o.dst = some d ∧ d < n := by
  simpa [chkD] using h

def LetsAny (_ : Exit → Act → World → Prop) : Prop := True
/-- What is to be shown of each operation. -/
def Snd (P : Program) (β : Base) (N : Nat) (o : Oper) (V : Kont → Kont) : Prop :=
  ∀ (K : Kont) (e : Env) (L : Loc) (h : Heap) (a : Act) (w : World) (G : Ghost) (lam : Nat → Option Nat) (hh : Heap) (next : Act → World → Prop) (Q : Exit → Act → World → Prop),
    RelG β N e L h a w G lam hh → V K e L h → LetsAny Q →
    (∀ e' L' h' a' w' G' lam' hh', RelG β N e' L' h' a' w' G' lam' hh' → K e' L' h' → next a' w') → o.wp P a w next Q

def chkMov (n : Nat) (o : Oper) (d : Nat) (x : Opd) : Bool :=
  match o.op with
  | .move y | .assign y => chkD n o d && chkX y x
  | _ => false
theorem snd_mov {o : Oper} {d : Nat} {x : Opd} (hc : chkMov N o d x = true) : Snd P β N o (vop P (.mov d x)) := by
  intro K e L h a w G lam hh next Q R hv _ hn
  have key : ∀ y, (chkD N o d && chkX y x) = true → (execOp a.eval o).run P w = .ok (.value (a.eval y)) w → o.wp P a w next Q := by
    intro y hc hr
    rw [Bool.and_eq_true] at hc
    obtain ⟨hd, hdn⟩ := chkD_sound hc.1
    simp only [vop] at hv
    split at hv
    · rename_i v hx
      refine wp_value hr ?_
      rw [hd]
      exact hn _ _ _ _ _ _ _ _ (R.put hdn (chkX_sound R hc.2 hx)) hv
    · exact hv.elim
  unfold chkMov at hc
  split at hc
  · rename_i y ho; exact key y hc (by simp [execOp, ho])
  · rename_i y ho; exact key y hc (by simp [execOp, ho])
  · cases hc

def chkPick (n : Nat) (o : Oper) (d : Nat) (c x y : Opd) : Bool :=
  match o.op with
  | .pick c' x' y' => chkD n o d && chkX c' c && chkX x' x && chkX y' y
  | _ => false
theorem snd_pick {o : Oper} {d : Nat} {c x y : Opd} (hc : chkPick N o d c x y = true) : Snd P β N o (vop P (.pick d c x y)) := by
  intro K e L h a w G lam hh next Q R hv _ hn
  unfold chkPick at hc
  split at hc
  · rename_i c' x' y' ho
    simp only [Bool.and_eq_true] at hc
    obtain ⟨⟨⟨h1, h2⟩, h3⟩, h4⟩ := hc
    obtain ⟨hd, hdn⟩ := chkD_sound h1
    simp only [vop, br_iff] at hv
    split at hv
    · rename_i t ht
      have hb : a.eval c' = .bool t := by
        exact ((chkX_sound R h2 ht).r0 (by simp)).bool_inv
      cases t with
      | true =>
        have hv := hv.1 rfl
        split at hv
        · rename_i v hx
          refine wp_value (v := a.eval x') (w' := w) (by simp [execOp, ho, hb, asBool]) ?_
          rw [hd]
          exact hn _ _ _ _ _ _ _ _ (R.put hdn (chkX_sound R h3 hx)) hv
        · exact hv.elim
      | false =>
        have hv := hv.2 rfl
        split at hv
        · rename_i v hx
          refine wp_value (v := a.eval y') (w' := w) (by simp [execOp, ho, hb, asBool]) ?_
          rw [hd]
          exact hn _ _ _ _ _ _ _ _ (R.put hdn (chkX_sound R h4 hx)) hv
        · exact hv.elim
    · exact hv.elim
  · cases hc

theorem binI_sound {op : BinOp} {k : IntKind} {x y : Int} {K : IV → Prop} {t : TypeId} {xo yo : Operand} (h : binI op k x y K) :
    ∃ u v, R0 G u v ∧ (∀ t o, u ≠ .lp t o) ∧ K u ∧ (do eqGuard op t xo yo (.int k x) (.int k y); Go.binOp op t (.int k x) (.int k y)).run P w = .ok v w := by
  cases op <;> simp only [binI] at h <;>
    first
      | exact h.elim
      | exact ⟨_, _, .int _ _, by simp, ovf_out h, by simp [eqGuard, Go.binOp, Op.intArith]⟩
      | exact ⟨_, _, .int _ _, by simp, ovf_out h.2, by simp [eqGuard, Go.binOp, Op.intDiv, h.1]⟩
      | exact ⟨_, _, .int _ _, by simp, h, by simp [eqGuard, Go.binOp, Op.intBits]⟩
      | exact ⟨_, _, .int _ _, by simp, h.2, by simp [eqGuard, Go.binOp, Op.intDiv, h.1]⟩
      | (refine ⟨_, _, .bool _, by simp, h, ?_⟩; simp [eqGuard, Go.binOp, Op.intCmp]; done)
      | (refine ⟨_, _, .bool _, by simp, h, ?_⟩; by_cases hxy : x = y <;> simp [eqGuard, Go.binOp, Op.intCmp, hxy])

def chkBin (n : Nat) (o : Oper) (d : Nat) (op : BinOp) (x y : Opd) : Bool :=
  match o.op with
  | .binOp op' _ x' y' _ => op == op' && chkD n o d && chkX x' x && chkX y' y
  | _ => false
theorem snd_bin {o : Oper} {d : Nat} {op : BinOp} {x y : Opd} (hc : chkBin N o d op x y = true) : Snd P β N o (vop P (.bin d op x y)) := by
  intro K e L h a w G lam hh next Q R hv _ hn
  unfold chkBin at hc
  split at hc
  · rename_i op' t x' y' _ ho
    simp only [Bool.and_eq_true, beq_iff_eq] at hc
    obtain ⟨⟨⟨rfl, h1⟩, h2⟩, h3⟩ := hc
    obtain ⟨hd, hdn⟩ := chkD_sound h1
    simp only [vop] at hv
    split at hv
    · rename_i u v hx hy
      have fin : ∀ (u2 : IV) (v2 : Value), R0 G u2 v2 → K (e.put d u2) L h → (do eqGuard op t x' y' (a.eval x') (a.eval y'); Go.binOp op t (a.eval x') (a.eval y')).run P w = .ok v2 w → o.wp P a w next Q := by
        intro u2 v2 hr hk hrun
        refine wp_value (v := v2) (w' := w) ?_ ?_
        · simp only [execOp, ho, Sem.run_bind] at hrun ⊢
          rw [hrun]; rfl
        · rw [hd]; exact hn _ _ _ _ _ _ _ _ (R.put hdn (.inr hr)) hk
      have rx := chkX_sound R h2 hx
      have ry := chkX_sound R h3 hy
      unfold binV at hv
      split at hv
      · rename_i k m k' m'
        have ex := (rx.r0 (by simp)).int_inv
        have ey := (ry.r0 (by simp)).int_inv
        rw [ex, ey] at fin
        split at hv
        · refine fin _ _ (.int _ _) hv.2 ?_
          have : ¬ m' < 0 := by omega
          simp [eqGuard, Go.binOp, Op.shift, this]
        · refine fin _ _ (.int _ _) hv.2 ?_
          have : ¬ m' < 0 := by omega
          simp [eqGuard, Go.binOp, Op.shift, this]
        · rw [chkP_iff] at hv
          obtain ⟨rfl, hv⟩ := hv
          obtain ⟨u2, v2, hr, _, hk, hrun⟩ := binI_sound (P := P) (G := G) (w := w) (t := t) (xo := x') (yo := y') hv
          exact fin u2 v2 hr hk hrun
      · exact hv.elim
    · exact hv.elim
  · cases hc

def chkNot (n : Nat) (o : Oper) (d : Nat) (x : Opd) : Bool :=
  match o.op with
  | .unOp .not _ x' => chkD n o d && chkX x' x
  | _ => false
theorem snd_not {o : Oper} {d : Nat} {x : Opd} (hc : chkNot N o d x = true) : Snd P β N o (vop P (.not d x)) := by
  intro K e L h a w G lam hh next Q R hv _ hn
  unfold chkNot at hc
  split at hc
  · rename_i t x' ho
    simp only [Bool.and_eq_true] at hc
    obtain ⟨h1, h2⟩ := hc
    obtain ⟨hd, hdn⟩ := chkD_sound h1
    simp only [vop] at hv
    split at hv
    · rename_i b hx
      have ex := ((chkX_sound R h2 hx).r0 (by simp)).bool_inv
      refine wp_value (v := .bool !b) (w' := w) (by simp [execOp, ho, ex, Op.unary]) ?_
      rw [hd]
      exact hn _ _ _ _ _ _ _ _ (R.put hdn (.inr (.bool _))) hv
    · exact hv.elim
  · cases hc

theorem RL.lp_inv {t o : Nat} {v : Value} (h : RL lam G (.lp t o) v) : ∃ id p, lam t = some id ∧ G.obj id = some p ∧ v = .pointer (some ⟨p.b, p.off + o, none⟩) := by
  rcases h with ⟨t', o', id, p, e1, e2, e3, e4⟩ | h
  · cases e1; exact ⟨id, p, e2, e3, e4⟩
  · cases h

def chkNil (n : Nat) (o : Oper) (d : Nat) (x : Opd) : Bool :=
  match o.op with
  | .nilCheck x' => chkD n o d && chkX x' x
  | _ => false
theorem snd_nil {o : Oper} {d : Nat} {x : Opd} (hc : chkNil N o d x = true) : Snd P β N o (vop P (.nilchk d x)) := by
  intro K e L h a w G lam hh next Q R hv _ hn
  unfold chkNil at hc
  split at hc
  · rename_i x' ho
    simp only [Bool.and_eq_true] at hc
    obtain ⟨h1, h2⟩ := hc
    obtain ⟨hd, hdn⟩ := chkD_sound h1
    simp only [vop] at hv
    split at hv
    · rename_i i r o' hx
      have rx := chkX_sound R h2 hx
      obtain ⟨p, hp, ev⟩ := (rx.r0 (by simp)).ptr_inv
      refine wp_value (v := a.eval x') (w' := w) (by simp [execOp, ho, ev]) ?_
      rw [hd]
      exact hn _ _ _ _ _ _ _ _ (R.put hdn rx) hv
    · rename_i t o' hx
      have rx := chkX_sound R h2 hx
      obtain ⟨id, p, _, hp, ev⟩ := rx.lp_inv
      refine wp_value (v := a.eval x') (w' := w) (by simp [execOp, ho, ev]) ?_
      rw [hd]
      exact hn _ _ _ _ _ _ _ _ (R.put hdn rx) hv
    · exact hv.elim
  · cases hc

theorem R0.pel_inv {row : List IV} {o : Nat} {v : Value} (h : R0 G (.pel row o) v) : ∃ b base, v = .pointer (some ⟨b, base + o, none⟩) ∧ (∀ o', R0 G (.pel row o') (.pointer (some ⟨b, base + o', none⟩))) ∧
    ∃ vals : Nat → Value, (∀ (j : Nat) (x : IV), row[j]? = some x → x.cell = true) ∧ (∀ (j : Nat) (x : IV), row[j]? = some x → G.cl b (base + j) = .imm (vals j)) ∧ (∀ (j : Nat) (x : IV), row[j]? = some x → R0 G x (vals j)) := by
  cases h with
  | @pel _ _ b base vals hc hv hr => exact ⟨b, base, rfl, fun _ => .pel vals hc hv hr, vals, hc, hv, hr⟩

def chkFieldA (P : Program) (n : Nat) (o : Oper) (d : Nat) (x : Opd) (off : Nat) : Bool :=
  match o.op with
  | .fieldAddr s x' f => chkD n o d && chkX x' x && fieldOff? P s f == some off
  | _ => false
theorem run_field {s f off : Nat} (ho : fieldOff? P s f = some off) (b o : Nat) : (Instr.fieldAt s (.pointer (some ⟨b, o, none⟩)) f).run P w = .ok (.pointer (some ⟨b, o + off, none⟩)) w := by
  unfold fieldOff? at ho
  split at ho
  · rename_i fs hu
    cases hf : fs[f]? with
    | none => simp [hf] at ho
    | some fl =>
      simp only [hf, Option.bind_some] at ho
      split at ho
      · rename_i m hs
        cases ho
        unfold sizeOf? at hs
        cases hi : P.info? fl.type with
        | none => simp [hi] at hs
        | some i =>
          have hs' : i.size = m + 1 := by simpa [hi] using hs
          simp [Instr.fieldAt, run_underlying hu, hf, Instr.sureAddr, fieldPlace, Go.sizeOf, typeInfo, hi, hs', Addr.add_mid]
      · cases ho
  · cases ho
theorem snd_fieldA {o : Oper} {d : Nat} {x : Opd} {off : Nat} (hc : chkFieldA P N o d x off = true) : Snd P β N o (vop P (.fieldA d x off)) := by
  intro K e L h a w G lam hh next Q R hv _ hn
  unfold chkFieldA at hc
  split at hc
  · rename_i s x' f ho
    simp only [Bool.and_eq_true, beq_iff_eq] at hc
    obtain ⟨⟨h1, h2⟩, h3⟩ := hc
    obtain ⟨hd, hdn⟩ := chkD_sound h1
    simp only [vop] at hv
    split at hv
    · rename_i i r o' hx
      obtain ⟨p, hp, ev⟩ := ((chkX_sound R h2 hx).r0 (by simp)).ptr_inv
      refine wp_value (w' := w) (by simp [execOp, ho, ev, run_field h3]; rfl) ?_
      rw [hd]
      exact hn _ _ _ _ _ _ _ _ (R.put hdn (.inr (by rw [Nat.add_assoc]; exact .ptr hp))) hv
    · rename_i t o' hx
      obtain ⟨id, p, hl, hp, ev⟩ := (chkX_sound R h2 hx).lp_inv
      refine wp_value (w' := w) (by simp [execOp, ho, ev, run_field h3]; rfl) ?_
      rw [hd]
      exact hn _ _ _ _ _ _ _ _ (R.put hdn (.inl ⟨t, o' + off, id, p, rfl, hl, hp, by rw [Nat.add_assoc]⟩)) hv
    · rename_i row o' hx
      obtain ⟨b, base, ev, hr, _⟩ := ((chkX_sound R h2 hx).r0 (by simp)).pel_inv
      refine wp_value (w' := w) (by simp [execOp, ho, ev, run_field h3]; rfl) ?_
      rw [hd]
      exact hn _ _ _ _ _ _ _ _ (R.put hdn (.inr (by rw [Nat.add_assoc]; exact hr _))) hv
    · exact hv.elim
  · cases hc

def chkIdxA (P : Program) (n : Nat) (o : Oper) (d m : Nat) (x i : Opd) : Bool :=
  match o.op with
  | .indexAddr t x' i' => chkD n o d && chkX x' x && chkX i' i && ((elem? P t).bind (sizeOf? P)) == some m
  | _ => false
theorem run_idx {t e : TypeId} {m len cap : Nat} {k : IntKind} {i : Int} {b base : Nat} (hu : P.underlying t = some (.slice e)) (hs : sizeOf? P e = some m) (h0 : 0 ≤ i) (h1 : i < len) :
    (Instr.indexAt t (.slice (some ⟨b, base, none⟩) len cap) (.int k i)).run P w = .ok (.pointer (some ⟨b, base + i.toNat * m, none⟩)) w := by
  unfold sizeOf? at hs
  cases hi : P.info? e with
  | none => simp [hi] at hs
  | some inf =>
    have hs' : inf.size = m := by simpa [hi] using hs
    simp [Instr.indexAt, asIntOf, run_underlying hu, h0, h1, Go.sizeOf, typeInfo, hi, hs', Addr.add_mid]
theorem R0.vs_inv {n : Nat} {rows : Rows} {tag : Tag} {v : Value} (h : R0 G (.vs n rows tag) v) : ∃ A cap b base, v = .slice A rows.length cap ∧ rows.length ≤ cap ∧ (rows ≠ [] → A = some ⟨b, base, none⟩) ∧ (A = none → cap = 0) ∧
    TagOK G A b base n rows.length cap tag ∧ (∀ (i : Nat) (row : List IV), rows[i]? = some row → row.length = n) ∧
    ∃ vals : Nat → Nat → Value, (∀ (i : Nat) (row : List IV) (j : Nat) (x : IV), rows[i]? = some row → row[j]? = some x → x.cell = true) ∧
      (∀ (i : Nat) (row : List IV) (j : Nat) (x : IV), rows[i]? = some row → row[j]? = some x → G.cl b (base + i * n + j) = .imm (vals i j)) ∧
      (∀ (i : Nat) (row : List IV) (j : Nat) (x : IV), rows[i]? = some row → row[j]? = some x → R0 G x (vals i j)) := by
  cases h with
  | @vs _ _ _ A cap b base vals hl hA hN ht hn hc hv hr => exact ⟨A, cap, b, base, rfl, hl, hA, hN, ht, hn, vals, hc, hv, hr⟩
theorem R0.rs_inv {n id len : Nat} {v : Value} (h : R0 G (.rs n id len) v) : ∃ A p, v = .slice A len p.cap ∧ G.obj id = some p ∧ p.n = n ∧ len ≤ p.cap ∧ (A = some ⟨p.b, p.off, none⟩ ∨ (A = none ∧ p.cap = 0)) := by
  cases h with
  | @rs _ _ A p h hl hA => exact ⟨A, p, rfl, h, rfl, hl, hA⟩
theorem snd_idxA {o : Oper} {d m : Nat} {x i : Opd} (hc : chkIdxA P N o d m x i = true) : Snd P β N o (vop P (.idxA d m x i)) := by
  intro K e L h a w G lam hh next Q R hv _ hn
  unfold chkIdxA at hc
  split at hc
  · rename_i t x' i' ho
    simp only [Bool.and_eq_true, beq_iff_eq] at hc
    obtain ⟨⟨⟨h1, h2⟩, h3⟩, h4⟩ := hc
    obtain ⟨hd, hdn⟩ := chkD_sound h1
    cases hE : elem? P t with
    | none => simp [hE] at h4
    | some el =>
      rw [hE] at h4
      simp only [Option.bind_some] at h4
      have hu : P.underlying t = some (.slice el) := by
        unfold elem? at hE
        split at hE
        · cases hE; assumption
        · cases hE
      simp only [vop, chkP_iff, optK_def] at hv
      split at hv
      · rename_i n' rows tag k q hx hi
        obtain ⟨rfl, h0, hv⟩ := hv
        have ei := ((chkX_sound R h3 hi).r0 (by simp)).int_inv
        obtain ⟨A, cap, b, base, ev, hl, hA, hN, ht, hw, vals, hcell, him, hr⟩ := ((chkX_sound R h2 hx).r0 (by simp)).vs_inv
        split at hv
        · rename_i row hrow
          have hlt := get_lt hrow
          have hne : rows ≠ [] := by intro hc; rw [hc] at hrow; simp at hrow
          have eA := hA hne
          subst eA
          refine wp_value (w' := w) (by simp only [execOp, ho, ev, ei, Sem.run_bind, run_idx hu h4 h0 (show q < (rows.length : Int) by omega), Result.andThen_ok, Sem.run_pure]; rfl) ?_
          rw [hd]
          refine hn _ _ _ _ _ _ _ _ (R.put hdn (.inr ?_)) hv
          exact R0.pel (o := 0) (base := base + q.toNat * n') (fun j => vals q.toNat j) (fun j y hj => hcell _ _ _ _ hrow hj) (fun j y hj => him _ _ _ _ hrow hj) (fun j y hj => hr _ _ _ _ hrow hj)
        · exact hv.elim
      · rename_i n' id len k q hx hi
        obtain ⟨rfl, h0, h5, hv⟩ := hv
        have ei := ((chkX_sound R h3 hi).r0 (by simp)).int_inv
        obtain ⟨A, p, ev, hp, hpn, hl, hA⟩ := ((chkX_sound R h2 hx).r0 (by simp)).rs_inv
        have eA : A = some ⟨p.b, p.off, none⟩ := by
          rcases hA with hA | ⟨_, hz⟩
          · exact hA
          · omega
        subst eA
        subst hpn
        refine wp_value (w' := w) (by simp only [execOp, ho, ev, ei, Sem.run_bind, run_idx hu h4 h0 h5, Result.andThen_ok, Sem.run_pure]; rfl) ?_
        rw [hd]
        refine hn _ _ _ _ _ _ _ _ (R.put hdn (.inr ?_)) hv
        exact R0.ptr (o := 0) hp
      · exact hv.elim
  · cases hc

/-- A row that an address lies in: where, and what its cells are. -/
theorem row_at (R : RelG β N e L h a w G lam hh) {x : IV} {v : Value} (rx : RL lam G x v) {KK : List IV → Nat → Prop} (hk : getRow L h x KK) :
    ∃ row o b base, KK row o ∧ v = .pointer (some ⟨b, base + o, none⟩) ∧ ∀ (j : Nat) (y : IV), row[j]? = some y → y.cell = true ∧ ∃ u, w.cell? ⟨b, base + j, none⟩ = some u ∧ R0 G y u := by
  rw [getRow_def] at hk
  split at hk
  · rename_i row o
    obtain ⟨b, base, ev, _, vals, hc, him, hr⟩ := (rx.r0 (by simp)).pel_inv
    exact ⟨row, o, b, base, hk, ev, fun j y hj => ⟨hc j y hj, vals j, R.inv.W.imm _ _ _ (him j y hj), hr j y hj⟩⟩
  · rename_i t o
    split at hk
    · rename_i row hrow
      obtain ⟨id, p, hl, hp, ev⟩ := rx.lp_inv
      obtain ⟨id', b1, b2, b3, b4⟩ := R.loc t row hrow
      rw [hl] at b1
      cases b1
      obtain ⟨p', ok⟩ := R.inv.objs id _ b2
      have : p' = p := by have := ok.at_; rw [hp] at this; cases this; rfl
      subst this
      refine ⟨row, o, p'.b, p'.off, hk, ev, fun j y hj => ⟨ok.cell 0 row j y rfl hj, ?_⟩⟩
      obtain ⟨u, hu, hr⟩ := ok.has 0 row j y rfl hj
      exact ⟨u, by simpa using hu, hr⟩
    · exact hk.elim
  · rename_i id i o
    split at hk
    · rename_i rows hrows
      split at hk
      · rename_i row hrow
        obtain ⟨p, hp, ev⟩ := (rx.r0 (by simp)).ptr_inv
        obtain ⟨p', ok⟩ := R.inv.objs id _ (R.sub.1 _ _ hrows)
        have : p' = p := by have := ok.at_; rw [hp] at this; cases this; rfl
        subst this
        exact ⟨row, o, p'.b, p'.off + i * p'.n, hk, ev, fun j y hj => ⟨ok.cell i row j y hrow hj, ok.has i row j y hrow hj⟩⟩
      · exact hk.elim
    · exact hk.elim
  · exact hk.elim

def chkLoad1 (P : Program) (n : Nat) (o : Oper) (d : Nat) (x : Opd) : Bool :=
  match o.op with
  | .load t x' => chkD n o d && chkX x' x && isRow? P t == some false
  | _ => false
theorem run_load1 {t : TypeId} (ht : isRow? P t = some false) {b o : Nat} {u : Value} (hu : w.cell? ⟨b, o, none⟩ = some u) : (Instr.loadAt t (.pointer (some ⟨b, o, none⟩))).run P w = .ok u w := by
  unfold isRow? at ht
  cases hd : P.underlying t with
  | none => simp [hd] at ht
  | some d =>
    have hagg : (isAgg t).run P w = .ok false w := by
      unfold isAgg
      rw [Sem.run_bind, run_underlying hd w]
      rw [hd] at ht
      cases d <;> simp_all [TypeDesc.isRow]
    simp [Instr.loadAt, Instr.sureAddr, loadVar, hagg, load, Sem.run, hu]
theorem snd_load1 {o : Oper} {l : Bool} {d : Nat} {x : Opd} (hc : chkLoad1 P N o d x = true) : Snd P β N o (vop P (.load1 l d x)) := by
  intro K e L h a w G lam hh next Q R hv _ hn
  unfold chkLoad1 at hc
  split at hc
  · rename_i t x' ho
    simp only [Bool.and_eq_true, beq_iff_eq] at hc
    obtain ⟨⟨h1, h2⟩, h3⟩ := hc
    obtain ⟨hd, hdn⟩ := chkD_sound h1
    simp only [vop, chkP_iff, optK_def] at hv
    split at hv
    · rename_i p hx
      obtain ⟨row, o', b, base, hk, ev, hrow⟩ := row_at R (chkX_sound R h2 hx) hv.2
      split at hk
      · rename_i y hy
        obtain ⟨_, u, hu, hr⟩ := hrow _ _ hy
        refine wp_value (w' := w) (by simp only [execOp, ho, ev, Sem.run_bind, run_load1 h3 hu, Result.andThen_ok, Sem.run_pure]; rfl) ?_
        rw [hd]
        exact hn _ _ _ _ _ _ _ _ (R.put hdn (.inr hr)) hk
      · exact hk.elim
    · exact hv.elim
  · cases hc

def chkLoadN (P : Program) (n : Nat) (o : Oper) (d m : Nat) (x : Opd) : Bool :=
  match o.op with
  | .load t x' => chkD n o d && chkX x' x && isRow? P t == some true && sizeOf? P t == some m
  | _ => false
theorem loadN_at {t m : Nat} (h3 : isRow? P t = some true) (h4 : sizeOf? P t = some m) {row : List IV} {o b base : Nat} (hle : o + m ≤ row.length)
    (hrow : ∀ (j : Nat) (y : IV), row[j]? = some y → y.cell = true ∧ ∃ u, w.cell? ⟨b, base + j, none⟩ = some u ∧ R0 G y u) :
    ∃ v, (Instr.loadAt t (.pointer (some ⟨b, base + o, none⟩))).run P w = .ok v w ∧ (loadVar t ⟨b, base + o, none⟩).run P w = .ok v w ∧ R0 G (.agg ((row.drop o).take m)) v := by
  have hl : ((row.drop o).take m).length = m := by simp; omega
  have hg : ∀ j, j < m → ((row.drop o).take m)[j]? = row[o + j]? := by
    intro j hj
    rw [List.getElem?_take, if_pos hj, List.getElem?_drop]
  have hrange : w.rangeAt b (base + o) ((List.range m).map fun j => (w.cell? ⟨b, base + o + j, none⟩).getD undef) := by
    intro j v hj
    rw [List.getElem?_map] at hj
    cases hq : (List.range m)[j]? with
    | none => rw [hq] at hj; simp at hj
    | some j' =>
      rw [hq] at hj
      have hlt := get_lt hq
      simp at hlt
      rw [List.getElem?_range hlt] at hq
      cases hq
      simp only [Option.map_some] at hj
      cases hj
      have hsome : ((row.drop o).take m)[j]? = some ((row.drop o).take m)[j] := List.getElem?_eq_getElem (by omega)
      rw [hg j hlt] at hsome
      obtain ⟨_, u, hu, _⟩ := hrow _ _ hsome
      rw [← Nat.add_assoc] at hu
      rw [hu]; rfl
  cases hd2 : P.underlying t with
  | none => simp [isRow?, hd2] at h3
  | some dd =>
    refine ⟨_, run_loadAt_mid (P := P) w b (base + o) t _ dd hrange hd2 (by simpa [isRow?, hd2] using h3) (by simpa [sizeOf?] using h4),
      run_loadVar_mid (P := P) w b (base + o) t _ dd hrange hd2 (by simpa [isRow?, hd2] using h3) (by simpa [sizeOf?] using h4), ?_⟩
    refine R0.agg_of (by simp; omega) (fun j y hj => ?_)
    have hjl := get_lt hj
    rw [hl] at hjl
    rw [hg j hjl] at hj
    obtain ⟨hcell, u, hu, hr⟩ := hrow _ _ hj
    rw [← Nat.add_assoc] at hu
    refine ⟨hcell, u, ?_, hr⟩
    rw [List.getElem?_map, List.getElem?_range hjl]
    simp [hu]
theorem snd_loadN {o : Oper} {l : Bool} {d m : Nat} {x : Opd} (hc : chkLoadN P N o d m x = true) : Snd P β N o (vop P (.loadN l d m x)) := by
  intro K e L h a w G lam hh next Q R hv _ hn
  unfold chkLoadN at hc
  split at hc
  · rename_i t x' ho
    simp only [Bool.and_eq_true, beq_iff_eq] at hc
    obtain ⟨⟨⟨h1, h2⟩, h3⟩, h4⟩ := hc
    obtain ⟨hd, hdn⟩ := chkD_sound h1
    simp only [vop, chkP_iff] at hv
    split at hv
    · rename_i p hx
      obtain ⟨row, o', b, base, ⟨hle, hk⟩, ev, hrow⟩ := row_at R (chkX_sound R h2 hx) hv.2
      obtain ⟨v, hrun, _, hr⟩ := loadN_at h3 h4 hle hrow
      refine wp_value (v := v) (w' := w) (by simp only [execOp, ho, ev, Sem.run_bind, hrun, Result.andThen_ok, Sem.run_pure]) ?_
      rw [hd]
      exact hn _ _ _ _ _ _ _ _ (R.put hdn (.inr hr)) hk
    · exact hv.elim
  · cases hc

/-- A write behind an address: what it does to the frame. -/
theorem write_at (R : RelG β N e L h a w G lam hh) {xs : List IV} {vs : List Value} (hl : vs.length = xs.length) (hx : ∀ (j : Nat) (x : IV), xs[j]? = some x → x.cell = true ∧ ∃ v, vs[j]? = some v ∧ R0 G x v) :
    (∀ {t o : Nat} {v : Value} {row : List IV}, RL lam G (.lp t o) v → L t = some row → o + xs.length ≤ row.length → ∃ b off lam' hh', v = .pointer (some ⟨b, off, none⟩) ∧ w.there b off vs.length ∧
      RelG β N e (L.put t (row.take o ++ xs ++ row.drop (o + xs.length))) h a (w.setCells b off vs) G lam' hh') ∧
    (∀ {id i o : Nat} {v : Value} {rows : Rows} {row : List IV}, RL lam G (.ptr id i o) v → h.obj id = some rows → rows[i]? = some row → o + xs.length ≤ row.length → ∃ b off lam' hh', v = .pointer (some ⟨b, off, none⟩) ∧ w.there b off vs.length ∧
      RelG β N e L (h.put id (rows.set i (row.take o ++ xs ++ row.drop (o + xs.length)))) a (w.setCells b off vs) G lam' hh') := by
  have there : ∀ {id : Nat} {rows : Rows} {p : Pl} (ok : ObjOK G w id rows p) {i o : Nat} {row : List IV}, rows[i]? = some row → o + xs.length ≤ row.length → w.there p.b (p.off + i * p.n + o) vs.length := by
    intro id rows p ok i o row hi ho j hj
    have h1 := get_lt hi
    have h2 := ok.wide _ _ hi
    have := idx_lt (j := o + j) (n := p.n) h1 ok.le (by omega)
    have a1 := ok.there _ this
    have a2 := ok.warm _ this
    rw [show p.off + (i * p.n + (o + j)) = p.off + i * p.n + o + j by omega] at a1 a2
    exact ⟨a1, a2⟩
  constructor
  · intro t o v row rx ht ho
    obtain ⟨id, p, hl2, hp, ev⟩ := rx.lp_inv
    obtain ⟨id', b1, b2, b3, b4⟩ := R.loc t row ht
    rw [hl2] at b1
    cases b1
    obtain ⟨p', ok⟩ := R.inv.objs id _ b2
    have : p' = p := by have := ok.at_; rw [hp] at this; cases this; rfl
    subst this
    obtain ⟨hI, hg⟩ := R.inv.write b2 ok (i := 0) (o := o) (row := row) rfl hl ho hx
    simp only [Nat.zero_mul, Nat.add_zero, List.set_cons_zero] at hI hg
    exact ⟨p'.b, p'.off + o, _, _, ev, by simpa using there ok (i := 0) rfl ho, R.setL ht hl2 hI hg⟩
  · intro id i o v rows row rx hid hi ho
    obtain ⟨p, hp, ev⟩ := (rx.r0 (by simp)).ptr_inv
    have hid2 := R.sub.1 _ _ hid
    obtain ⟨p', ok⟩ := R.inv.objs id _ hid2
    have : p' = p := by have := ok.at_; rw [hp] at this; cases this; rfl
    subst this
    obtain ⟨hI, hg⟩ := R.inv.write hid2 ok hi hl ho hx
    exact ⟨_, _, _, _, ev, there ok hi ho, R.setH hid hI hg⟩

theorem isCell_iff {x : IV} (h : x.isCell) : x.cell = true ∧ ∀ t o, x ≠ .lp t o := by
  cases x <;> simp_all [IV.isCell, IV.cell]

def chkStore (P : Program) (o : Oper) (m : Nat) (x v : Opd) : Bool :=
  match o.op with
  | .store t x' v' => o.dst == none && chkX x' x && chkX v' v && sizeOf? P t == some m
  | _ => false
theorem set_take_drop {α : Type} (l : List α) (o : Nat) (v : α) (h : o < l.length) : l.set o v = l.take o ++ [v] ++ l.drop (o + 1) := by
  rw [List.set_eq_take_append_cons_drop, if_pos h]; simp
theorem run_store {t : TypeId} {b off : Nat} {v : Value} {vs : List Value} (hv : v.cells.toList = vs) (hs : sizeOf? P t = some vs.length) (ht : w.there b off vs.length) (h1 : ∀ u ∈ vs, u.oneCell' = true) :
    (Instr.storeAt t (.pointer (some ⟨b, off, none⟩)) v).run P w = .ok () (w.setCells b off vs) := by
  have hsz : v.cells.size = vs.length := by rw [← hv]; simp
  have hst := run_storeCells_cells (P := P) b off vs 0 w (fun j hj => by simpa using (ht j hj).1) (fun j hj => by simpa using (ht j hj).2) h1
  unfold sizeOf? at hs
  cases hi : P.info? t with
  | none => simp [hi] at hs
  | some inf =>
    have hs' : inf.size = vs.length := by simpa [hi] using hs
    simp only [Instr.storeAt, Instr.sureAddr, storeVar, Go.sizeOf, typeInfo, Sem.run_bind, Sem.run_pure, Result.andThen_ok]
    simp [hi, hs', hsz, hv, hst, program, Sem.run]
theorem snd_store1 {o : Oper} {x v : Opd} (hc : chkStore P o 1 x v = true) : Snd P β N o (vop P (.store1 x v)) := by
  intro K e L h a w G lam hh next Q R hv _ hn
  unfold chkStore at hc
  split at hc
  · rename_i t x' v' ho
    simp only [Bool.and_eq_true, beq_iff_eq] at hc
    obtain ⟨⟨⟨hd, h2⟩, h3⟩, h4⟩ := hc
    have fin : ∀ (y : IV) (b off : Nat), v.get e = some y → y.isCell → a.eval x' = .pointer (some ⟨b, off, none⟩) → w.there b off 1 →
        next a (w.setCells b off [a.eval v']) → o.wp P a w next Q := by
      intro y b off hy hcell ev hth hk
      obtain ⟨c1, c2⟩ := isCell_iff hcell
      have hr := (chkX_sound R h3 hy).r0 c2
      have h1 := hr.one c1
      have hcs : (a.eval v').cells.toList = [a.eval v'] := by
        cases hq : a.eval v' <;> simp_all [Value.cells, Value.oneCell']
      have hrun := run_store (P := P) (t := t) hcs (by simpa using h4) (by simpa using hth) (by simpa using h1)
      refine wp_skipped (w' := w.setCells b off [a.eval v']) (by simp only [execOp, ho, ev, Sem.run_bind, hrun, Result.andThen_ok, Sem.run_pure]) ?_
      rw [hd]; exact hk
    simp only [vop, chkP_iff, optK_def] at hv
    split at hv
    · rename_i t2 o2 y hx hy
      obtain ⟨hcell, hv⟩ := hv
      obtain ⟨c1, c2⟩ := isCell_iff hcell
      have hr := (chkX_sound R h3 hy).r0 c2
      split at hv
      · rename_i row hrow
        obtain ⟨b, off, lam', hh', ev, hth, R'⟩ := (write_at R (xs := [y]) (vs := [a.eval v']) rfl (fun j z hj => by
          cases j with
          | zero => simp at hj; subst hj; exact ⟨c1, _, rfl, hr⟩
          | succ j => simp at hj)).1 (chkX_sound R h2 hx) hrow hv.1
        refine fin y b off hy hcell ev hth ?_
        simp only [List.length_singleton] at R'
        rw [← set_take_drop _ _ _ hv.1] at R'
        exact hn _ _ _ _ _ _ _ _ R' hv.2
      · exact hv.elim
    · rename_i id i o2 y hx hy
      obtain ⟨hcell, hv⟩ := hv
      obtain ⟨c1, c2⟩ := isCell_iff hcell
      have hr := (chkX_sound R h3 hy).r0 c2
      split at hv
      · rename_i rows hrows
        split at hv
        · rename_i row hrow
          obtain ⟨b, off, lam', hh', ev, hth, R'⟩ := (write_at R (xs := [y]) (vs := [a.eval v']) rfl (fun j z hj => by
            cases j with
            | zero => simp at hj; subst hj; exact ⟨c1, _, rfl, hr⟩
            | succ j => simp at hj)).2 (chkX_sound R h2 hx) hrows hrow hv.1
          refine fin y b off hy hcell ev hth ?_
          simp only [List.length_singleton] at R'
          rw [← set_take_drop _ _ _ hv.1] at R'
          exact hn _ _ _ _ _ _ _ _ R' hv.2
        · exact hv.elim
      · exact hv.elim
    · exact hv.elim
  · cases hc

theorem snd_storeN {o : Oper} {m : Nat} {x v : Opd} (hc : chkStore P o m x v = true) : Snd P β N o (vop P (.storeN m x v)) := by
  intro K e L h a w G lam hh next Q R hv _ hn
  unfold chkStore at hc
  split at hc
  · rename_i t x' v' ho
    simp only [Bool.and_eq_true, beq_iff_eq] at hc
    obtain ⟨⟨⟨hd, h2⟩, h3⟩, h4⟩ := hc
    simp only [vop, optK_def] at hv
    split at hv
    · rename_i t2 o2 ys hx hy
      obtain ⟨vs, ev2, hl, hr⟩ := ((chkX_sound R h3 hy).r0 (by simp)).agg_inv
      split at hv
      · rename_i row hrow
        obtain ⟨hm, hv⟩ := hv
        obtain ⟨b, off, lam', hh', ev, hth, R'⟩ := (write_at R hl hr).1 (chkX_sound R h2 hx) hrow hv.1
        have hrun := run_store (P := P) (w := w) (t := t) (v := a.eval v') (vs := vs) (by rw [ev2]; simp [Value.cells]) (by rw [h4, ← hm, hl]) hth (fun u hu => by
          obtain ⟨j, hj⟩ := List.getElem?_of_mem hu
          have hjl := get_lt hj
          rw [hl] at hjl
          obtain ⟨c, u2, hu2, hr2⟩ := hr j ys[j] (List.getElem?_eq_getElem hjl)
          rw [hj] at hu2
          cases hu2
          exact hr2.one c)
        refine wp_skipped (w' := w.setCells b off vs) (by simp only [execOp, ho, ev, Sem.run_bind, hrun, Result.andThen_ok, Sem.run_pure]) ?_
        rw [hd]
        exact hn _ _ _ _ _ _ _ _ R' hv.2
      · exact hv.elim
    · rename_i id i o2 ys hx hy
      obtain ⟨vs, ev2, hl, hr⟩ := ((chkX_sound R h3 hy).r0 (by simp)).agg_inv
      split at hv
      · rename_i rows hrows
        split at hv
        · rename_i row hrow
          obtain ⟨hm, hv⟩ := hv
          obtain ⟨b, off, lam', hh', ev, hth, R'⟩ := (write_at R hl hr).2 (chkX_sound R h2 hx) hrows hrow hv.1
          have hrun := run_store (P := P) (w := w) (t := t) (v := a.eval v') (vs := vs) (by rw [ev2]; simp [Value.cells]) (by rw [h4, ← hm, hl]) hth (fun u hu => by
            obtain ⟨j, hj⟩ := List.getElem?_of_mem hu
            have hjl := get_lt hj
            rw [hl] at hjl
            obtain ⟨c, u2, hu2, hr2⟩ := hr j ys[j] (List.getElem?_eq_getElem hjl)
            rw [hj] at hu2
            cases hu2
            exact hr2.one c)
          refine wp_skipped (w' := w.setCells b off vs) (by simp only [execOp, ho, ev, Sem.run_bind, hrun, Result.andThen_ok, Sem.run_pure]) ?_
          rw [hd]
          exact hn _ _ _ _ _ _ _ _ R' hv.2
        · exact hv.elim
      · exact hv.elim
    · exact hv.elim
  · cases hc

def isSlice? (P : Program) (t : TypeId) : Bool := (elem? P t).isSome
def chkLen (P : Program) (n : Nat) (o : Oper) (d : Nat) (x : Opd) : Bool :=
  match o.op with
  | .call c => (match c.callee, c.args.toList, c.argTypes.toList with
    | .builtin .len, [x'], [t] => chkD n o d && chkX x' x && isSlice? P t
    | _, _, _ => false)
  | _ => false
theorem call_eq {c : Call} {ce : Callee} {xs : List Operand} {ts : List TypeId} (h1 : c.callee = ce) (h2 : c.args.toList = xs) (h3 : c.argTypes.toList = ts) : c = { callee := ce, args := xs.toArray, argTypes := ts.toArray } := by
  subst h1; subst h2; subst h3; rfl
theorem elem?_eq {t el : TypeId} (h : elem? P t = some el) : P.underlying t = some (.slice el) := by
  unfold elem? at h
  split at h
  · cases h; assumption
  · cases h
theorem snd_len {o : Oper} {d : Nat} {x : Opd} (hc : chkLen P N o d x = true) : Snd P β N o (vop P (.len d x)) := by
  intro K e L h a w G lam hh next Q R hv _ hn
  unfold chkLen at hc
  split at hc
  · rename_i c ho
    split at hc
    case h_2 => cases hc
    rename_i x' t e1 e2 e3
    have ec := call_eq e1 e2 e3
    subst ec
    simp only [Bool.and_eq_true] at hc
    obtain ⟨⟨h1, h2⟩, h3⟩ := hc
    obtain ⟨hd, hdn⟩ := chkD_sound h1
    obtain ⟨el, hel⟩ := Option.isSome_iff_exists.1 h3
    have hu := elem?_eq hel
    have fin : ∀ (A : Option Addr) (len cap : Nat), a.eval x' = .slice A len cap → K (e.put d (.int .i64 len)) L h → o.wp P a w next Q := by
      intro A len cap ev hk
      refine wp_value (v := .int .i64 len) (w' := w) (by simp [execOp, ho, resolve, invoke, builtin, ev, Builtin.len_, run_underlying hu, goInt]) ?_
      rw [hd]
      exact hn _ _ _ _ _ _ _ _ (R.put hdn (.inr (.int _ _))) hk
    simp only [vop] at hv
    split at hv
    · rename_i n' rows tag hx
      obtain ⟨A, cap, b, base, ev, _⟩ := ((chkX_sound R h2 hx).r0 (by simp)).vs_inv
      exact fin _ _ _ ev hv
    · rename_i n' id len hx
      obtain ⟨A, p, ev, _⟩ := ((chkX_sound R h2 hx).r0 (by simp)).rs_inv
      exact fin _ _ _ ev hv
    · exact hv.elim
  · cases hc

theorem runs_new {G : Ghost} {w : World} {hh : Heap} (H : HInv G hh w) {xs : List IV} {vs : List Value} (hl : vs.length = xs.length) (hx : ∀ (j : Nat) (x : IV), xs[j]? = some x → x.cell = true ∧ ∃ v, vs[j]? = some v ∧ R0 G x v) (ty : TypeId) :
    ∃ G', G.le G' ∧ G'.nid = G.nid + 1 ∧ G'.obj G.nid = some ⟨w.heap.size, 0, xs.length, 1⟩ ∧ HInv G' (hh.put G.nid [xs]) (w.alloc (.cells vs.toArray ty)) ∧ Goes G w G' (w.alloc (.cells vs.toArray ty)) := by
  refine H.newObj [xs] xs.length 1 vs.toArray ty (Nat.le_refl _) (by simp [hl]) (fun i row hi => ?_) (fun i row j x hi hj => ?_) (fun i row j x hi hj => ?_)
  · cases i with
    | zero => simp at hi; rw [hi]
    | succ i => simp at hi
  · cases i with
    | zero => simp at hi; subst hi; exact (hx j x hj).1
    | succ i => simp at hi
  · cases i with
    | zero =>
      simp at hi
      subst hi
      obtain ⟨_, v, hv, hr⟩ := hx j x hj
      exact ⟨v, by simpa using hv, hr⟩
    | succ i => simp at hi

/-- A new variable, local or of the heap. -/
theorem snd_new (R : RelG β N e L h a w G lam hh) {o : Oper} {d : Nat} (hd : o.dst = some d) (hdn : d < N) {xs : List IV} {vs : List Value} (hl : vs.length = xs.length)
    (hx : ∀ (j : Nat) (x : IV), xs[j]? = some x → x.cell = true ∧ ∃ v, vs[j]? = some v ∧ R0 G x v) {ty : TypeId}
    (hrun : (execOp a.eval o).run P w = .ok (.value (.pointer (some ⟨w.heap.size, 0, none⟩))) (w.alloc (.cells vs.toArray ty))) {K : Kont} {next : Act → World → Prop} {Q : Exit → Act → World → Prop}
    (hn : ∀ e' L' h' a' w' G' lam' hh', RelG β N e' L' h' a' w' G' lam' hh' → K e' L' h' → next a' w') :
    (K ((e.purge d).put d (.lp d 0)) (L.put d xs) h → o.wp P a w next Q) ∧ ((∀ id, h.obj id = none → K (e.put d (.ptr id 0 0)) L (h.put id [xs])) → o.wp P a w next Q) := by
  obtain ⟨G', hle, hnid, hob, hI, hg⟩ := runs_new R.inv hl hx ty
  constructor
  · intro hk
    refine wp_value hrun ?_
    rw [hd]
    refine hn _ _ _ _ _ _ _ _ ((R.newL (d := d) hle hI hg).put hdn (.inl ⟨d, 0, G.nid, _, rfl, by simp, hob, rfl⟩)) hk
  · intro hk
    refine wp_value hrun ?_
    rw [hd]
    have R' := R.newH hle hI hg
    refine hn _ _ _ _ _ _ _ _ (R'.put hdn (.inr ?_)) (hk G.nid (sub_none R.sub (R.inv.none_of_ge (Nat.le_refl _))))
    have := R0.ptr (G := G') (i := 0) (o := 0) hob
    simpa using this

def chkAlloc (P : Program) (n : Nat) (o : Oper) (d : Nat) (z : List IV) : Bool :=
  match o.op with
  | .alloc t => chkD n o d && (match zeroOf? P t with | some vs => chkCs vs z | none => false)
  | _ => false
theorem run_alloc {o : Oper} {t : TypeId} {vs : List Value} (ho : o.op = .alloc t) (hz : zeroOf? P t = some vs) : (execOp a.eval o).run P w = .ok (.value (.pointer (some ⟨w.heap.size, 0, none⟩))) (w.alloc (.cells vs.toArray t)) := by
  unfold zeroOf? at hz
  cases hi : P.info? t with
  | none => simp [hi] at hz
  | some inf =>
    rw [hi] at hz
    simp only [Option.bind_some] at hz
    cases hz2 : inf.zero with
    | none => simp [hz2] at hz
    | some z =>
      rw [hz2] at hz
      simp only [Option.map_some, Option.some.injEq] at hz
      subst hz
      simp [execOp, ho, Instr.alloc, zeroValue, typeInfo, hi, hz2, newVar, newRow]
theorem snd_alloc {o : Oper} {d : Nat} {z : List IV} (hc : chkAlloc P N o d z = true) : Snd P β N o (vop P (.alloc d z)) ∧ Snd P β N o (vop P (.allocH d z)) := by
  have key : ∀ (K : Kont) (e : Env) (L : Loc) (h : Heap) (a : Act) (w : World) (G : Ghost) (lam : Nat → Option Nat) (hh : Heap) (next : Act → World → Prop) (Q : Exit → Act → World → Prop), RelG β N e L h a w G lam hh →
      (∀ e' L' h' a' w' G' lam' hh', RelG β N e' L' h' a' w' G' lam' hh' → K e' L' h' → next a' w') →
      (K ((e.purge d).put d (.lp d 0)) (L.put d z) h → o.wp P a w next Q) ∧ ((∀ id, h.obj id = none → K (e.put d (.ptr id 0 0)) L (h.put id [z])) → o.wp P a w next Q) := by
    intro K e L h a w G lam hh next Q R hn
    unfold chkAlloc at hc
    split at hc
    · rename_i t ho
      rw [Bool.and_eq_true] at hc
      obtain ⟨h1, h2⟩ := hc
      obtain ⟨hd, hdn⟩ := chkD_sound h1
      split at h2
      · rename_i vs hz
        obtain ⟨hl, hx⟩ := chkCs_sound (G := G) h2
        exact snd_new R hd hdn hl hx (run_alloc ho hz) hn
      · cases h2
    · cases hc
  exact ⟨fun K e L h a w G lam hh next Q R hv _ hn => (key K e L h a w G lam hh next Q R hn).1 hv, fun K e L h a w G lam hh next Q R hv _ hn => (key K e L h a w G lam hh next Q R hn).2 hv⟩

def chkBox (n : Nat) (o : Oper) (d : Nat) (x : Opd) : Bool :=
  match o.op with
  | .box _ x' => chkD n o d && chkX x' x
  | _ => false
theorem cells_r0 {x : IV} {v : Value} (h : R0 G x v) (ht : ∀ xs, x ≠ .tup xs) : v.cells.toList.length = (cellsOf x).length ∧ ∀ (j : Nat) (y : IV), (cellsOf x)[j]? = some y → y.cell = true ∧ ∃ u, v.cells.toList[j]? = some u ∧ R0 G y u := by
  by_cases hc : x.cell = true
  · have h1 : cellsOf x = [x] := by cases x <;> simp_all [cellsOf, IV.cell]
    have h2 : v.cells.toList = [v] := by
      have := h.one hc
      cases v <;> simp_all [Value.cells, Value.oneCell']
    rw [h1, h2]
    refine ⟨rfl, fun j y hj => ?_⟩
    cases j with
    | zero => simp at hj; subst hj; exact ⟨hc, v, rfl, h⟩
    | succ j => simp at hj
  · cases x <;> simp [IV.cell] at hc
    · cases h
    · obtain ⟨vs, rfl, hl, hr⟩ := R0.agg_inv h
      exact ⟨by simpa [Value.cells, cellsOf] using hl, fun j y hj => by simpa [Value.cells] using hr j y hj⟩
    · exact absurd rfl (ht _)
theorem snd_box {o : Oper} {d : Nat} {x : Opd} (hc : chkBox N o d x = true) : Snd P β N o (vop P (.box d x)) ∧ Snd P β N o (vop P (.boxH d x)) := by
  have key : ∀ (K : Kont) (e : Env) (L : Loc) (h : Heap) (a : Act) (w : World) (G : Ghost) (lam : Nat → Option Nat) (hh : Heap) (next : Act → World → Prop) (Q : Exit → Act → World → Prop) (y : IV), RelG β N e L h a w G lam hh → x.get e = some y → y.boxable →
      (∀ e' L' h' a' w' G' lam' hh', RelG β N e' L' h' a' w' G' lam' hh' → K e' L' h' → next a' w') →
      (K ((e.purge d).put d (.lp d 0)) (L.put d (cellsOf y)) h → o.wp P a w next Q) ∧ ((∀ id, h.obj id = none → K (e.put d (.ptr id 0 0)) L (h.put id [cellsOf y])) → o.wp P a w next Q) := by
    intro K e L h a w G lam hh next Q y R hy hb hn
    unfold chkBox at hc
    split at hc
    · rename_i t x' ho
      rw [Bool.and_eq_true] at hc
      obtain ⟨h1, h2⟩ := hc
      obtain ⟨hd, hdn⟩ := chkD_sound h1
      have rx := chkX_sound R h2 hy
      obtain ⟨hl, hx⟩ := cells_r0 (rx.r0 (fun t o hc => by rw [hc] at hb; exact hb)) (fun xs hc => by rw [hc] at hb; exact hb)
      refine snd_new R hd hdn (ty := t) hl hx ?_ hn
      simp [execOp, ho, Instr.box, newVar, newRow]
    · cases hc
  constructor
  · intro K e L h a w G lam hh next Q R hv _ hn
    simp only [vop, chkP_iff] at hv
    split at hv
    · rename_i y hy
      exact (key K e L h a w G lam hh next Q y R hy hv.1 hn).1 hv.2
    · exact hv.elim
  · intro K e L h a w G lam hh next Q R hv _ hn
    simp only [vop, chkP_iff] at hv
    split at hv
    · rename_i y hy
      exact (key K e L h a w G lam hh next Q y R hy hv.1 hn).2 hv.2
    · exact hv.elim

end VL
