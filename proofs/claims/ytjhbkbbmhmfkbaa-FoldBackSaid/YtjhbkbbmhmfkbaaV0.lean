/- The V layer, part 0: ideal values, ghosts, what relates them to the model's values and worlds. No program in sight. -/
import Derived.Below
import Derived.Deep.Draws
import Derived.Laws.IdiomCopy
import Derived.Tactics
namespace VL
open Go

/-- Whose the room behind a slice is: nobody's that is known; there is none; a token's. -/
inductive Tag where
  | ro | full | own (t : Nat)
  deriving DecidableEq

/-- Ideal values: slices by value (rows of cells), or by an object's number; pointers into objects, into local boxes, to an element of a slice by value. -/
inductive IV where
  | bool (b : Bool) | int (k : IntKind) (n : Int) | str (s : ByteArray)
  | nilp | ptr (id row off : Nat) | lp (t off : Nat) | pel (row : List IV) (off : Nat)
  | vs (n : Nat) (rows : List (List IV)) (tag : Tag)
  | rs (n id len : Nat)
  | agg (xs : List IV) | iface (t : TypeId) (x : IV) | nili
  | fn (f : Fn) (first cap : List IV) | nilf
  | tup (xs : List IV)
  deriving Inhabited

abbrev Rows := List (List IV)

/-- A value of one cell. -/
def IV.cell : IV → Bool
  | .agg _ | .tup _ | .lp _ _ => false
  | _ => true

structure Heap where
  obj : Nat → Option Rows
  tok : Nat → Bool

def Heap.put (h : Heap) (id : Nat) (r : Rows) : Heap := { h with obj := fun i => if i = id then some r else h.obj i }
def Heap.del (h : Heap) (id : Nat) : Heap := { h with obj := fun i => if i = id then none else h.obj i }
def Heap.addT (h : Heap) (t : Nat) : Heap := { h with tok := fun i => if i = t then true else h.tok i }
def Heap.delT (h : Heap) (t : Nat) : Heap := { h with tok := fun i => if i = t then false else h.tok i }
def Heap.emp : Heap := ⟨fun _ => none, fun _ => false⟩
/-- The one has less than the other. -/
def Heap.sub (h k : Heap) : Prop := (∀ i r, h.obj i = some r → k.obj i = some r) ∧ ∀ t, h.tok t = true → k.tok t = true
theorem Heap.sub_refl (h : Heap) : h.sub h := ⟨fun _ _ => id, fun _ => id⟩
theorem Heap.sub_trans {a b c : Heap} (h : a.sub b) (k : b.sub c) : a.sub c := ⟨fun i r e => k.1 i r (h.1 i r e), fun t e => k.2 t (h.2 t e)⟩

/-- Whose a cell of memory is. -/
inductive Cl where
  | free | imm (v : Value) | obj (id : Nat) | zone (t : Nat)

/-- Where rows lie: a block, the first cell, cells of a row, rows. -/
structure Pl where
  b : Nat
  off : Nat
  n : Nat
  cap : Nat

structure Ghost where
  cl : Nat → Nat → Cl
  obj : Nat → Option Pl
  tok : Nat → Option Pl
  nid : Nat
  ntk : Nat

structure Ghost.le (G G' : Ghost) : Prop where
  imm : ∀ b o v, G.cl b o = .imm v → G'.cl b o = .imm v
  obj : ∀ i p, G.obj i = some p → G'.obj i = some p
  tok : ∀ t z, G.tok t = some z → G'.tok t = some z
  nid : G.nid ≤ G'.nid
  ntk : G.ntk ≤ G'.ntk
theorem Ghost.le.refl (G : Ghost) : G.le G := ⟨fun _ _ _ => id, fun _ _ => id, fun _ _ => id, Nat.le_refl _, Nat.le_refl _⟩
theorem Ghost.le.trans {A B C : Ghost} (h : A.le B) (k : B.le C) : A.le C :=
  ⟨fun b o v e => k.imm b o v (h.imm b o v e), fun i p e => k.obj i p (h.obj i p e), fun t z e => k.tok t z (h.tok t z e), Nat.le_trans h.nid k.nid, Nat.le_trans h.ntk k.ntk⟩

/-- What is known of the room behind a slice. -/
def TagOK (G : Ghost) (A : Option Addr) (b base n len cap : Nat) : Tag → Prop
  | .ro => True
  | .full => cap = len
  | .own t => (0 < cap → A = some ⟨b, base, none⟩) ∧ G.tok t = some ⟨b, base + len * n, n, cap - len⟩
theorem TagOK.mono {G G' : Ghost} (h : G.le G') {A : Option Addr} {b base n len cap : Nat} : ∀ {tag : Tag}, TagOK G A b base n len cap tag → TagOK G' A b base n len cap tag
  | .ro, _ => trivial
  | .full, e => e
  | .own _, ⟨a, e⟩ => ⟨a, h.tok _ _ e⟩

/-- An ideal value tells of a value of the model's. -/
inductive R0 (G : Ghost) : IV → Value → Prop where
  | bool (b : Bool) : R0 G (.bool b) (.bool b)
  | int (k : IntKind) (n : Int) : R0 G (.int k n) (.int k n)
  | str (s : ByteArray) : R0 G (.str s) (.string s)
  | nilp : R0 G .nilp (.pointer none)
  | ptr {id i o : Nat} {p : Pl} (h : G.obj id = some p) : R0 G (.ptr id i o) (.pointer (some ⟨p.b, p.off + i * p.n + o, none⟩))
  | pel {row : List IV} {o b base : Nat} (vals : Nat → Value) (hc : ∀ (j : Nat) (x : IV), row[j]? = some x → x.cell = true) (hv : ∀ (j : Nat) (x : IV), row[j]? = some x → G.cl b (base + j) = .imm (vals j))
      (hr : ∀ (j : Nat) (x : IV), row[j]? = some x → R0 G x (vals j)) : R0 G (.pel row o) (.pointer (some ⟨b, base + o, none⟩))
  | vs {n : Nat} {rows : Rows} {tag : Tag} {A : Option Addr} {cap b base : Nat} (vals : Nat → Nat → Value) (hl : rows.length ≤ cap) (hA : rows ≠ [] → A = some ⟨b, base, none⟩) (hN : A = none → cap = 0)
      (ht : TagOK G A b base n rows.length cap tag) (hn : ∀ (i : Nat) (row : List IV), rows[i]? = some row → row.length = n)
      (hc : ∀ (i : Nat) (row : List IV) (j : Nat) (x : IV), rows[i]? = some row → row[j]? = some x → x.cell = true)
      (hv : ∀ (i : Nat) (row : List IV) (j : Nat) (x : IV), rows[i]? = some row → row[j]? = some x → G.cl b (base + i * n + j) = .imm (vals i j))
      (hr : ∀ (i : Nat) (row : List IV) (j : Nat) (x : IV), rows[i]? = some row → row[j]? = some x → R0 G x (vals i j)) : R0 G (.vs n rows tag) (.slice A rows.length cap)
  | rs {id len : Nat} {A : Option Addr} {p : Pl} (h : G.obj id = some p) (hl : len ≤ p.cap) (hA : A = some ⟨p.b, p.off, none⟩ ∨ (A = none ∧ p.cap = 0)) : R0 G (.rs p.n id len) (.slice A len p.cap)
  | agg {xs : List IV} {vs : Array Value} (vals : Nat → Value) (hs : vs.size = xs.length) (hc : ∀ (j : Nat) (x : IV), xs[j]? = some x → x.cell = true) (hv : ∀ (j : Nat) (x : IV), xs[j]? = some x → vs[j]? = some (vals j))
      (hr : ∀ (j : Nat) (x : IV), xs[j]? = some x → R0 G x (vals j)) : R0 G (.agg xs) (.agg vs)
  | iface (t : TypeId) {x : IV} {v : Value} (h : R0 G x v) : R0 G (.iface t x) (.iface t v)
  | nili : R0 G .nili .nilIface
  | fn (f : Fn) {first cap : List IV} {fs cs : Array Value} (v1 v2 : Nat → Value) (s1 : fs.size = first.length) (s2 : cs.size = cap.length)
      (h1 : ∀ (j : Nat) (x : IV), first[j]? = some x → fs[j]? = some (v1 j)) (r1 : ∀ (j : Nat) (x : IV), first[j]? = some x → R0 G x (v1 j))
      (h2 : ∀ (j : Nat) (x : IV), cap[j]? = some x → cs[j]? = some (v2 j)) (r2 : ∀ (j : Nat) (x : IV), cap[j]? = some x → R0 G x (v2 j)) : R0 G (.fn f first cap) (.func f fs cs)
  | nilf : R0 G .nilf .nilFunc
  | tup {xs : List IV} {vs : Array Value} (vals : Nat → Value) (hs : vs.size = xs.length) (hv : ∀ (j : Nat) (x : IV), xs[j]? = some x → vs[j]? = some (vals j))
      (hr : ∀ (j : Nat) (x : IV), xs[j]? = some x → R0 G x (vals j)) : R0 G (.tup xs) (.tuple vs)

theorem R0.mono {G G' : Ghost} (hle : G.le G') {x : IV} {v : Value} (h : R0 G x v) : R0 G' x v := by
  induction h with
  | bool b => exact .bool b
  | int k n => exact .int k n
  | str s => exact .str s
  | nilp => exact .nilp
  | ptr h => exact .ptr (hle.obj _ _ h)
  | pel vals hc hv hr ih => exact .pel vals hc (fun j x e => hle.imm _ _ _ (hv j x e)) ih
  | vs vals hl hA hN ht hn hc hv hr ih => exact .vs vals hl hA hN (ht.mono hle) hn hc (fun i row j x e f => hle.imm _ _ _ (hv i row j x e f)) ih
  | rs h hl hA => exact .rs (hle.obj _ _ h) hl hA
  | agg vals hs hc hv hr ih => exact .agg vals hs hc hv ih
  | iface t h ih => exact .iface t ih
  | nili => exact .nili
  | fn f v1 v2 s1 s2 h1 r1 h2 r2 ih1 ih2 => exact .fn f v1 v2 s1 s2 h1 ih1 h2 ih2
  | nilf => exact .nilf
  | tup vals hs hv hr ih => exact .tup vals hs hv ih

/-- What is one cell in the ideal is one cell in memory. -/
theorem R0.one {G : Ghost} {x : IV} {v : Value} (h : R0 G x v) (hc : x.cell = true) : v.oneCell' = true := by
  cases h <;> first | rfl | simp [IV.cell] at hc

/-- An object's rows lie in memory, where the ghost says. -/
structure ObjOK (G : Ghost) (w : World) (id : Nat) (rows : Rows) (p : Pl) : Prop where
  at_ : G.obj id = some p
  le : rows.length ≤ p.cap
  mine : ∀ k, k < p.cap * p.n → G.cl p.b (p.off + k) = .obj id
  there : ∀ k, k < p.cap * p.n → (w.cell? ⟨p.b, p.off + k, none⟩).isSome = true
  warm : ∀ k, k < p.cap * p.n → w.frozen? ⟨p.b, p.off + k, none⟩ = false
  wide : ∀ (i : Nat) (row : List IV), rows[i]? = some row → row.length = p.n
  cell : ∀ (i : Nat) (row : List IV) (j : Nat) (x : IV), rows[i]? = some row → row[j]? = some x → x.cell = true
  has : ∀ (i : Nat) (row : List IV) (j : Nat) (x : IV), rows[i]? = some row → row[j]? = some x → ∃ v, w.cell? ⟨p.b, p.off + i * p.n + j, none⟩ = some v ∧ R0 G x v

/-- A token's room is free to be written. -/
structure TokOK (G : Ghost) (w : World) (t : Nat) (z : Pl) : Prop where
  at_ : G.tok t = some z
  mine : ∀ k, k < z.cap * z.n → G.cl z.b (z.off + k) = .zone t
  there : ∀ k, k < z.cap * z.n → (w.cell? ⟨z.b, z.off + k, none⟩).isSome = true
  warm : ∀ k, k < z.cap * z.n → w.frozen? ⟨z.b, z.off + k, none⟩ = false

/-- The ghost fits the world. -/
structure WInv (G : Ghost) (w : World) : Prop where
  imm : ∀ b o v, G.cl b o = .imm v → w.cell? ⟨b, o, none⟩ = some v
  bnd : ∀ b o, w.heap.size ≤ b → G.cl b o = .free
  ido : ∀ b o i, G.cl b o = .obj i → i < G.nid
  idt : ∀ b o t, G.cl b o = .zone t → t < G.ntk
  nid : ∀ i p, G.obj i = some p → i < G.nid
  ntk : ∀ t z, G.tok t = some z → t < G.ntk

structure HInv (G : Ghost) (h : Heap) (w : World) : Prop where
  W : WInv G w
  objs : ∀ i r, h.obj i = some r → ∃ p, ObjOK G w i r p
  toks : ∀ t, h.tok t = true → ∃ z, TokOK G w t z

/-- A block in which nobody may write. -/
def Quiet (G : Ghost) (b : Nat) : Prop := ∀ o, G.cl b o = .free ∨ ∃ v, G.cl b o = .imm v

/-- From one world to another one: the streams are as they were; blocks in which nobody may write are as they were, and stay so. -/
structure Goes (G : Ghost) (w : World) (G' : Ghost) (w' : World) : Prop where
  os : w'.os = w.os
  tape : w'.tape = w.tape
  output : w'.output = w.output
  size : w.heap.size ≤ w'.heap.size
  block : ∀ b, b < w.heap.size → Quiet G b → w'.heap[b]? = w.heap[b]? ∧ Quiet G' b
theorem Goes.refl (G : Ghost) (w : World) : Goes G w G w := ⟨rfl, rfl, rfl, Nat.le_refl _, fun _ _ h => ⟨rfl, h⟩⟩
theorem Goes.trans {A B C : Ghost} {a b c : World} (h : Goes A a B b) (k : Goes B b C c) : Goes A a C c :=
  ⟨k.os.trans h.os, k.tape.trans h.tape, k.output.trans h.output, Nat.le_trans h.size k.size, fun i hi hq => by
    obtain ⟨e, q⟩ := h.block i hi hq
    obtain ⟨e', q'⟩ := k.block i (Nat.lt_of_lt_of_le hi h.size) q
    exact ⟨e'.trans e, q'⟩⟩

/-- What is outside of a part of a heap is the same in another heap, and outside of another part. -/
structure Keeps (hh h hh' h' : Heap) : Prop where
  obj : ∀ i r, hh.obj i = some r → h.obj i = none → hh'.obj i = some r ∧ h'.obj i = none
  tok : ∀ t, hh.tok t = true → h.tok t = false → hh'.tok t = true ∧ h'.tok t = false
theorem Keeps.trans {a a' b b' c c' : Heap} (h : Keeps a a' b b') (k : Keeps b b' c c') : Keeps a a' c c' :=
  ⟨fun i r e f => let ⟨e', f'⟩ := h.obj i r e f; k.obj i r e' f', fun t e f => let ⟨e', f'⟩ := h.tok t e f; k.tok t e' f'⟩
theorem Keeps.refl (a a' : Heap) : Keeps a a' a a' := ⟨fun _ _ e f => ⟨e, f⟩, fun _ e f => ⟨e, f⟩⟩

/-- Arguments. -/
def Args (G : Ghost) (xs : List IV) (vs : Array Value) : Prop := vs.size = xs.length ∧ ∀ (j : Nat) (x : IV), xs[j]? = some x → ∃ v, vs[j]? = some v ∧ R0 G x v

/-- A call over ideal values and an ideal heap, WHATEVER ELSE there is: it ends as told. -/
def CallsV (P : Program) (f : FuncId) (args : List IV) (h : Heap) (Q : IV → Heap → Prop) : Prop :=
  ∀ G w hh vs, HInv G hh w → h.sub hh → Args G args vs → Calls P f vs w fun e w' =>
    ∃ v x G' hh' h', e = .returned v ∧ G.le G' ∧ HInv G' hh' w' ∧ h'.sub hh' ∧ Keeps hh h hh' h' ∧ Goes G w G' w' ∧ R0 G' x v ∧ Q x h'

theorem CallsV.mono {P : Program} {f : FuncId} {args : List IV} {h : Heap} {Q Q' : IV → Heap → Prop} (c : CallsV P f args h Q) (hq : ∀ x h', Q x h' → Q' x h') : CallsV P f args h Q' :=
  fun G w hh vs hI hs hA => (c G w hh vs hI hs hA).mono fun e w' he => by
    obtain ⟨v, x, G', hh', h', e1, e2, e3, e4, e5, e6, e7, e8⟩ := he
    exact ⟨v, x, G', hh', h', e1, e2, e3, e4, e5, e6, e7, hq _ _ e8⟩

/-- The result may be told with less of the heap. -/
theorem CallsV.weaken {P : Program} {f : FuncId} {args : List IV} {h : Heap} {Q Q' : IV → Heap → Prop} (c : CallsV P f args h Q)
    (hq : ∀ x h', Q x h' → ∃ h2, h2.sub h' ∧ Q' x h2) : CallsV P f args h Q' :=
  fun G w hh vs hI hs hA => (c G w hh vs hI hs hA).mono fun e w' he => by
    · obtain ⟨v, x, G', hh', h', e1, e2, e3, e4, e5, e6, e7, e8⟩ := he
      obtain ⟨h2, s2, q2⟩ := hq _ _ e8
      refine ⟨v, x, G', hh', h2, e1, e2, e3, Heap.sub_trans s2 e4, ⟨fun i r a b => ?_, fun t a b => ?_⟩, e6, e7, q2⟩
      · obtain ⟨a', b'⟩ := e5.obj i r a b
        refine ⟨a', ?_⟩
        cases hx : h2.obj i with
        | none => rfl
        | some r2 => have := s2.1 i r2 hx; rw [b'] at this; cases this
      · obtain ⟨a', b'⟩ := e5.tok t a b
        refine ⟨a', ?_⟩
        cases hx : h2.tok t with
        | false => rfl
        | true => have := s2.2 t hx; rw [b'] at this; cases this

end VL
