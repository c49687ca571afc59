/- The V layer, part 2: frames: what relates an ideal frame to a frame of the model's. -/
import Derived.Test.YtjhbkbbmhmfkbaaV1
namespace VL
open Go

abbrev Env := Nat → Option IV
def Env.nil : Env := fun _ => none
def Env.put (e : Env) (d : Nat) (v : IV) : Env := fun t => if t = d then some v else e t
def Env.putO (e : Env) (d : Nat) : Option IV → Env
  | some v => e.put d v
  | none => e
def Env.del (e : Env) (d : Nat) : Env := fun t => if t = d then none else e t
def memN (t : Nat) : List Nat → Bool
  | [] => false
  | a :: as => match Nat.beq t a with
    | true => true
    | false => memN t as
def Env.keep (e : Env) (ts : List Nat) : Env := fun t => match memN t ts with
  | true => e t
  | false => none
/-- without the pointers into a local box -/
def IV.isLp (d : Nat) : IV → Bool
  | .lp t _ => t == d
  | _ => false
def Env.purge (e : Env) (d : Nat) : Env := fun t => match e t with
  | some v => if v.isLp d then none else some v
  | none => none
abbrev Loc := Nat → Option (List IV)
def Loc.nil : Loc := fun _ => none
def Loc.put (L : Loc) (d : Nat) (v : List IV) : Loc := fun t => if t = d then some v else L t
def Loc.putO (L : Loc) (d : Nat) : Option (List IV) → Loc
  | some v => L.put d v
  | none => L
def Loc.keep (L : Loc) (ts : List Nat) : Loc := fun t => match memN t ts with
  | true => L t
  | false => none

def Env.le (e e' : Env) : Prop := ∀ t v, e t = some v → e' t = some v
def Loc.le (e e' : Loc) : Prop := ∀ t v, e t = some v → e' t = some v
theorem Env.keep_le (e : Env) (ts : List Nat) : (e.keep ts).le e := fun t v h => by
  simp only [Env.keep] at h
  split at h
  · exact h
  · cases h
theorem Loc.keep_le (e : Loc) (ts : List Nat) : (e.keep ts).le e := fun t v h => by
  simp only [Loc.keep] at h
  split at h
  · exact h
  · cases h

/-- An ideal value tells of a value, a pointer into a local box too. -/
def RL (lam : Nat → Option Nat) (G : Ghost) (x : IV) (v : Value) : Prop :=
  (∃ t o id p, x = .lp t o ∧ lam t = some id ∧ G.obj id = some p ∧ v = .pointer (some ⟨p.b, p.off + o, none⟩)) ∨ R0 G x v
theorem RL.mono {lam : Nat → Option Nat} {G G' : Ghost} (h : G.le G') {x : IV} {v : Value} (r : RL lam G x v) : RL lam G' x v := by
  rcases r with ⟨t, o, id, p, e1, e2, e3, e4⟩ | r
  · exact .inl ⟨t, o, id, p, e1, e2, h.obj _ _ e3, e4⟩
  · exact .inr (r.mono h)
theorem RL.r0 {lam : Nat → Option Nat} {G : Ghost} {x : IV} {v : Value} (r : RL lam G x v) (h : ∀ t o, x ≠ .lp t o) : R0 G x v := by
  rcases r with ⟨t, o, id, p, e1, _⟩ | r
  · exact absurd e1 (h t o)
  · exact r

/-- Where a call began. -/
structure Base where
  G : Ghost
  w : World
  hh : Heap
  h : Heap

structure RelG (β : Base) (N : Nat) (e : Env) (L : Loc) (h : Heap) (a : Act) (w : World) (G : Ghost) (lam : Nat → Option Nat) (hh : Heap) : Prop where
  inv : HInv G hh w
  le : β.G.le G
  goes : Goes β.G β.w G w
  sub : h.sub hh
  kee : Keeps β.hh β.h hh h
  old : ∀ i r, β.hh.obj i = some r → i < β.G.nid
  oldT : ∀ t, β.hh.tok t = true → t < β.G.ntk
  loc : ∀ t row, L t = some row → ∃ id, lam t = some id ∧ hh.obj id = some [row] ∧ h.obj id = none ∧ β.G.nid ≤ id
  inj : ∀ t t' id r r', L t = some r → L t' = some r' → lam t = some id → lam t' = some id → t = t'
  env : ∀ t x, e t = some x → ∃ v, a.tmps[t]? = some v ∧ RL lam G x v
  defs : a.defers = []
  size : a.tmps.size = N

variable {β : Base} {N : Nat} {e : Env} {L : Loc} {h : Heap} {a : Act} {w : World} {G : Ghost} {lam : Nat → Option Nat} {hh : Heap}

theorem Act.put_size (a : Act) (d : Option Tmp) (v : Value) : (a.put d v).tmps.size = a.tmps.size := by
  cases d <;> simp [Act.put]
theorem Act.put_defers (a : Act) (d : Option Tmp) (v : Value) : (a.put d v).defers = a.defers := by
  cases d <;> rfl

theorem RelG.put (R : RelG β N e L h a w G lam hh) {d : Nat} (hd : d < N) {x : IV} {v : Value} (hr : RL lam G x v) : RelG β N (e.put d x) L h (a.put (some d) v) w G lam hh :=
  { R with
    env := fun t y ht => by
      simp only [Env.put] at ht
      simp only [Act.put]
      split at ht
      · rename_i e1
        cases ht
        exact ⟨v, by rw [e1]; simp [R.size, hd], hr⟩
      · rename_i e1
        obtain ⟨u, hu, hru⟩ := R.env t y ht
        exact ⟨u, by rw [Array.getElem?_setIfInBounds]; rw [if_neg (Ne.symm e1)]; exact hu, hru⟩
    defs := by rw [Act.put_defers]; exact R.defs
    size := by rw [Act.put_size]; exact R.size }

theorem RelG.lose (R : RelG β N e L h a w G lam hh) (d : Option Nat) (v : Value) : RelG β N (match d with | some d => e.del d | none => e) L h (a.put d v) w G lam hh :=
  { R with
    env := fun t y ht => by
      cases d with
      | none => exact R.env t y ht
      | some d =>
        simp only [Env.del] at ht
        simp only [Act.put]
        split at ht
        · cases ht
        · rename_i e1
          obtain ⟨u, hu, hru⟩ := R.env t y ht
          exact ⟨u, by rw [Array.getElem?_setIfInBounds]; rw [if_neg (Ne.symm e1)]; exact hu, hru⟩
    defs := by rw [Act.put_defers]; exact R.defs
    size := by rw [Act.put_size]; exact R.size }

theorem sub_none {h k : Heap} (s : h.sub k) {i : Nat} (hi : k.obj i = none) : h.obj i = none := by
  cases hx : h.obj i with
  | none => rfl
  | some r => rw [s.1 _ _ hx] at hi; cases hi
theorem sub_tok {h k : Heap} (s : h.sub k) {i : Nat} (hi : k.tok i = false) : h.tok i = false := by
  cases hx : h.tok i with
  | false => rfl
  | true => rw [s.2 _ hx] at hi; cases hi

/-- Less is known. -/
theorem RelG.less (R : RelG β N e L h a w G lam hh) {e' : Env} {L' : Loc} {h' : Heap} (he : e'.le e) (hL : L'.le L) (hs : h'.sub h) : RelG β N e' L' h' a w G lam hh :=
  { R with
    sub := Heap.sub_trans hs R.sub
    kee := ⟨fun i r p q => (let ⟨x, y⟩ := R.kee.obj i r p q; ⟨x, sub_none hs y⟩), fun t p q => (let ⟨x, y⟩ := R.kee.tok t p q; ⟨x, sub_tok hs y⟩)⟩
    loc := fun t row ht => by
      obtain ⟨id, a1, a2, a3, a4⟩ := R.loc t row (hL _ _ ht)
      refine ⟨id, a1, a2, ?_, a4⟩
      cases hx : h'.obj id with
      | none => rfl
      | some r' => rw [hs.1 _ _ hx] at a3; cases a3
    inj := fun t t' id r r' h1 h2 => R.inj t t' id r r' (hL _ _ h1) (hL _ _ h2)
    env := fun t x ht => R.env t x (he _ _ ht) }

theorem RelG.drewN (R : RelG β N e L h a w G lam hh) (n : Nat) : RelG β N e L h a (w.drewN n) G lam hh :=
  { R with inv := R.inv.drewN n, goes := R.goes.trans (Goes.drewN G w n) }
theorem RelG.drew (R : RelG β N e L h a w G lam hh) : RelG β N e L h a w.drew G lam hh :=
  { R with inv := R.inv.drew, goes := R.goes.trans (Goes.drew G w) }

/-- A step of the world that leaves the frame's heap and locals as they are. -/
theorem RelG.step (R : RelG β N e L h a w G lam hh) {G' : Ghost} {w' : World} {hh' : Heap} (hle : G.le G') (hI : HInv G' hh' w') (hg : Goes G w G' w')
    (hk : ∀ i r, hh.obj i = some r → hh'.obj i = some r) (ht : ∀ t, hh.tok t = true → hh'.tok t = true) : RelG β N e L h a w' G' lam hh' :=
  { R with
    inv := hI
    le := R.le.trans hle
    goes := R.goes.trans hg
    sub := ⟨fun i r x => hk _ _ (R.sub.1 i r x), fun t x => ht _ (R.sub.2 t x)⟩
    kee := ⟨fun i r p q => let ⟨x, y⟩ := R.kee.obj i r p q; ⟨hk _ _ x, y⟩, fun t p q => let ⟨x, y⟩ := R.kee.tok t p q; ⟨ht _ x, y⟩⟩
    loc := fun t row x => let ⟨id, a1, a2, a3, a4⟩ := R.loc t row x; ⟨id, a1, hk _ _ a2, a3, a4⟩
    env := fun t x ht => let ⟨v, hv, hr⟩ := R.env t x ht; ⟨v, hv, hr.mono hle⟩ }

theorem HInv.none_of_ge (H : HInv G hh w) {i : Nat} (hi : G.nid ≤ i) : hh.obj i = none := by
  cases hx : hh.obj i with
  | none => rfl
  | some r =>
    obtain ⟨p, ok⟩ := H.objs i r hx
    have := H.W.nid _ _ ok.at_
    omega
theorem HInv.tok_of_ge (H : HInv G hh w) {i : Nat} (hi : G.ntk ≤ i) : hh.tok i = false := by
  cases hx : hh.tok i with
  | false => rfl
  | true =>
    obtain ⟨p, ok⟩ := H.toks i hx
    have := H.W.ntk _ _ ok.at_
    omega
/-- A new object of the ideal heap. -/
theorem RelG.newH (R : RelG β N e L h a w G lam hh) {G' : Ghost} {w' : World} {rows : Rows} (hle : G.le G') (hI : HInv G' (hh.put G.nid rows) w') (hg : Goes G w G' w') :
    RelG β N e L (h.put G.nid rows) a w' G' lam (hh.put G.nid rows) := by
  have hn := R.inv.none_of_ge (Nat.le_refl G.nid)
  have hlt : β.G.nid ≤ G.nid := R.le.nid
  refine { R with inv := hI, le := R.le.trans hle, goes := R.goes.trans hg, sub := ⟨fun i r x => ?_, fun t x => R.sub.2 t x⟩, kee := ⟨fun i r p q => ?_, fun t p q => R.kee.tok t p q⟩, loc := fun t row x => ?_, env := fun t x ht => ?_ }
  · simp only [Heap.put] at x ⊢
    split at x
    · rename_i e1; rw [if_pos e1]; exact x
    · rename_i e1; rw [if_neg e1]; exact R.sub.1 i r x
  · obtain ⟨x, y⟩ := R.kee.obj i r p q
    have hi := R.old i r p
    simp only [Heap.put]
    rw [if_neg (by omega), if_neg (by omega)]
    exact ⟨x, y⟩
  · obtain ⟨id, a1, a2, a3, a4⟩ := R.loc t row x
    have hne : id ≠ G.nid := fun hc => by rw [hc, hn] at a2; cases a2
    simp only [Heap.put]
    exact ⟨id, a1, by rw [if_neg hne]; exact a2, by rw [if_neg hne]; exact a3, a4⟩
  · obtain ⟨v, hv, hr⟩ := R.env t x ht
    exact ⟨v, hv, hr.mono hle⟩

/-- A new local box. -/
theorem RelG.newL (R : RelG β N e L h a w G lam hh) {G' : Ghost} {w' : World} {row : List IV} {d : Nat} (hle : G.le G') (hI : HInv G' (hh.put G.nid [row]) w') (hg : Goes G w G' w') :
    RelG β N (e.purge d) (L.put d row) h a w' G' (fun t => if t = d then some G.nid else lam t) (hh.put G.nid [row]) := by
  have hn := R.inv.none_of_ge (Nat.le_refl G.nid)
  have hlt : β.G.nid ≤ G.nid := R.le.nid
  refine { R with inv := hI, le := R.le.trans hle, goes := R.goes.trans hg, sub := ⟨fun i r x => ?_, fun t x => R.sub.2 t x⟩, kee := ⟨fun i r p q => ?_, fun t p q => R.kee.tok t p q⟩, loc := fun t row' x => ?_, inj := fun t t' id r r' h1 h2 l1 l2 => ?_, env := fun t x ht => ?_ }
  · have hne : i ≠ G.nid := fun hc => by have := R.sub.1 i r x; rw [hc, hn] at this; cases this
    simp only [Heap.put]; rw [if_neg hne]; exact R.sub.1 i r x
  · obtain ⟨x, y⟩ := R.kee.obj i r p q
    have hi := R.old i r p
    simp only [Heap.put]
    rw [if_neg (by omega)]
    exact ⟨x, y⟩
  · simp only [Loc.put] at x
    simp only [Heap.put]
    split at x
    · rename_i e1
      cases x
      exact ⟨G.nid, by rw [if_pos e1], by rw [if_pos rfl], sub_none R.sub hn, hlt⟩
    · rename_i e1
      obtain ⟨id, a1, a2, a3, a4⟩ := R.loc t row' x
      have hne : id ≠ G.nid := fun hc => by rw [hc, hn] at a2; cases a2
      exact ⟨id, by rw [if_neg e1]; exact a1, by rw [if_neg hne]; exact a2, a3, a4⟩
  · simp only [Loc.put] at h1 h2
    have key : ∀ s r, s ≠ d → L s = some r → lam s = some G.nid → False := fun s r _ hs hl => by
      obtain ⟨id, a1, a2, _, _⟩ := R.loc s r hs
      rw [hl] at a1; cases a1; rw [hn] at a2; cases a2
    by_cases e1 : t = d <;> by_cases e2 : t' = d
    · rw [e1, e2]
    · rw [if_pos e1] at l1; rw [if_neg e2] at l2 h2; cases l1; exact (key _ _ e2 h2 l2).elim
    · rw [if_neg e1] at l1 h1; rw [if_pos e2] at l2; cases l2; exact (key _ _ e1 h1 l1).elim
    · rw [if_neg e1] at l1 h1; rw [if_neg e2] at l2 h2; exact R.inj t t' id r r' h1 h2 l1 l2
  · simp only [Env.purge] at ht
    cases hx : e t with
    | none => rw [hx] at ht; cases ht
    | some y =>
      rw [hx] at ht
      simp only at ht
      split at ht
      · cases ht
      · rename_i hlp
        cases ht
        obtain ⟨v, hv, hr⟩ := R.env t x hx
        refine ⟨v, hv, ?_⟩
        rcases hr with ⟨t', o, id, p, e1, e2, e3, e4⟩ | r
        · subst e1
          refine .inl ⟨t', o, id, p, rfl, ?_, hle.obj _ _ e3, e4⟩
          have : t' ≠ d := by simpa [IV.isLp] using hlp
          show (if t' = d then some G.nid else lam t') = some id
          rw [if_neg this]; exact e2
        · exact .inr (r.mono hle)

/-- A write into an object of the ideal heap. -/
theorem RelG.setH (R : RelG β N e L h a w G lam hh) {w' : World} {id : Nat} {rows rows' : Rows} (hid : h.obj id = some rows) (hI : HInv G (hh.put id rows') w') (hg : Goes G w G w') :
    RelG β N e L (h.put id rows') a w' G lam (hh.put id rows') := by
  refine { R with inv := hI, goes := R.goes.trans hg, sub := ⟨fun i r x => ?_, fun t x => R.sub.2 t x⟩, kee := ⟨fun i r p q => ?_, fun t p q => R.kee.tok t p q⟩, loc := fun t row x => ?_ }
  · simp only [Heap.put] at x ⊢
    split at x
    · rename_i e1; rw [if_pos e1]; exact x
    · rename_i e1; rw [if_neg e1]; exact R.sub.1 i r x
  · obtain ⟨x, y⟩ := R.kee.obj i r p q
    have hne : i ≠ id := fun hc => by rw [hc, hid] at y; cases y
    simp only [Heap.put]
    rw [if_neg hne, if_neg hne]
    exact ⟨x, y⟩
  · obtain ⟨id', a1, a2, a3, a4⟩ := R.loc t row x
    have hne : id' ≠ id := fun hc => by rw [hc, hid] at a3; cases a3
    simp only [Heap.put]
    exact ⟨id', a1, by rw [if_neg hne]; exact a2, by rw [if_neg hne]; exact a3, a4⟩

/-- A write into a local box. -/
theorem RelG.setL (R : RelG β N e L h a w G lam hh) {w' : World} {t id : Nat} {row row' : List IV} (ht : L t = some row) (hl : lam t = some id) (hI : HInv G (hh.put id [row']) w') (hg : Goes G w G w') :
    RelG β N e (L.put t row') h a w' G lam (hh.put id [row']) := by
  obtain ⟨id', b1, b2, b3, b4⟩ := R.loc t row ht
  rw [hl] at b1
  cases b1
  refine { R with inv := hI, goes := R.goes.trans hg, sub := ⟨fun i r x => ?_, fun t x => R.sub.2 t x⟩, kee := ⟨fun i r p q => ?_, fun t p q => R.kee.tok t p q⟩, loc := fun t2 row2 x => ?_, inj := fun t1 t2 id2 r r' h1 h2 l1 l2 => ?_ }
  · have hne : i ≠ id := fun hc => by rw [hc, b3] at x; cases x
    simp only [Heap.put]; rw [if_neg hne]; exact R.sub.1 i r x
  · obtain ⟨x, y⟩ := R.kee.obj i r p q
    have hi := R.old i r p
    simp only [Heap.put]
    rw [if_neg (by omega)]
    exact ⟨x, y⟩
  · simp only [Loc.put] at x
    simp only [Heap.put]
    split at x
    · rename_i e1
      cases x
      subst e1
      exact ⟨id, hl, by rw [if_pos rfl], b3, b4⟩
    · rename_i e1
      obtain ⟨id2, a1, a2, a3, a4⟩ := R.loc t2 row2 x
      have hne : id2 ≠ id := fun hc => e1 (R.inj t2 t id row2 row x ht (by rw [a1, hc]) hl)
      exact ⟨id2, a1, by rw [if_neg hne]; exact a2, a3, a4⟩
  · have key : ∀ s r, (L.put t row') s = some r → ∃ r2, L s = some r2 := fun s r hs => by
      simp only [Loc.put] at hs
      split at hs
      · rename_i e1; rw [e1]; exact ⟨row, ht⟩
      · exact ⟨r, hs⟩
    obtain ⟨r1, k1⟩ := key t1 r h1
    obtain ⟨r2, k2⟩ := key t2 r' h2
    exact R.inj t1 t2 id2 r1 r2 k1 k2 l1 l2

/-- A token comes. -/
theorem RelG.addT (R : RelG β N e L h a w G lam hh) {G' : Ghost} {w' : World} (hle : G.le G') (hI : HInv G' (hh.addT G.ntk) w') (hg : Goes G w G' w') (hold : ∀ t, β.hh.tok t = true → t < β.G.ntk) :
    RelG β N e L (h.addT G.ntk) a w' G' lam (hh.addT G.ntk) := by
  have hlt : β.G.ntk ≤ G.ntk := R.le.ntk
  refine { R with inv := hI, le := R.le.trans hle, goes := R.goes.trans hg, sub := ⟨fun i r x => R.sub.1 i r x, fun t x => ?_⟩, kee := ⟨fun i r p q => R.kee.obj i r p q, fun t p q => ?_⟩, loc := fun t row x => R.loc t row x, env := fun t x ht => ?_ }
  · simp only [Heap.addT] at x ⊢
    split at x
    · rename_i e1; rw [if_pos e1]
    · rename_i e1; rw [if_neg e1]; exact R.sub.2 t x
  · obtain ⟨x, y⟩ := R.kee.tok t p q
    have := hold t p
    simp only [Heap.addT]
    rw [if_neg (by omega), if_neg (by omega)]
    exact ⟨x, y⟩
  · obtain ⟨v, hv, hr⟩ := R.env t x ht
    exact ⟨v, hv, hr.mono hle⟩

/-- A token goes, another one comes. -/
theorem RelG.swapT (R : RelG β N e L h a w G lam hh) {G' : Ghost} {w' : World} {s : Nat} (hs : h.tok s = true) (hle : G.le G') (hI : HInv G' ((hh.delT s).addT G.ntk) w') (hg : Goes G w G' w') (hold : ∀ t, β.hh.tok t = true → t < β.G.ntk) :
    RelG β N e L ((h.delT s).addT G.ntk) a w' G' lam ((hh.delT s).addT G.ntk) := by
  have hlt : β.G.ntk ≤ G.ntk := R.le.ntk
  refine { R with inv := hI, le := R.le.trans hle, goes := R.goes.trans hg, sub := ⟨fun i r x => R.sub.1 i r x, fun t x => ?_⟩, kee := ⟨fun i r p q => R.kee.obj i r p q, fun t p q => ?_⟩, loc := fun t row x => R.loc t row x, env := fun t x ht => ?_ }
  · simp only [Heap.addT, Heap.delT] at x ⊢
    split at x
    · rename_i e1; rw [if_pos e1]
    · rename_i e1
      rw [if_neg e1]
      split at x
      · cases x
      · rename_i e2; rw [if_neg e2]; exact R.sub.2 t x
  · obtain ⟨x, y⟩ := R.kee.tok t p q
    have := hold t p
    have hne : t ≠ s := fun hc => by rw [hc, hs] at y; cases y
    simp only [Heap.addT, Heap.delT]
    rw [if_neg (by omega), if_neg hne, if_neg (by omega), if_neg hne]
    exact ⟨x, y⟩
  · obtain ⟨v, hv, hr⟩ := R.env t x ht
    exact ⟨v, hv, hr.mono hle⟩

end VL
