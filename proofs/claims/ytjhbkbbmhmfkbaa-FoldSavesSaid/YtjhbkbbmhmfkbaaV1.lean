/- The V layer, part 1: what a write, a new block, an append do to worlds, ghosts and heaps. No program in sight. -/
import Derived.Test.YtjhbkbbmhmfkbaaV0
namespace VL
open Go

theorem idx_lt {i j n len cap : Nat} (hi : i < len) (hl : len ≤ cap) (hj : j < n) : i * n + j < cap * n := by
  have h1 : (i + 1) * n ≤ cap * n := Nat.mul_le_mul_right n (by omega)
  rw [Nat.add_mul] at h1
  omega

theorem get_lt {α : Type} {l : List α} {i : Nat} {x : α} (h : l[i]? = some x) : i < l.length := by
  rcases Nat.lt_or_ge i l.length with h' | h'
  · exact h'
  · rw [List.getElem?_eq_none h'] at h; cases h

theorem ObjOK.lt {G : Ghost} {w : World} {id : Nat} {rows : Rows} {p : Pl} (h : ObjOK G w id rows p) {i j : Nat} {row : List IV} {x : IV} (hi : rows[i]? = some row) (hj : row[j]? = some x) : i * p.n + j < p.cap * p.n := by
  have h1 := get_lt hi
  have h2 := get_lt hj
  rw [h.wide i row hi] at h2
  exact idx_lt h1 h.le h2

/-- From one ghost and world to others: whatever is not touched is as it was. -/
structure Upd (G : Ghost) (w : World) (G' : Ghost) (w' : World) (X Y : Nat → Prop) : Prop where
  le : G.le G'
  W : WInv G' w'
  obj : ∀ b o i, G.cl b o = .obj i → ¬ X i → G'.cl b o = .obj i ∧ w'.cell? ⟨b, o, none⟩ = w.cell? ⟨b, o, none⟩
  zone : ∀ b o t, G.cl b o = .zone t → ¬ Y t → G'.cl b o = .zone t ∧ (w'.cell? ⟨b, o, none⟩).isSome = (w.cell? ⟨b, o, none⟩).isSome
  fro : ∀ b o, b < w.heap.size → w'.frozen? ⟨b, o, none⟩ = w.frozen? ⟨b, o, none⟩
  goes : Goes G w G' w'

theorem WInv.lt {G : Ghost} {w : World} (h : WInv G w) {b o : Nat} (hc : G.cl b o ≠ .free) : b < w.heap.size := by
  rcases Nat.lt_or_ge b w.heap.size with h' | h'
  · exact h'
  · exact absurd (h.bnd b o h') hc

theorem ObjOK.upd {G G' : Ghost} {w w' : World} {X Y : Nat → Prop} (u : Upd G w G' w' X Y) (hW : WInv G w) {id : Nat} {rows : Rows} {p : Pl} (h : ObjOK G w id rows p) (hX : ¬ X id) : ObjOK G' w' id rows p where
  at_ := u.le.obj _ _ h.at_
  le := h.le
  mine k hk := (u.obj _ _ _ (h.mine k hk) hX).1
  there k hk := by rw [(u.obj _ _ _ (h.mine k hk) hX).2]; exact h.there k hk
  warm k hk := by rw [u.fro _ _ (hW.lt (by rw [h.mine k hk]; simp))]; exact h.warm k hk
  wide := h.wide
  cell := h.cell
  has i row j x hi hj := by
    obtain ⟨v, hv, hr⟩ := h.has i row j x hi hj
    have hk := h.lt hi hj
    have := (u.obj _ _ _ (h.mine _ hk) hX).2
    rw [← Nat.add_assoc] at this
    exact ⟨v, by rw [this]; exact hv, hr.mono u.le⟩

theorem TokOK.upd {G G' : Ghost} {w w' : World} {X Y : Nat → Prop} (u : Upd G w G' w' X Y) (hW : WInv G w) {t : Nat} {z : Pl} (h : TokOK G w t z) (hY : ¬ Y t) : TokOK G' w' t z where
  at_ := u.le.tok _ _ h.at_
  mine k hk := (u.zone _ _ _ (h.mine k hk) hY).1
  there k hk := by rw [(u.zone _ _ _ (h.mine k hk) hY).2]; exact h.there k hk
  warm k hk := by rw [u.fro _ _ (hW.lt (by rw [h.mine k hk]; simp))]; exact h.warm k hk

/-- The heap behind it, object by object. -/
theorem HInv.upd {G G' : Ghost} {w w' : World} {X Y : Nat → Prop} (u : Upd G w G' w' X Y) {h h' : Heap} (H : HInv G h w)
    (ho : ∀ i r, h'.obj i = some r → (h.obj i = some r ∧ ¬ X i) ∨ ∃ p, ObjOK G' w' i r p)
    (ht : ∀ t, h'.tok t = true → (h.tok t = true ∧ ¬ Y t) ∨ ∃ z, TokOK G' w' t z) : HInv G' h' w' where
  W := u.W
  objs i r e := by
    rcases ho i r e with ⟨e', hX⟩ | hp
    · obtain ⟨p, hp⟩ := H.objs i r e'
      exact ⟨p, hp.upd u H.W hX⟩
    · exact hp
  toks t e := by
    rcases ht t e with ⟨e', hY⟩ | hz
    · obtain ⟨z, hz⟩ := H.toks t e'
      exact ⟨z, hz.upd u H.W hY⟩
    · exact hz

/-! ### a write into an object -/
theorem upd_write {G : Ghost} {w : World} (hW : WInv G w) {id b o : Nat} {vs : List Value} (hm : ∀ k, k < vs.length → G.cl b (o + k) = .obj id) (hth : ∀ k, k < vs.length → (w.cell? ⟨b, o + k, none⟩).isSome = true) :
    Upd G w G (w.setCells b o vs) (fun i => i = id) (fun _ => False) := by
  have out : ∀ b' o', G.cl b' o' ≠ .obj id → (w.setCells b o vs).cell? ⟨b', o', none⟩ = w.cell? ⟨b', o', none⟩ := by
    intro b' o' hne
    refine World.cell?_setCells_out b vs o w _ (fun hb _ => ?_)
    by_cases h1 : o' < o
    · exact .inl h1
    · by_cases h2 : o + vs.length ≤ o'
      · exact .inr h2
      · refine absurd ?_ hne
        have := hm (o' - o) (by omega)
        rw [show o + (o' - o) = o' by omega] at this
        simp only at hb
        rw [hb]; exact this
  have size : ∀ (vs : List Value) (o : Nat) (w : World), (w.setCells b o vs).heap.size = w.heap.size := by
    intro vs
    induction vs with
    | nil => intro _ _; rfl
    | cons v r ih => intro o w; rw [World.setCells, ih]; simp
  have heap : ∀ (vs : List Value) (o : Nat) (w : World) (k : Nat), k ≠ b → (w.setCells b o vs).heap[k]? = w.heap[k]? := by
    intro vs
    induction vs with
    | nil => intro _ _ _ _; rfl
    | cons v r ih => intro o w k hk; rw [World.setCells, ih _ _ _ hk]; exact RowKit.Below.heap_setCell _ _ _ _ hk
  have keep : ∀ (vs : List Value) (o : Nat) (w : World), (w.setCells b o vs).os = w.os ∧ (w.setCells b o vs).tape = w.tape ∧ (w.setCells b o vs).output = w.output := by
    intro vs
    induction vs with
    | nil => intro _ _; exact ⟨rfl, rfl, rfl⟩
    | cons v r ih => intro o w; rw [World.setCells]; exact ih _ _
  refine ⟨.refl G, ⟨fun b' o' v e => ?_, ?_, hW.ido, hW.idt, hW.nid, hW.ntk⟩, ?_, ?_, ?_, ?_⟩
  · rw [out b' o' (by rw [e]; simp)]; exact hW.imm _ _ _ e
  · intro b' o' hb; rw [size] at hb; exact hW.bnd _ _ hb
  · intro b' o' i e hi; exact ⟨e, out b' o' (by rw [e]; simpa using hi)⟩
  · intro b' o' t e _; exact ⟨e, by rw [out b' o' (by rw [e]; simp)]⟩
  · intro b' o' _; exact World.frozen?_setCells b vs o w _
  · refine ⟨(keep _ _ _).1, (keep _ _ _).2.1, (keep _ _ _).2.2, by rw [size]; exact Nat.le_refl _, fun k hk hq => ⟨?_, hq⟩⟩
    by_cases hkb : k = b
    · cases vs with
      | nil => rfl
      | cons v r =>
        have := hm 0 (by simp)
        rcases hq (o + 0) with h | ⟨v', h⟩
        · rw [hkb, this] at h; cases h
        · rw [hkb, this] at h; cases h
    · exact heap _ _ _ _ hkb

theorem HInv.write {G : Ghost} {w : World} {hh : Heap} (H : HInv G hh w) {id : Nat} {rows : Rows} (hid : hh.obj id = some rows) {p : Pl} (ok : ObjOK G w id rows p)
    {i o : Nat} {row : List IV} (hi : rows[i]? = some row) {xs : List IV} {vs : List Value} (hl : vs.length = xs.length) (ho : o + xs.length ≤ row.length)
    (hx : ∀ (j : Nat) (x : IV), xs[j]? = some x → x.cell = true ∧ ∃ v, vs[j]? = some v ∧ R0 G x v) :
    HInv G (hh.put id (rows.set i (row.take o ++ xs ++ row.drop (o + xs.length)))) (w.setCells p.b (p.off + i * p.n + o) vs) ∧
      Goes G w G (w.setCells p.b (p.off + i * p.n + o) vs) := by
  have hlt := get_lt hi
  have hw := ok.wide i row hi
  have hk : ∀ k, k < vs.length → i * p.n + o + k < p.cap * p.n := by
    intro k hk
    have := idx_lt (j := o + k) (n := p.n) hlt ok.le (by omega)
    omega
  have u := upd_write H.W (id := id) (b := p.b) (o := p.off + i * p.n + o) (vs := vs)
    (fun k h => by have := ok.mine _ (hk k h); rwa [show p.off + (i * p.n + o + k) = p.off + i * p.n + o + k by omega] at this)
    (fun k h => by have := ok.there _ (hk k h); rwa [show p.off + (i * p.n + o + k) = p.off + i * p.n + o + k by omega] at this)
  have hin : ∀ k (h : k < vs.length), (w.setCells p.b (p.off + i * p.n + o) vs).cell? ⟨p.b, p.off + i * p.n + o + k, none⟩ = some vs[k] :=
    World.cell?_setCells_in p.b vs _ w (fun k h => by have := ok.there _ (hk k h); rwa [show p.off + (i * p.n + o + k) = p.off + i * p.n + o + k by omega] at this)
  have hout : ∀ o', (o' < p.off + i * p.n + o ∨ p.off + i * p.n + o + vs.length ≤ o') → (w.setCells p.b (p.off + i * p.n + o) vs).cell? ⟨p.b, o', none⟩ = w.cell? ⟨p.b, o', none⟩ :=
    fun o' h => World.cell?_setCells_out p.b vs _ w _ (fun _ _ => h)
  refine ⟨HInv.upd u H (fun i' r e => ?_) (fun t e => .inl ⟨e, fun h => h⟩), u.goes⟩
  simp only [Heap.put] at e
  by_cases hii : i' = id
  · subst hii
    rw [if_pos rfl] at e
    cases e
    refine .inr ⟨p, ok.at_, by simpa using ok.le, ok.mine, fun k h => ?_, fun k h => ?_, fun i2 row2 h2 => ?_, fun i2 row2 j x h2 hj => ?_, fun i2 row2 j x h2 hj => ?_⟩
    · by_cases hr : p.off + k < p.off + i * p.n + o ∨ p.off + i * p.n + o + vs.length ≤ p.off + k
      · rw [hout _ hr]; exact ok.there k h
      · have := hin (k - (i * p.n + o)) (by omega)
        rw [show p.off + i * p.n + o + (k - (i * p.n + o)) = p.off + k by omega] at this
        rw [this]; rfl
    · rw [World.frozen?_setCells]; exact ok.warm k h
    · rw [List.getElem?_set] at h2
      split at h2
      · cases h2; simp; omega
      · exact ok.wide i2 row2 h2
    · rw [List.getElem?_set] at h2
      split at h2
      · cases h2
        rw [List.getElem?_append] at hj
        split at hj
        · rw [List.getElem?_append] at hj
          split at hj
          · rw [List.getElem?_take] at hj
            split at hj
            · exact ok.cell _ _ _ _ hi hj
            · cases hj
          · exact (hx _ _ hj).1
        · rw [List.getElem?_drop] at hj
          exact ok.cell _ _ _ _ hi hj
      · exact ok.cell _ _ _ _ h2 hj
    · rw [List.getElem?_set] at h2
      split at h2
      · rename_i hi2
        subst hi2
        cases h2
        rw [List.getElem?_append] at hj
        split at hj
        · rename_i hj1
          rw [List.getElem?_append] at hj
          split at hj
          · rename_i hj2
            rw [List.getElem?_take] at hj
            split at hj
            · obtain ⟨v, hv, hr⟩ := ok.has _ _ _ _ hi hj
              exact ⟨v, by rw [hout _ (by omega)]; exact hv, hr⟩
            · cases hj
          · rename_i hj2
            obtain ⟨_, v, hv, hr⟩ := hx _ _ hj
            simp at hj1 hj2
            have hlen : min o row.length = o := by omega
            rw [List.length_take, hlen] at hv
            have hjl := get_lt hv
            have := hin (j - o) hjl
            rw [show p.off + i * p.n + o + (j - o) = p.off + i * p.n + j by omega] at this
            refine ⟨v, ?_, hr⟩
            rw [this]
            rw [List.getElem?_eq_getElem hjl] at hv
            exact hv
        · rename_i hj1
          rw [List.getElem?_drop] at hj
          simp at hj1
          have hlen : min o row.length = o := by omega
          simp only [List.length_append, List.length_take, hlen] at hj
          rw [show o + xs.length + (j - (o + xs.length)) = j by omega] at hj
          obtain ⟨v, hv, hr⟩ := ok.has _ _ _ _ hi hj
          exact ⟨v, by rw [hout _ (by omega)]; exact hv, hr⟩
      · rename_i hi2
        obtain ⟨v, hv, hr⟩ := ok.has _ _ _ _ h2 hj
        refine ⟨v, ?_, hr⟩
        rw [hout _ ?_]
        · exact hv
        · have hjw := get_lt hj
          rw [ok.wide _ _ h2] at hjw
          rcases Nat.lt_or_ge i i2 with hlt2 | hge
          · have : (i + 1) * p.n ≤ i2 * p.n := Nat.mul_le_mul_right _ hlt2
            rw [Nat.add_mul] at this
            right; omega
          · have hlt3 : i2 < i := by omega
            have : (i2 + 1) * p.n ≤ i * p.n := Nat.mul_le_mul_right _ hlt3
            rw [Nat.add_mul] at this
            left; omega
  · rw [if_neg hii] at e
    exact .inl ⟨e, hii⟩

/-! ### a draw -/
theorem HInv.drewN {G : Ghost} {w : World} {hh : Heap} (H : HInv G hh w) (n : Nat) : HInv G hh (w.drewN n) :=
  ⟨⟨H.W.imm, H.W.bnd, H.W.ido, H.W.idt, H.W.nid, H.W.ntk⟩, fun i r e => let ⟨p, h⟩ := H.objs i r e; ⟨p, h.at_, h.le, h.mine, h.there, h.warm, h.wide, h.cell, h.has⟩,
    fun t e => let ⟨z, h⟩ := H.toks t e; ⟨z, h.at_, h.mine, h.there, h.warm⟩⟩
theorem Goes.drewN (G : Ghost) (w : World) (n : Nat) : Goes G w G (w.drewN n) := ⟨rfl, rfl, rfl, Nat.le_refl _, fun _ _ h => ⟨rfl, h⟩⟩
theorem HInv.drew {G : Ghost} {w : World} {hh : Heap} (H : HInv G hh w) : HInv G hh w.drew :=
  ⟨⟨H.W.imm, H.W.bnd, H.W.ido, H.W.idt, H.W.nid, H.W.ntk⟩, fun i r e => let ⟨p, h⟩ := H.objs i r e; ⟨p, h.at_, h.le, h.mine, h.there, h.warm, h.wide, h.cell, h.has⟩,
    fun t e => let ⟨z, h⟩ := H.toks t e; ⟨z, h.at_, h.mine, h.there, h.warm⟩⟩
theorem Goes.drew (G : Ghost) (w : World) : Goes G w G w.drew := ⟨rfl, rfl, rfl, Nat.le_refl _, fun _ _ h => ⟨rfl, h⟩⟩

/-! ### a new block -/
/-- A new block whose cells belong to whom a function says. -/
def Ghost.fresh (G : Ghost) (b : Nat) (f : Nat → Cl) (po : Option Pl) (pt : Option Pl) : Ghost where
  cl b' o := if b' = b then f o else G.cl b' o
  obj i := if i = G.nid then po else G.obj i
  tok t := if t = G.ntk then pt else G.tok t
  nid := G.nid + 1
  ntk := G.ntk + 1

theorem upd_fresh {G : Ghost} {w : World} (hW : WInv G w) (cs : Array Value) (ty : TypeId) (f : Nat → Cl) (po pt : Option Pl)
    (himm : ∀ o v, f o = .imm v → cs[o]? = some v) (hobj : ∀ o i, f o = .obj i → i = G.nid) (hzone : ∀ o t, f o = .zone t → t = G.ntk) :
    Upd G w (G.fresh w.heap.size f po pt) (w.alloc (.cells cs ty)) (fun _ => False) (fun _ => False) := by
  have old : ∀ b o, b < w.heap.size → (w.alloc (.cells cs ty)).cell? ⟨b, o, none⟩ = w.cell? ⟨b, o, none⟩ := fun b o h => World.cell?_alloc_lt _ _ _ h
  have ne : ∀ b o, G.cl b o ≠ .free → b ≠ w.heap.size := fun b o h => Nat.ne_of_lt (hW.lt h)
  refine ⟨⟨?_, ?_, ?_, Nat.le_succ _, Nat.le_succ _⟩, ⟨?_, ?_, ?_, ?_, ?_, ?_⟩, ?_, ?_, ?_, ?_⟩
  · intro b o v e; simp only [Ghost.fresh]; rw [if_neg (ne b o (by rw [e]; simp))]; exact e
  · intro i p e; simp only [Ghost.fresh]; rw [if_neg (Nat.ne_of_lt (hW.nid _ _ e))]; exact e
  · intro t z e; simp only [Ghost.fresh]; rw [if_neg (Nat.ne_of_lt (hW.ntk _ _ e))]; exact e
  · intro b o v e
    simp only [Ghost.fresh] at e
    by_cases hb : b = w.heap.size
    · rw [if_pos hb] at e; subst hb; rw [World.cell?_alloc_new]; exact himm o v e
    · rw [if_neg hb] at e
      rw [World.cell?_alloc_old _ _ _ (by simpa using hb)]; exact hW.imm _ _ _ e
  · intro b o hb
    simp at hb
    simp only [Ghost.fresh]; rw [if_neg (by omega)]; exact hW.bnd b o (by omega)
  · intro b o i e
    simp only [Ghost.fresh] at e ⊢
    by_cases hb : b = w.heap.size
    · rw [if_pos hb] at e; rw [hobj o i e]; exact Nat.lt_succ_self _
    · rw [if_neg hb] at e; exact Nat.lt_succ_of_lt (hW.ido _ _ _ e)
  · intro b o t e
    simp only [Ghost.fresh] at e ⊢
    by_cases hb : b = w.heap.size
    · rw [if_pos hb] at e; rw [hzone o t e]; exact Nat.lt_succ_self _
    · rw [if_neg hb] at e; exact Nat.lt_succ_of_lt (hW.idt _ _ _ e)
  · intro i p e
    simp only [Ghost.fresh] at e ⊢
    by_cases hi : i = G.nid
    · rw [hi]; exact Nat.lt_succ_self _
    · rw [if_neg hi] at e; exact Nat.lt_succ_of_lt (hW.nid _ _ e)
  · intro t z e
    simp only [Ghost.fresh] at e ⊢
    by_cases hi : t = G.ntk
    · rw [hi]; exact Nat.lt_succ_self _
    · rw [if_neg hi] at e; exact Nat.lt_succ_of_lt (hW.ntk _ _ e)
  · intro b o i e _
    have hb := ne b o (by rw [e]; simp)
    exact ⟨by simp only [Ghost.fresh]; rw [if_neg hb]; exact e, World.cell?_alloc_old _ _ _ (by simpa using hb)⟩
  · intro b o t e _
    have hb := ne b o (by rw [e]; simp)
    exact ⟨by simp only [Ghost.fresh]; rw [if_neg hb]; exact e, by rw [World.cell?_alloc_old _ _ _ (by simpa using hb)]⟩
  · intro b o hb; exact World.frozen?_alloc_old _ _ _ (by simp; omega)
  · refine ⟨rfl, rfl, rfl, by simp, fun b hb hq => ⟨RowKit.Below.heap_alloc _ _ _ hb, fun o => ?_⟩⟩
    simp only [Ghost.fresh]; rw [if_neg (by omega)]; exact hq o

/-- The same with some cells of one owner given to others. -/
def Ghost.take (G : Ghost) (B lo hi : Nat) (f : Nat → Cl) (po pt : Option Pl) : Ghost where
  cl b o := if b = B ∧ lo ≤ o ∧ o < hi then f o else G.cl b o
  obj i := if i = G.nid then po else G.obj i
  tok t := if t = G.ntk then pt else G.tok t
  nid := G.nid + 1
  ntk := G.ntk + 1

theorem setCells_size (b : Nat) : ∀ (vs : List Value) (o : Nat) (w : World), (w.setCells b o vs).heap.size = w.heap.size
  | [], _, _ => rfl
  | v :: r, o, w => by rw [World.setCells, setCells_size b r]; simp
theorem setCells_heap (b : Nat) : ∀ (vs : List Value) (o : Nat) (w : World) (k : Nat), k ≠ b → (w.setCells b o vs).heap[k]? = w.heap[k]?
  | [], _, _, _, _ => rfl
  | v :: r, o, w, k, hk => by rw [World.setCells, setCells_heap b r _ _ k hk]; exact RowKit.Below.heap_setCell _ _ _ _ hk
theorem setCells_keep (b : Nat) : ∀ (vs : List Value) (o : Nat) (w : World), (w.setCells b o vs).os = w.os ∧ (w.setCells b o vs).tape = w.tape ∧ (w.setCells b o vs).output = w.output
  | [], _, _ => ⟨rfl, rfl, rfl⟩
  | v :: r, o, w => by rw [World.setCells]; exact setCells_keep b r _ _
theorem setCells_isSome (b : Nat) : ∀ (vs : List Value) (o : Nat) (w : World) (a : Addr), ((w.setCells b o vs).cell? a).isSome = (w.cell? a).isSome
  | [], _, _, _ => rfl
  | v :: r, o, w, a => by
    rw [World.setCells, setCells_isSome b r]
    by_cases h : (⟨b, o, none⟩ : Addr) = a
    · subst h
      cases hc : w.cell? ⟨b, o, none⟩ with
      | none =>
        have : (w.setCell ⟨b, o, none⟩ v).cell? ⟨b, o, none⟩ = none := by
          simp only [World.cell?, World.setCell, Array.getElem?_modify] at hc ⊢
          cases hb : w.heap[b]? with
          | none => simp
          | some ob => cases ob <;> simp_all
        rw [this]
      | some u => rw [World.cell?_setCell_same _ _ _ hc]; rfl
    · rw [World.cell?_setCell_other _ _ _ _ h]

theorem upd_take {G : Ghost} {w : World} (hW : WInv G w) {own : Cl} {B lo hi : Nat} (hne : own ≠ .free) (hni : ∀ v, own ≠ .imm v) (hown : ∀ o, lo ≤ o → o < hi → G.cl B o = own) (news : List Value) (hn : lo + news.length ≤ hi)
    (f : Nat → Cl) (po pt : Option Pl) (himm : ∀ o v, lo ≤ o → o < hi → f o = .imm v → (w.setCells B lo news).cell? ⟨B, o, none⟩ = some v)
    (hobj : ∀ o i, lo ≤ o → o < hi → f o = .obj i → i = G.nid) (hzone : ∀ o t, lo ≤ o → o < hi → f o = .zone t → t = G.ntk) :
    Upd G w (G.take B lo hi f po pt) (w.setCells B lo news) (fun i => own = .obj i) (fun t => own = .zone t) := by
  have out : ∀ b o, ¬ (b = B ∧ lo ≤ o ∧ o < hi) → (w.setCells B lo news).cell? ⟨b, o, none⟩ = w.cell? ⟨b, o, none⟩ := by
    intro b o h
    refine World.cell?_setCells_out B news lo w _ (fun hb _ => ?_)
    simp only at hb
    by_cases h1 : o < lo
    · exact .inl h1
    · right
      rcases Nat.lt_or_ge o hi with h2 | h2
      · exact absurd ⟨hb, by omega, h2⟩ h
      · show lo + news.length ≤ o
        omega
  have inn : ∀ b o, b = B ∧ lo ≤ o ∧ o < hi → G.cl b o = own := fun b o ⟨hb, h1, h2⟩ => by rw [hb]; exact hown o h1 h2
  refine ⟨⟨?_, ?_, ?_, Nat.le_succ _, Nat.le_succ _⟩, ⟨?_, ?_, ?_, ?_, ?_, ?_⟩, ?_, ?_, ?_, ?_⟩
  · intro b o v e
    simp only [Ghost.take]
    rw [if_neg (fun h => hni v ((inn b o h).symm.trans e))]; exact e
  · intro i p e; simp only [Ghost.take]; rw [if_neg (Nat.ne_of_lt (hW.nid _ _ e))]; exact e
  · intro t z e; simp only [Ghost.take]; rw [if_neg (Nat.ne_of_lt (hW.ntk _ _ e))]; exact e
  · intro b o v e
    simp only [Ghost.take] at e
    by_cases hb : b = B ∧ lo ≤ o ∧ o < hi
    · rw [if_pos hb] at e; rw [hb.1]; exact himm o v hb.2.1 hb.2.2 e
    · rw [if_neg hb] at e; rw [out b o hb]; exact hW.imm _ _ _ e
  · intro b o hb
    rw [setCells_size] at hb
    simp only [Ghost.take]
    rw [if_neg (fun h => hne ((inn b o h).symm.trans (hW.bnd b o hb)))]; exact hW.bnd b o hb
  · intro b o i e
    simp only [Ghost.take] at e ⊢
    by_cases hb : b = B ∧ lo ≤ o ∧ o < hi
    · rw [if_pos hb] at e; rw [hobj o i hb.2.1 hb.2.2 e]; exact Nat.lt_succ_self _
    · rw [if_neg hb] at e; exact Nat.lt_succ_of_lt (hW.ido _ _ _ e)
  · intro b o t e
    simp only [Ghost.take] at e ⊢
    by_cases hb : b = B ∧ lo ≤ o ∧ o < hi
    · rw [if_pos hb] at e; rw [hzone o t hb.2.1 hb.2.2 e]; exact Nat.lt_succ_self _
    · rw [if_neg hb] at e; exact Nat.lt_succ_of_lt (hW.idt _ _ _ e)
  · intro i p e
    simp only [Ghost.take] at e ⊢
    by_cases hi : i = G.nid
    · rw [hi]; exact Nat.lt_succ_self _
    · rw [if_neg hi] at e; exact Nat.lt_succ_of_lt (hW.nid _ _ e)
  · intro t z e
    simp only [Ghost.take] at e ⊢
    by_cases hi : t = G.ntk
    · rw [hi]; exact Nat.lt_succ_self _
    · rw [if_neg hi] at e; exact Nat.lt_succ_of_lt (hW.ntk _ _ e)
  · intro b o i e hX
    have hb : ¬ (b = B ∧ lo ≤ o ∧ o < hi) := fun h => hX ((inn b o h).symm.trans e)
    exact ⟨by simp only [Ghost.take]; rw [if_neg hb]; exact e, out b o hb⟩
  · intro b o t e hY
    have hb : ¬ (b = B ∧ lo ≤ o ∧ o < hi) := fun h => hY ((inn b o h).symm.trans e)
    exact ⟨by simp only [Ghost.take]; rw [if_neg hb]; exact e, by rw [setCells_isSome]⟩
  · intro b o _; exact World.frozen?_setCells B news lo w _
  · refine ⟨(setCells_keep _ _ _ _).1, (setCells_keep _ _ _ _).2.1, (setCells_keep _ _ _ _).2.2, by rw [setCells_size]; exact Nat.le_refl _, fun b hb hq => ?_⟩
    have hno : ∀ o, ¬ (b = B ∧ lo ≤ o ∧ o < hi) := fun o h => by
      have e := inn b o h
      rcases hq o with hf | ⟨v, hv⟩
      · exact hne (e.symm.trans hf)
      · exact hni v (e.symm.trans hv)
    refine ⟨?_, fun o => by simp only [Ghost.take]; rw [if_neg (hno o)]; exact hq o⟩
    by_cases hbB : b = B
    · cases news with
      | nil => rfl
      | cons v r => exact absurd ⟨hbB, Nat.le_refl _, by simp at hn; omega⟩ (hno lo)
    · exact setCells_heap _ _ _ _ _ hbB

/-! ### objects and slices in a new block -/
theorem HInv.newObj {G : Ghost} {w : World} {hh : Heap} (H : HInv G hh w) (rows : Rows) (n cap : Nat) (cs : Array Value) (ty : TypeId) (hcap : rows.length ≤ cap) (hsz : cs.size = cap * n)
    (wide : ∀ (i : Nat) (row : List IV), rows[i]? = some row → row.length = n) (cell : ∀ (i : Nat) (row : List IV) (j : Nat) (x : IV), rows[i]? = some row → row[j]? = some x → x.cell = true)
    (has : ∀ (i : Nat) (row : List IV) (j : Nat) (x : IV), rows[i]? = some row → row[j]? = some x → ∃ v, cs[i * n + j]? = some v ∧ R0 G x v) :
    ∃ G', G.le G' ∧ G'.nid = G.nid + 1 ∧ G'.obj G.nid = some ⟨w.heap.size, 0, n, cap⟩ ∧ HInv G' (hh.put G.nid rows) (w.alloc (.cells cs ty)) ∧ Goes G w G' (w.alloc (.cells cs ty)) := by
  have u := upd_fresh H.W cs ty (fun o => if o < cap * n then .obj G.nid else .free) (some ⟨w.heap.size, 0, n, cap⟩) none
    (fun o v e => by split at e <;> cases e) (fun o i e => by split at e <;> cases e; rfl) (fun o t e => by split at e <;> cases e)
  refine ⟨_, u.le, rfl, by simp [Ghost.fresh], HInv.upd u H (fun i r e => ?_) (fun t e => .inl ⟨e, fun h => h⟩), u.goes⟩
  simp only [Heap.put] at e
  by_cases hi : i = G.nid
  · rw [if_pos hi] at e
    cases e
    subst hi
    refine .inr ⟨⟨w.heap.size, 0, n, cap⟩, by simp [Ghost.fresh], hcap, ?_, ?_, ?_, wide, cell, ?_⟩
    · intro k hk; simp [Ghost.fresh]; exact hk
    · intro k hk
      simp only [Nat.zero_add]
      rw [World.cell?_alloc_new]
      simp only at hk
      simp [hsz, hk]
    · intro k hk; simp
    · intro i row j x hi hj
      obtain ⟨v, hv, hr⟩ := has i row j x hi hj
      refine ⟨v, ?_, hr.mono u.le⟩
      simp only [Nat.zero_add]
      rw [World.cell?_alloc_new]; exact hv
  · rw [if_neg hi] at e; exact .inl ⟨e, fun h => h⟩

theorem HInv.newVs {G : Ghost} {w : World} {hh : Heap} (H : HInv G hh w) (rows : Rows) (n cap : Nat) (cs : Array Value) (ty : TypeId) (hcap : rows.length ≤ cap) (hsz : cs.size = cap * n)
    (wide : ∀ (i : Nat) (row : List IV), rows[i]? = some row → row.length = n) (cell : ∀ (i : Nat) (row : List IV) (j : Nat) (x : IV), rows[i]? = some row → row[j]? = some x → x.cell = true)
    (has : ∀ (i : Nat) (row : List IV) (j : Nat) (x : IV), rows[i]? = some row → row[j]? = some x → ∃ v, cs[i * n + j]? = some v ∧ R0 G x v) :
    ∃ G', G.le G' ∧ HInv G' (hh.addT G.ntk) (w.alloc (.cells cs ty)) ∧ Goes G w G' (w.alloc (.cells cs ty)) ∧
      R0 G' (.vs n rows (.own G.ntk)) (.slice (some ⟨w.heap.size, 0, none⟩) rows.length cap) := by
  have hle : rows.length * n ≤ cap * n := Nat.mul_le_mul_right _ hcap
  have u := upd_fresh H.W cs ty (fun o => if o < rows.length * n then .imm (cs.getD o undef) else if o < cap * n then .zone G.ntk else .free) none (some ⟨w.heap.size, rows.length * n, n, cap - rows.length⟩)
    (fun o v e => by
      split at e
      · rename_i h
        cases e
        simp [Array.getD, show o < cs.size by omega]
      · split at e <;> cases e)
    (fun o i e => by split at e <;> (try split at e) <;> cases e) (fun o t e => by
      split at e
      · cases e
      · split at e
        · cases e; rfl
        · cases e)
  have hx : ∀ (i : Nat) (row : List IV) (j : Nat) (x : IV), rows[i]? = some row → row[j]? = some x → i * n + j < rows.length * n := fun i row j x hi hj => by
    have h1 := get_lt hi
    have h2 := get_lt hj
    rw [wide _ _ hi] at h2
    exact idx_lt h1 (Nat.le_refl _) h2
  refine ⟨_, u.le, HInv.upd u H (fun i r e => .inl ⟨e, fun h => h⟩) (fun t e => ?_), u.goes, ?_⟩
  · simp only [Heap.addT] at e
    by_cases ht : t = G.ntk
    · subst ht
      refine .inr ⟨⟨w.heap.size, rows.length * n, n, cap - rows.length⟩, by simp [Ghost.fresh], ?_, ?_, ?_⟩
      · intro k hk
        simp only at hk
        rw [Nat.sub_mul] at hk
        simp only [Ghost.fresh, if_true]
        rw [if_neg (by omega), if_pos (by omega)]
      · intro k hk
        simp only at hk
        rw [Nat.sub_mul] at hk
        simp only
        rw [World.cell?_alloc_new]
        simp; omega
      · intro k hk; simp
    · rw [if_neg ht] at e; exact .inl ⟨e, fun h => h⟩
  · refine R0.vs (b := w.heap.size) (base := 0) (fun i j => cs.getD (i * n + j) undef) hcap (fun _ => rfl) (fun h => by cases h) ⟨fun _ => rfl, by simp [Ghost.fresh]⟩ wide cell ?_ ?_
    · intro i row j x hi hj
      simp only [Ghost.fresh, if_true, Nat.zero_add]
      rw [if_pos (hx i row j x hi hj)]
    · intro i row j x hi hj
      obtain ⟨v, hv, hr⟩ := has i row j x hi hj
      have : cs.getD (i * n + j) undef = v := by
        have hl : i * n + j < cs.size := by rw [hsz]; exact Nat.lt_of_lt_of_le (hx i row j x hi hj) hle
        rw [Array.getElem?_eq_getElem hl] at hv
        cases hv
        simp [Array.getD, hl]
      rw [this]; exact hr.mono u.le

/-- A slice in a new block with no room behind it. -/
theorem R0.full_of_own {G : Ghost} {n t : Nat} {rows : Rows} {A : Option Addr} {len : Nat} (h : R0 G (.vs n rows (.own t)) (.slice A len len)) (hl : len = rows.length) : R0 G (.vs n rows .full) (.slice A len len) := by
  subst hl
  cases h with
  | vs vals hl hA hN ht hn hc hv hr => exact .vs vals hl hA hN rfl hn hc hv hr
theorem R0.ro {G : Ghost} {n : Nat} {rows : Rows} {tag : Tag} {v : Value} (h : R0 G (.vs n rows tag) v) : R0 G (.vs n rows .ro) v := by
  cases h with
  | vs vals hl hA hN ht hn hc hv hr => exact .vs vals hl hA hN trivial hn hc hv hr
theorem HInv.less {G : Ghost} {w : World} {h k : Heap} (H : HInv G k w) (s : h.sub k) : HInv G h w := ⟨H.W, fun i r e => H.objs i r (s.1 i r e), fun t e => H.toks t (s.2 t e)⟩

/-! ### an append in place -/
theorem HInv.appVs {G : Ghost} {w : World} {hh : Heap} (H : HInv G hh w) {t n len cap : Nat} {rows more : Rows} {A : Option Addr} (ht : hh.tok t = true) (hv : R0 G (.vs n rows (.own t)) (.slice A len cap))
    (news : List Value) (hl : news.length = more.length * n) (room : rows.length + more.length ≤ cap)
    (wide : ∀ (i : Nat) (row : List IV), more[i]? = some row → row.length = n) (cell : ∀ (i : Nat) (row : List IV) (j : Nat) (x : IV), more[i]? = some row → row[j]? = some x → x.cell = true)
    (has : ∀ (i : Nat) (row : List IV) (j : Nat) (x : IV), more[i]? = some row → row[j]? = some x → ∃ v, news[i * n + j]? = some v ∧ R0 G x v) :
    ∃ b base G', (0 < cap → A = some ⟨b, base, none⟩) ∧ (∀ k, k < news.length → (w.cell? ⟨b, base + rows.length * n + k, none⟩).isSome = true) ∧ (∀ k, k < news.length → w.frozen? ⟨b, base + rows.length * n + k, none⟩ = false) ∧
      G.le G' ∧ HInv G' ((hh.delT t).addT G.ntk) (w.setCells b (base + rows.length * n) news) ∧ Goes G w G' (w.setCells b (base + rows.length * n) news) ∧
      R0 G' (.vs n (rows ++ more) (.own G.ntk)) (.slice A (rows.length + more.length) cap) := by
  cases hv with
  | @vs _ _ _ _ _ b base vals hll hA hN htag hn hc hvv hr =>
    obtain ⟨hAc, htk⟩ := htag
    obtain ⟨z, hz⟩ := H.toks t ht
    have hze : z = ⟨b, base + rows.length * n, n, cap - rows.length⟩ := by have := hz.at_; rw [htk] at this; cases this; rfl
    subst hze
    have hmul : more.length * n ≤ (cap - rows.length) * n := Nat.mul_le_mul_right _ (by omega)
    have hm2 : (rows.length + more.length) * n = rows.length * n + more.length * n := Nat.add_mul _ _ _
    have hthere : ∀ k, k < news.length → (w.cell? ⟨b, base + rows.length * n + k, none⟩).isSome = true := fun k hk => hz.there k (by show k < (cap - rows.length) * n; omega)
    have hin := World.cell?_setCells_in b news (base + rows.length * n) w hthere
    have u := upd_take H.W (own := .zone t) (B := b) (lo := base + rows.length * n) (hi := base + rows.length * n + (cap - rows.length) * n) (by simp) (by simp)
      (fun o h1 h2 => by have := hz.mine (o - (base + rows.length * n)) (by show _ < (cap - rows.length) * n; omega); simp only at this; rwa [show base + rows.length * n + (o - (base + rows.length * n)) = o by omega] at this)
      news (by omega) (fun o => if o < base + rows.length * n + more.length * n then .imm (news.getD (o - (base + rows.length * n)) undef) else .zone G.ntk)
      none (some ⟨b, base + (rows.length + more.length) * n, n, cap - (rows.length + more.length)⟩)
      (fun o v h1 h2 e => by
        split at e
        · rename_i h3
          cases e
          have hk : o - (base + rows.length * n) < news.length := by omega
          have := hin _ hk
          rw [show base + rows.length * n + (o - (base + rows.length * n)) = o by omega] at this
          rw [this]; simp [List.getD, hk]
        · cases e)
      (fun o i h1 h2 e => by split at e <;> cases e) (fun o t' h1 h2 e => by
        split at e
        · cases e
        · cases e; rfl)
    refine ⟨b, base, _, hAc, hthere, fun k hk => hz.warm k (by show k < (cap - rows.length) * n; omega), u.le, HInv.upd u H (fun i r e => .inl ⟨e, by simp⟩) (fun t' e => ?_), u.goes, ?_⟩
    · simp only [Heap.addT, Heap.delT] at e
      by_cases h1 : t' = G.ntk
      · subst h1
        have hsub : (cap - (rows.length + more.length)) * n = (cap - rows.length) * n - more.length * n := by rw [← Nat.sub_mul]; congr 1; omega
        refine .inr ⟨⟨b, base + (rows.length + more.length) * n, n, cap - (rows.length + more.length)⟩, by simp [Ghost.take], ?_, ?_, ?_⟩
        · intro k hk
          simp only at hk
          simp only [Ghost.take]
          rw [if_pos ⟨trivial, by omega, by omega⟩, if_neg (by omega)]
        · intro k hk
          simp only at hk
          rw [setCells_isSome]
          have := hz.there (more.length * n + k) (by show _ < (cap - rows.length) * n; omega)
          simp only at this ⊢
          rwa [show base + rows.length * n + (more.length * n + k) = base + (rows.length + more.length) * n + k by omega] at this
        · intro k hk
          simp only at hk
          rw [World.frozen?_setCells]
          have := hz.warm (more.length * n + k) (by show _ < (cap - rows.length) * n; omega)
          simp only at this ⊢
          rwa [show base + rows.length * n + (more.length * n + k) = base + (rows.length + more.length) * n + k by omega] at this
      · rw [if_neg h1] at e
        by_cases h2 : t' = t
        · rw [if_pos h2] at e; cases e
        · rw [if_neg h2] at e
          exact .inl ⟨e, by simpa using fun h => h2 h.symm⟩
    · have hlen : (rows ++ more).length = rows.length + more.length := List.length_append
      refine Eq.mpr (congrArg (fun k => R0 _ (.vs n (rows ++ more) (.own G.ntk)) (.slice A k cap)) hlen.symm) ?_
      refine R0.vs (b := b) (base := base) (fun i j => if i < rows.length then vals i j else news.getD ((i - rows.length) * n + j) undef) (by rw [hlen]; exact room) (fun hne => hAc (by have h0 : 0 < (rows ++ more).length := List.length_pos_iff.2 hne; omega)) hN ⟨hAc, by simp [Ghost.take, hlen]⟩ ?_ ?_ ?_ ?_
      · intro i row hi
        rw [List.getElem?_append] at hi
        split at hi
        · exact hn _ _ hi
        · exact wide _ _ hi
      · intro i row j x hi hj
        rw [List.getElem?_append] at hi
        split at hi
        · exact hc _ _ _ _ hi hj
        · exact cell _ _ _ _ hi hj
      · intro i row j x hi hj
        rw [List.getElem?_append] at hi
        split at hi
        · rename_i h1
          exact u.le.imm _ _ _ (by rw [if_pos h1]; exact hvv _ _ _ _ hi hj)
        · rename_i h1
          have h2 := get_lt hi
          have h3 := get_lt hj
          rw [wide _ _ hi] at h3
          have h4 := idx_lt h2 (Nat.le_refl _) h3
          have h5 : i * n = rows.length * n + (i - rows.length) * n := by rw [← Nat.add_mul]; congr 1; omega
          simp only [Ghost.take]
          rw [if_neg h1, if_pos ⟨trivial, by omega, by omega⟩, if_pos (by omega)]
          congr 2
          omega
      · intro i row j x hi hj
        rw [List.getElem?_append] at hi
        split at hi
        · rename_i h1
          rw [if_pos h1]; exact (hr _ _ _ _ hi hj).mono u.le
        · rename_i h1
          obtain ⟨v, hv, hr'⟩ := has _ _ _ _ hi hj
          rw [if_neg h1]
          have e : news.getD ((i - rows.length) * n + j) undef = v := by simp only [List.getD, hv, Option.getD_some]
          rw [e]
          exact hr'.mono u.le

/-! ### an object's slice from now on by value -/
theorem HInv.freeze {G : Ghost} {w : World} {hh : Heap} (H : HInv G hh w) {n id len cap : Nat} {rows : Rows} {A : Option Addr} (hid : hh.obj id = some rows) (hv : R0 G (.rs n id len) (.slice A len cap)) (hlen : len ≤ rows.length) :
    ∃ G', G.le G' ∧ HInv G' (hh.del id) w ∧ Goes G w G' w ∧ R0 G' (.vs n (rows.take len) .ro) (.slice A len cap) := by
  cases hv with
  | @rs _ _ _ p hp hl hA =>
    obtain ⟨p', ok⟩ := H.objs id rows hid
    have hpe : p' = p := by have := ok.at_; rw [hp] at this; cases this; rfl
    subst hpe
    have hmul : len * p'.n ≤ p'.cap * p'.n := Nat.mul_le_mul_right _ hl
    have u := upd_take H.W (own := .obj id) (B := p'.b) (lo := p'.off) (hi := p'.off + p'.cap * p'.n) (by simp) (by simp)
      (fun o h1 h2 => by have := ok.mine (o - p'.off) (by omega); rwa [show p'.off + (o - p'.off) = o by omega] at this)
      [] (by simp) (fun o => if o < p'.off + len * p'.n then .imm ((w.cell? ⟨p'.b, o, none⟩).getD undef) else .free) none none
      (fun o v h1 h2 e => by
        split at e
        · cases e
          have := ok.there (o - p'.off) (by omega)
          rw [show p'.off + (o - p'.off) = o by omega] at this
          obtain ⟨y, hy⟩ := Option.isSome_iff_exists.1 this
          show w.cell? _ = _
          rw [hy]; rfl
        · cases e)
      (fun o i h1 h2 e => by split at e <;> cases e) (fun o t' h1 h2 e => by split at e <;> cases e)
    have htl : (rows.take len).length = len := by simp; omega
    refine ⟨_, u.le, HInv.upd u H (fun i r e => ?_) (fun t' e => .inl ⟨e, by simp⟩), u.goes, ?_⟩
    · simp only [Heap.del] at e
      split at e
      · cases e
      · rename_i h1; exact .inl ⟨e, by simpa using fun h => h1 h.symm⟩
    · have key : R0 (G.take p'.b p'.off (p'.off + p'.cap * p'.n) (fun o => if o < p'.off + len * p'.n then .imm ((w.cell? ⟨p'.b, o, none⟩).getD undef) else .free) none none)
          (.vs p'.n (rows.take len) .ro) (.slice A (rows.take len).length p'.cap) := by
        refine R0.vs (b := p'.b) (base := p'.off) (fun i j => (w.cell? ⟨p'.b, p'.off + i * p'.n + j, none⟩).getD undef) (by rw [htl]; exact hl) (fun h => ?_) (fun h => ?_) trivial ?_ ?_ ?_ ?_
        · rcases hA with hA | ⟨_, h0⟩
          · exact hA
          · exact absurd (List.eq_nil_of_length_eq_zero (by rw [htl]; omega)) h
        · rcases hA with hA | ⟨_, h0⟩
          · rw [hA] at h; cases h
          · exact h0
        · intro i row hi
          rw [List.getElem?_take] at hi
          split at hi
          · exact ok.wide _ _ hi
          · cases hi
        · intro i row j x hi hj
          rw [List.getElem?_take] at hi
          split at hi
          · exact ok.cell _ _ _ _ hi hj
          · cases hi
        · intro i row j x hi hj
          rw [List.getElem?_take] at hi
          split at hi
          · rename_i h1
            have h3 := get_lt hj
            rw [ok.wide _ _ hi] at h3
            have h4 := idx_lt h1 (Nat.le_refl _) h3
            simp only [Ghost.take]
            rw [if_pos ⟨trivial, by omega, by omega⟩, if_pos (by omega)]
          · cases hi
        · intro i row j x hi hj
          rw [List.getElem?_take] at hi
          split at hi
          · obtain ⟨v, hv, hr⟩ := ok.has _ _ _ _ hi hj
            rw [hv]; exact hr.mono u.le
          · cases hi
      rw [htl] at key
      exact key

/-! ### an append to an object's slice, in place -/
theorem HInv.appRs {G : Ghost} {w : World} {hh : Heap} (H : HInv G hh w) {id len : Nat} {rows more : Rows} {p : Pl} (ok : ObjOK G w id rows p) (hlen : len ≤ rows.length)
    (news : List Value) (hl : news.length = more.length * p.n) (room : len + more.length ≤ p.cap)
    (wide : ∀ (i : Nat) (row : List IV), more[i]? = some row → row.length = p.n) (cell : ∀ (i : Nat) (row : List IV) (j : Nat) (x : IV), more[i]? = some row → row[j]? = some x → x.cell = true)
    (has : ∀ (i : Nat) (row : List IV) (j : Nat) (x : IV), more[i]? = some row → row[j]? = some x → ∃ v, news[i * p.n + j]? = some v ∧ R0 G x v) :
    HInv G (hh.put id (rows.take len ++ more)) (w.setCells p.b (p.off + len * p.n) news) ∧ Goes G w G (w.setCells p.b (p.off + len * p.n) news) := by
  have hmul : (len + more.length) * p.n ≤ p.cap * p.n := Nat.mul_le_mul_right _ room
  rw [Nat.add_mul] at hmul
  have u := upd_write H.W (id := id) (b := p.b) (o := p.off + len * p.n) (vs := news)
    (fun k h => by have := ok.mine (len * p.n + k) (by omega); rwa [← Nat.add_assoc] at this)
    (fun k h => by have := ok.there (len * p.n + k) (by omega); rwa [← Nat.add_assoc] at this)
  have hin : ∀ k (h : k < news.length), (w.setCells p.b (p.off + len * p.n) news).cell? ⟨p.b, p.off + len * p.n + k, none⟩ = some news[k] :=
    World.cell?_setCells_in p.b news _ w (fun k h => by have := ok.there (len * p.n + k) (by omega); rwa [← Nat.add_assoc] at this)
  have hout : ∀ o', o' < p.off + len * p.n → (w.setCells p.b (p.off + len * p.n) news).cell? ⟨p.b, o', none⟩ = w.cell? ⟨p.b, o', none⟩ :=
    fun o' h => World.cell?_setCells_out p.b news _ w _ (fun _ _ => .inl h)
  have htl : (rows.take len).length = len := by simp; omega
  refine ⟨HInv.upd u H (fun i' r e => ?_) (fun t e => .inl ⟨e, fun h => h⟩), u.goes⟩
  simp only [Heap.put] at e
  by_cases hii : i' = id
  · subst hii
    rw [if_pos rfl] at e
    cases e
    refine .inr ⟨p, ok.at_, by rw [List.length_append, htl]; exact room, ok.mine, fun k h => by rw [setCells_isSome]; exact ok.there k h, fun k h => by rw [World.frozen?_setCells]; exact ok.warm k h, fun i row hi => ?_, fun i row j x hi hj => ?_, fun i row j x hi hj => ?_⟩
    · rw [List.getElem?_append, htl] at hi
      split at hi
      · rename_i h1
        rw [List.getElem?_take, if_pos h1] at hi
        exact ok.wide _ _ hi
      · exact wide _ _ hi
    · rw [List.getElem?_append, htl] at hi
      split at hi
      · rename_i h1
        rw [List.getElem?_take, if_pos h1] at hi
        exact ok.cell _ _ _ _ hi hj
      · exact cell _ _ _ _ hi hj
    · rw [List.getElem?_append, htl] at hi
      split at hi
      · rename_i h1
        rw [List.getElem?_take, if_pos h1] at hi
        obtain ⟨v, hv, hr⟩ := ok.has _ _ _ _ hi hj
        have h3 := get_lt hj
        rw [ok.wide _ _ hi] at h3
        have h4 := idx_lt h1 (Nat.le_refl _) h3
        exact ⟨v, by rw [hout _ (by omega)]; exact hv, hr⟩
      · rename_i h1
        obtain ⟨v, hv, hr⟩ := has _ _ _ _ hi hj
        have h5 : i * p.n = len * p.n + (i - len) * p.n := by rw [← Nat.add_mul]; congr 1; omega
        have h6 := get_lt hv
        have := hin _ h6
        rw [List.getElem?_eq_getElem h6] at hv
        refine ⟨v, ?_, hr⟩
        rw [show p.off + i * p.n + j = p.off + len * p.n + ((i - len) * p.n + j) by omega, this]
        exact hv
  · rw [if_neg hii] at e
    exact .inl ⟨e, hii⟩

end VL
