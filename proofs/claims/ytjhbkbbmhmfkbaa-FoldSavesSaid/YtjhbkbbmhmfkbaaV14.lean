/- The V layer, part 14: from a contract to a given row: worlds that a call leaves as they were; a law of a row of numbers and a number. -/
import Derived.Test.YtjhbkbbmhmfkbaaV11
import Derived.ChangeSlices
import Derived.ChangeSame
import Derived.JoinedOf
import Derived.JoinedAt
import Derived.RowKit
import Derived.Handed
namespace VL
open Go Go.ChangeShapes Go.WideShapes Go.ChangeAt Go.RowKit

/-- All that there is stays as it is. -/
def G0 (w : World) : Ghost := ⟨fun b o => match w.cell? ⟨b, o, none⟩ with | some v => .imm v | none => .free, fun _ => none, fun _ => none, 0, 0⟩
theorem cell?_beyond {w : World} {b o : Nat} (h : w.heap.size ≤ b) : w.cell? ⟨b, o, none⟩ = none := by
  have : w.heap[b]? = none := Array.getElem?_eq_none h
  unfold World.cell?
  simp only [this]
theorem G0_cl {w : World} {b o : Nat} {v : Value} (h : w.cell? ⟨b, o, none⟩ = some v) : (G0 w).cl b o = .imm v := by
  simp only [G0, h]
theorem G0_inv (w : World) : HInv (G0 w) Heap.emp w where
  W :=
    { imm := fun b o v h => by
        simp only [G0] at h
        split at h
        · rename_i u hu
          cases h
          exact hu
        · cases h
      bnd := fun b o h => by simp only [G0, cell?_beyond h]
      ido := fun b o i h => by
        simp only [G0] at h
        split at h <;> cases h
      idt := fun b o i h => by
        simp only [G0] at h
        split at h <;> cases h
      nid := fun i p h => by cases h
      ntk := fun i p h => by cases h }
  objs := fun i r h => by cases h
  toks := fun t h => by cases h
theorem G0_quiet (w : World) (b : Nat) : Quiet (G0 w) b := fun o => by
  cases h : w.cell? ⟨b, o, none⟩ with
  | none => exact .inl (by simp only [G0, h])
  | some v => exact .inr ⟨v, by simp only [G0, h]⟩
/-- What was there is there as it was. -/
structure Old (w w' : World) : Prop where
  os : w'.os = w.os
  output : w'.output = w.output
  size : w.heap.size ≤ w'.heap.size
  block : ∀ b, b < w.heap.size → w'.heap[b]? = w.heap[b]?
theorem Old.keptBut {w w' : World} (h : Old w w') (may : MemPlace → Prop) : w.keptBut w' may := by
  refine ⟨h.os, h.output, fun i hi => ?_⟩
  rw [h.block i hi]
  split
  · rename_i h1 h2
    rw [h1] at h2
    cases h2
    exact ⟨rfl, rfl, rfl, fun _ _ => rfl⟩
  · rename_i h1 h2
    rw [h1] at h2
    cases h2
    exact .inr ⟨rfl, rfl⟩
  · rfl
theorem Old.cell {w w' : World} (h : Old w w') {a : Addr} {v : Value} (hv : w.cell? a = some v) : w'.cell? a = some v := by
  obtain ⟨b, o, s⟩ := a
  rcases Nat.lt_or_ge b w.heap.size with hb | hb
  · have := h.block b hb
    unfold World.cell? at hv ⊢
    simp only [this]
    exact hv
  · have hs := World.cell?_spot hv
    simp only at hs
    subst hs
    rw [cell?_beyond hb] at hv
    cases hv
theorem Old.frozen {w w' : World} (h : Old w w') {a : Addr} (ha : a.block < w.heap.size) : w'.frozen? a = w.frozen? a := by
  unfold World.frozen?
  rw [h.block _ ha]
theorem start_calls {P : Program} {f : Nat} {args : List IV} {vs : Array Value} {w : World} {Q : IV → Heap → Prop} (c : CallsV P f args Heap.emp Q) (hA : Args (G0 w) args vs) :
    Calls P f vs w fun e w' => ∃ v x G' h', e = .returned v ∧ Old w w' ∧ R0 G' x v ∧ Q x h' :=
  (c (G0 w) w Heap.emp vs (G0_inv w) (Heap.sub_refl _) hA).mono fun _ _ ⟨v, x, G', _, h', e1, _, _, _, _, g, r, q⟩ =>
    ⟨v, x, G', h', e1, ⟨g.os, g.output, g.size, fun b hb => (g.block b hb (G0_quiet w b)).1⟩, r, q⟩

section
variable {H : Type} {enc : TypeId × Value → H} {P : Program}
theorem post_of_old {f : Func} {s : ChangeSpec} {apart fresh handsOn again : Bool} {W W' : World} {args : Array Value} {v : Value} {ds gs : List (DataW H)} {before pa pv : List MemPlace}
    (hW : DataW.Whole enc P f.params.toList s.vars apart W args.toList ds gs before)
    (hres : ∀ (b : Nat) (sp : Nat → Bool) (hd : Bool), DataW.TrodAll enc P W' b sp hd f.resultTypes.toList (v.resultList f.resultTypes.size) (s.fn H (ds ++ gs)).results [])
    (hargs : ∀ sp : Nat → Bool, (∀ p ∈ before, sp p.block = true) → DataW.TrodAll enc P W' 0 sp true f.params.toList args.toList (s.fn H (ds ++ gs)).args pa)
    (hvars : ∀ sp : Nat → Bool, (∀ p ∈ before, sp p.block = true) → DataW.TrodVars enc P W' sp s.vars (s.fn H (ds ++ gs)).vars pv)
    (hps : before = pa ++ pv) (ho : Old W W')
    (hok : ∀ (j : Nat) (t : TypeId) (r : Value), f.resultTypes[j]? = some t → (v.resultList f.resultTypes.size)[j]? = some r → Value.okWide P W' .any 0 t r) :
    s.post enc P f apart fresh handsOn again W args v W' := by
  have hold : ∀ p ∈ before, (fun b => decide (b < W.heap.size)) p.block = true := fun p hp => by simpa using hW.lt p hp
  have hlt : ∀ p ∈ before, p.block < W.heap.size := hW.lt
  refine ⟨ds, gs, before, [], pa, pv, hW, hres _ _ _, hargs _ hold, hvars _ hold, World.keptBut_mono (fun p hp => ⟨hp, ?_⟩) (ho.keptBut (· ∈ before)), fun _ => ?_⟩
  · rw [hps, List.mem_append] at hp
    exact Or.inr hp
  · obtain ⟨_, _, _, _, _, hz, hn⟩ := hW
    refine ⟨hok, _, _, ([] ++ pa) ++ pv, ⟨[] ++ pa, pv, trodAll_append (hargs _ (fun _ _ => rfl)) (hres _ _ _), hvars _ (fun _ _ => rfl), rfl, ?_, ?_⟩, ?_⟩
    · intro b off hp
      have hp2 : MemPlace.cell b off ∈ before := by rw [hps]; simpa using hp
      rw [ho.frozen (hlt _ hp2)]
      exact hz b off hp2
    · intro ha
      have := hn ha
      rw [hps] at this
      simpa using this
    · intro p hp _
      rw [hps]
      simpa using hp
end
/-- A row of numbers that came in. -/
theorem ints_arg {w : World} {A : Option Addr} {len cap : Nat} {zs : List Int} (hl : len ≤ zs.length) (hlc : len ≤ cap) (hN : A = none → cap = 0)
    (hc : ∀ a, A = some a → ∀ i, i < zs.length → w.cell? (a.add i) = some (.int .i64 (zs.getD i 0))) (hA : 0 < len → ∃ a, A = some a) : R0 (G0 w) (.vs 1 ((zs.take len).map fun x => [IV.int .i64 x]) .ro) (.slice A len cap) := by
  have hlen : ((zs.take len).map fun x => [IV.int .i64 x]).length = len := by simp; omega
  have key : ∀ b base : Nat, (0 < len → A = some ⟨b, base, none⟩) → R0 (G0 w) (.vs 1 ((zs.take len).map fun x => [IV.int .i64 x]) .ro) (.slice A len cap) := by
    intro b base hb
    have := R0.vs (G := G0 w) (n := 1) (rows := (zs.take len).map fun x => [IV.int .i64 x]) (tag := .ro) (A := A) (cap := cap) (b := b) (base := base) (fun i _ => .int .i64 (zs.getD i 0)) (by omega)
      (fun hne => hb (by
        rcases Nat.eq_zero_or_pos len with q | q
        · exact absurd (List.eq_nil_of_length_eq_zero (by omega)) hne
        · exact q)) hN trivial (fun i row hi => by
          simp only [List.getElem?_map, Option.map_eq_some_iff] at hi
          obtain ⟨x, _, rfl⟩ := hi
          rfl)
      (fun i row j x hi hj => by
        simp only [List.getElem?_map, Option.map_eq_some_iff] at hi
        obtain ⟨y, _, rfl⟩ := hi
        cases j with
        | zero => simp at hj; subst hj; rfl
        | succ j => simp at hj)
      (fun i row j x hi hj => by
        simp only [List.getElem?_map, Option.map_eq_some_iff] at hi
        obtain ⟨y, hy, rfl⟩ := hi
        have hlt : i < len := by
          have := (List.getElem?_eq_some_iff.1 hy).1
          rw [List.length_take] at this
          omega
        cases j with
        | zero =>
          apply G0_cl
          have := hc _ (hb (by omega)) i (by omega)
          rw [add_plain] at this
          simpa using this
        | succ j => simp at hj)
      (fun i row j x hi hj => by
        simp only [List.getElem?_map, Option.map_eq_some_iff] at hi
        obtain ⟨y, hy, rfl⟩ := hi
        have hlt : i < len := by
          have := (List.getElem?_eq_some_iff.1 hy).1
          rw [List.length_take] at this
          omega
        cases j with
        | zero =>
          simp at hj
          subst hj
          rw [List.getElem?_take_of_lt hlt] at hy
          rw [List.getD_eq_getElem?_getD, hy]
          exact .int _ _
        | succ j => simp at hj)
    rw [hlen] at this
    exact this
  rcases Nat.eq_zero_or_pos len with q | q
  · exact key 0 0 (fun h => by omega)
  · obtain ⟨a, ha⟩ := hA q
    have h0 := hc a ha 0 (by omega)
    obtain ⟨b, off, spot⟩ := a
    have hspot : spot = none := by simpa [Addr.add] using World.cell?_spot h0
    subst hspot
    exact key b off (fun _ => ha)
theorem int_wf {n : Int} (h : (Lit.int .i64 n).wf = true) : inr n := by
  simp [Lit.wf, IntKind.min, IntKind.max, IntKind.signed, IntKind.bits] at h
  constructor <;> omega
/-- A law of a row of numbers and a number: its contract says that it is true. -/
theorem law_tape {C : Checked} {os : Os} {f : Nat} {fn : Func} {s : ChangeSpec} {fresh handsOn again : Bool} {t1 t2 t3 t4 : TypeId} {H : Type} {enc : TypeId × Value → H}
    (own : ownKnob C.prog.godebug = none) (started : os.Started) (noInit : C.prog.inits.idxOf? f = none) (hfn : C.prog.funcs[f]? = some fn)
    (hp : fn.params = #[t1, t3]) (hr : fn.resultTypes = #[t4]) (u1 : C.prog.underlying t1 = some (.slice t2)) (u2 : C.prog.underlying t2 = some (.int .i64)) (u3 : C.prog.underlying t3 = some (.int .i64)) (u4 : C.prog.underlying t4 = some .bool) (hc2 : C.prog.cellsOf t2 = 1)
    (hs : ∀ H d1 d2, s.fn H [d1, d2] = { results := [.lit (.bool true)], args := [d1, d2] }) (hv : s.vars = [])
    (witness : ∃ (w : World) (tape : Tape) (i : Input), w.os = os ∧ (w.forCall tape i).Shaped C.prog ∧ i.vars = [] ∧ Input.okWide C.prog (w.forCall tape i) .any w.heap.size f i ∧
      s.pre6 enc C.prog fn [] false (w.forCall tape i).memory i.args ∧ ({} : Assume).holds C.prog (lone (Frame.enter C.prog f i.args .normal) [] (w.forCall tape i)))
    (law : ∀ (xs : List Int) (n : Int), (∀ x ∈ xs, inr x) → inr n → CallsV C.prog f [.vs 1 (xs.map fun x => [IV.int .i64 x]) .ro, .int .i64 n] Heap.emp (fun r h' => r = .bool true ∧ h' = Heap.emp)) :
    ReturnsInHanded {} C os f .any (s.pre6 enc C.prog fn [] false) (s.post enc C.prog fn false fresh handsOn again) := by
  refine returnsInHanded_of_change own started noInit hfn witness ?_
  intro W base args ds gs before hval0 hW _ _
  have hval : ∀ (j : Nat) t v, fn.params[j]? = some t → args[j]? = some v → Value.okWide C.prog W .any base t v := hval0
  have hW' := hW
  obtain ⟨p, q, hA0, hV, rfl, _, _⟩ := hW
  rw [hp] at hA0 hval
  rw [hv] at hV
  obtain ⟨v0, v1, d0, d1, p0, p1, rfl, rfl, rfl, h0, h1⟩ := trodAll_two hA0
  obtain ⟨rfl, rfl⟩ := trodVars_none hV
  obtain ⟨n, rfl, rfl, rfl, hwn⟩ := open_int u3 (hval 1 t3 v1 rfl rfl) h1
  obtain ⟨a0, len, cap, rfl⟩ := okWide_slice u1 (hval 0 t1 v0 rfl rfl)
  obtain ⟨fuel, hf⟩ := h0
  simp only [List.append_nil] at hW'
  have res : ∀ d, (s.fn H ([d, .lit (.int .i64 n)] ++ [])) = { results := [.lit (.bool true)], args := [d, .lit (.int .i64 n)] } := fun d => hs H _ _
  rcases open_ints u1 u2 hc2 hf with ⟨hcs, hx⟩ | ⟨a, len', cap', zs, hcs, _, hl, hm, hz, hx, hcell, hwz⟩
  · simp [Value.cells] at hcs
    obtain ⟨rfl, rfl, rfl⟩ := hcs
    simp only [Prod.mk.injEq] at hx
    obtain ⟨rfl, rfl⟩ := hx
    have hA : Args (G0 W) [.vs 1 (([] : List Int).map fun x => [IV.int .i64 x]) .ro, .int .i64 n] #[.slice none 0 0, .int .i64 n] := by
      refine ⟨rfl, fun j x hj => ?_⟩
      match j, hj with
      | 0, hj => cases hj; exact ⟨_, rfl, ints_arg (zs := []) (len := 0) (by simp) (by omega) (fun _ => rfl) (fun a ha => by cases ha) (fun h => by omega)⟩
      | 1, hj => cases hj; exact ⟨_, rfl, .int _ _⟩
    refine (start_calls (law [] n (by simp) (int_wf hwn)) hA).mono fun e W' ⟨v, x, G', h', he, ho, hrv, hx, _⟩ => ?_
    subst hx
    cases hrv
    refine ⟨_, he, post_of_old (pa := []) (pv := []) hW' (fun _ _ _ => ?_) (fun sp _ => ?_) (fun _ _ => ?_) (by simp) ho (ok_one hr rfl (okWide_bool_mk u4 true))⟩
    · rw [hr, res]; exact trodAll_mk1 (shut_bool u4 true)
    · rw [hp, res]; exact trodAll_mk2 (shut_slice_nil u1) (shut_int u3 hwn)
    · rw [hv, res]; rfl
  · simp [Value.cells] at hcs
    obtain ⟨rfl, rfl, rfl⟩ := hcs
    simp only [Prod.mk.injEq] at hx
    obtain ⟨rfl, rfl⟩ := hx
    simp only [if_true] at hz
    have hA : Args (G0 W) [.vs 1 ((zs.take len).map fun x => [IV.int .i64 x]) .ro, .int .i64 n] #[.slice (some a) len cap, .int .i64 n] := by
      refine ⟨rfl, fun j x hj => ?_⟩
      match j, hj with
      | 0, hj => cases hj; exact ⟨_, rfl, ints_arg (by omega) hl (fun h => by cases h) (fun a' ha => by cases ha; exact hcell) (fun _ => ⟨_, rfl⟩)⟩
      | 1, hj => cases hj; exact ⟨_, rfl, .int _ _⟩
    refine (start_calls (law (zs.take len) n (fun x hx => int_wf (hwz x (List.mem_of_mem_take hx))) (int_wf hwn)) hA).mono fun e W' ⟨v, x, G', h', he, ho, hrv, hx, _⟩ => ?_
    subst hx
    cases hrv
    refine ⟨_, he, post_of_old (pa := MemPlace.row a zs.length) (pv := []) hW' (fun _ _ _ => ?_) (fun sp hsp => ?_) (fun _ _ => ?_) (by simp) ho (ok_one hr rfl (okWide_bool_mk u4 true))⟩
    · rw [hr, res]; exact trodAll_mk1 (shut_bool u4 true)
    · rw [hp, res]
      have hcell' : ∀ i, i < zs.length → W'.cell? (a.add i) = some (.int .i64 (zs.getD i 0)) := fun i hi => ho.cell (hcell i hi)
      have t0 : DataW.Trod enc C.prog W' 0 sp true t1 (.slice (some a) len cap) (.slice (lits .i64 (zs.take len)) (lits .i64 (zs.drop len))) (MemPlace.row a zs.length) := by
        by_cases hz0 : zs.length = 0
        · have hc0 : cap = 0 := by omega
          have hl0 : len = 0 := by omega
          subst hc0; subst hl0
          have t0 := shut_ints (enc := enc) (w := W') (base := 0) (spare := sp) (held := true) (a := a) (len := 0) (cap := 0) (zs := zs) 0 u1 u2 hc2 (Nat.zero_le _) (Nat.le_refl _) hm (by simp [hz0]) hcell' hwz
          exact ⟨2, by simpa [Value.cells] using t0⟩
        · have hspb : sp a.block = true := by
            have := hsp (.cell a.block a.off) (by
              have hm0 : MemPlace.cell a.block a.off ∈ MemPlace.row a zs.length := MemPlace.mem_row.2 ⟨0, by omega, by simp⟩
              first | exact hm0 | (simp; exact hm0))
            exact this
          have t0 := shut_ints (enc := enc) (w := W') (base := 0) (spare := sp) (held := true) (a := a) (len := len) (cap := cap) (zs := zs) 0 u1 u2 hc2 (Nat.zero_le _) hl hm (by simp [hspb, hz]) hcell' hwz
          exact ⟨2, by simpa [Value.cells] using t0⟩
      have := trodAll_mk2 t0 (shut_int (w := W') (enc := enc) (base := 0) (spare := sp) (held := true) u3 hwn)
      simpa using this
    · rw [hv, res]; rfl
end VL
