/- The V layer, part 11: code, functions. -/
import Derived.Test.YtjhbkbbmhmfkbaaV10
namespace VL
open Go
variable {P : Program} {β : Base} {N : Nat} {e : Env} {L : Loc} {h : Heap} {a : Act} {w : World} {G : Ghost} {lam : Nat → Option Nat} {hh : Heap}

/-! ### code -/
inductive VX where
  | normal | exit (id : Nat) | ret

inductive VC where
  | skip | reg (ops : List VOp) (ke kl : List Nat) | regD (l : DL) (ke kl : List Nat) | seq (a b : VC) | cond (c : Opd) (a b : VC) | block (id : Nat) (a : VC) | loop (a : VC) | exit (id : Nat) | ret

def seqQ (next : Kont) (Q : VX → Kont) : VX → Kont
  | .normal => next
  | x => Q x
def blockQ (id : Nat) (Q : VX → Kont) : VX → Kont
  | .exit i => if i = id then Q .normal else Q (.exit i)
  | x => Q x
def loopQ (I : Nat → Kont) (n : Nat) (Q : VX → Kont) : VX → Kont
  | .normal => fun e L h => ∃ m e' L' h', m < n ∧ e'.le e ∧ L'.le L ∧ h'.sub h ∧ I m e' L' h'
  | x => Q x
def vc (P : Program) : VC → (VX → Kont) → Kont
  | .skip, Q => Q .normal
  | .reg ops ke kl, Q => vops P ops fun e L h => Q .normal (e.keep ke) (L.keep kl) h
  | .regD l ke kl, Q => vops P (l.map (·.2)) fun e L h => Q .normal (e.keep ke) (L.keep kl) h
  | .seq a b, Q => vc P a (seqQ (vc P b Q) Q)
  | .cond c a b, Q => fun e L h => match c.get e with
    | some (.bool t) => br t (vc P a Q e L h) (vc P b Q e L h)
    | _ => False
  | .block id a, Q => vc P a (blockQ id Q)
  | .loop a, Q => fun e L h => ∃ (I : Nat → Kont) (n : Nat), (∃ e' L' h', e'.le e ∧ L'.le L ∧ h'.sub h ∧ I n e' L' h') ∧ ∀ n e L h, I n e L h → vc P a (loopQ I n Q) e L h
  | .exit id, Q => Q (.exit id)
  | .ret, Q => Q .ret

def chkV (P : Program) (n : Nat) : Code → VC → Bool
  | .skip, .skip => true
  | .region _ ops false, .reg vs _ _ => chkOps P n ops ops.toList vs
  | .region _ ops true, .regD l _ _ => chkDr P n ops l
  | .seq a b, .seq x y => chkV P n a x && chkV P n b y
  | .cond c a b, .cond c' x y => chkX c c' && chkV P n a x && chkV P n b y
  | .block i a, .block j x => i == j && chkV P n a x
  | .loop a, .loop x => chkV P n a x
  | .exit i, .exit j => i == j
  | .ret, .ret => true
  | _, _ => false

def Conc (β : Base) (N : Nat) (Q : VX → Kont) : Exit → Act → World → Prop
  | .normal, a, w => ∃ e L h G lam hh, RelG β N e L h a w G lam hh ∧ Q .normal e L h
  | .exit id, a, w => ∃ e L h G lam hh, RelG β N e L h a w G lam hh ∧ Q (.exit id) e L h
  | .ret, a, w => ∃ e L h G lam hh, RelG β N e L h a w G lam hh ∧ Q .ret e L h
  | _, _, _ => False
theorem Conc.out (Q : VX → Kont) : LetsAny (Conc β N Q) := trivial

theorem least {p : Nat → Prop} (h : ∃ n, p n) : ∃ n, p n ∧ ∀ m, p m → n ≤ m := by
  obtain ⟨n, hn⟩ := h
  induction n using Nat.strongRecOn with
  | _ n ih =>
    by_cases hx : ∃ m, m < n ∧ p m
    · obtain ⟨m, h1, h2⟩ := hx; exact ih m h1 h2
    · exact ⟨n, hn, fun m hm => by
        rcases Nat.lt_or_ge m n with h1 | h1
        · exact absurd ⟨m, h1, hm⟩ hx
        · exact h1⟩
open Classical in
noncomputable def leastOf (p : Nat → Prop) : Nat := if h : ∃ n, p n then Classical.choose (least h) else 0
theorem leastOf_spec {p : Nat → Prop} (h : ∃ n, p n) : p (leastOf p) := by
  unfold leastOf; rw [dif_pos h]; exact (Classical.choose_spec (least h)).1
theorem leastOf_le {p : Nat → Prop} {m : Nat} (h : p m) : leastOf p ≤ m := by
  unfold leastOf; rw [dif_pos ⟨m, h⟩]; exact (Classical.choose_spec (least ⟨m, h⟩)).2 m h

theorem vc_sound (hP : P.follows .mixedOrders = true) : ∀ {c : Code} {v : VC} {Q : VX → Kont} {e : Env} {L : Loc} {h : Heap} {a : Act} {w : World} {G : Ghost} {lam : Nat → Option Nat} {hh : Heap}, chkV P N c v = true → RelG β N e L h a w G lam hh → vc P v Q e L h → c.wp P (Conc β N Q) a w := by
  intro c
  induction c with
  | skip =>
    intro v Q e L h a w G lam hh hc R hv
    cases v <;> simp only [chkV] at hc <;> first | (cases hc; done) | exact wp_skip ⟨e, L, h, G, lam, hh, R, hv⟩
  | region id ops draw =>
    intro v Q e L h a w G lam hh hc R hv
    cases draw <;> cases v <;> simp only [chkV] at hc <;> first | (cases hc; done) | skip
    · exact wp_region_list (vops_sound (Conc.out Q) (fun e' L' h' a' w' G' lam' hh' R' hk => ⟨_, _, _, G', lam', hh', R'.less (Env.keep_le _ _) (Loc.keep_le _ _) (Heap.sub_refl _), hk⟩) hc R hv)
    · exact regD_sound hP hc (Conc.out Q) (fun e' L' h' a' w' G' lam' hh' R' hk => ⟨_, _, _, G', lam', hh', R'.less (Env.keep_le _ _) (Loc.keep_le _ _) (Heap.sub_refl _), hk⟩) R hv
  | seq x y ihx ihy =>
    intro v Q e L h a w G lam hh hc R hv
    cases v <;> simp only [chkV] at hc <;> first | (cases hc; done) | skip
    rw [Bool.and_eq_true] at hc
    refine wp_seq (wp_mono (ihx hc.1 R hv) (fun ex a' w' hq => ?_))
    cases ex with
    | normal => obtain ⟨e', L', h', G', lam', hh', R', hk⟩ := hq; exact ihy hc.2 R' hk
    | exit id => exact hq
    | ret => exact hq
    | outgrown => exact hq
    | goto l => exact hq
    | panic ch => exact hq
  | cond c x y ihx ihy =>
    intro v Q e L h a w G lam hh hc R hv
    cases v <;> simp only [chkV] at hc <;> first | (cases hc; done) | skip
    simp only [Bool.and_eq_true] at hc
    simp only [vc, br_iff] at hv
    split at hv
    · rename_i t ht
      have := ((chkX_sound R hc.1.1 ht).r0 (by simp)).bool_inv
      exact wp_cond_split this (fun q => ihx hc.1.2 R (hv.1 q)) (fun q => ihy hc.2 R (hv.2 q))
    · exact hv.elim
  | block id x ih =>
    intro v Q e L h a w G lam hh hc R hv
    cases v <;> simp only [chkV] at hc <;> first | (cases hc; done) | skip
    simp only [Bool.and_eq_true, beq_iff_eq] at hc
    obtain ⟨rfl, hc⟩ := hc
    refine wp_block (wp_mono (ih hc R hv) (fun ex a' w' hq => ?_))
    cases ex with
    | normal => exact hq
    | exit i =>
      simp only [Conc, blockQ] at hq
      simp only [Exit.inBlock]
      split
      · rename_i hi; rw [if_pos hi] at hq; exact hq
      · rename_i hi; rw [if_neg hi] at hq; exact hq
    | ret => exact hq
    | outgrown => exact hq
    | goto l => exact hq
    | panic ch => exact hq
  | loop x ih =>
    intro v Q e L h a w G lam hh hc R hv
    cases v <;> simp only [chkV] at hc <;> first | (cases hc; done) | skip
    obtain ⟨I, n, ⟨e0, L0, hp0, l1, l2, l3, h0⟩, hstep⟩ := hv
    have R := R.less l1 l2 l3
    let J : Act → World → Nat → Prop := fun a w n => ∃ e L h G lam hh, RelG β N e L h a w G lam hh ∧ I n e L h
    refine wp_loop (fun a w => ∃ n, J a w n) (fun a w => leastOf (J a w)) ⟨n, e0, L0, hp0, G, lam, hh, R, h0⟩ (fun a w hI => ?_)
    have hf : J a w (leastOf (J a w)) := leastOf_spec hI
    obtain ⟨e', L', h', G', lam', hh', R', hi⟩ := hf
    refine wp_mono (ih hc R' (hstep _ _ _ _ hi)) (fun ex a2 w2 hq => ?_)
    cases ex with
    | normal =>
      obtain ⟨e2, L2, h2, G2, lam2, hh2, R2, m, e3, L3, h3, hm, s1, s2, hs, hi2⟩ := hq
      have hJ : J a2 w2 m := ⟨e3, L3, h3, G2, lam2, hh2, R2.less s1 s2 hs, hi2⟩
      exact ⟨⟨m, hJ⟩, Nat.lt_of_le_of_lt (leastOf_le hJ) hm⟩
    | exit id => exact hq
    | ret => exact hq
    | outgrown => exact hq
    | goto l => exact hq
    | panic ch => exact hq
  | exit id =>
    intro v Q e L h a w G lam hh hc R hv
    cases v <;> simp only [chkV] at hc <;> first | (cases hc; done) | skip
    rw [beq_iff_eq] at hc
    subst hc
    exact wp_exit ⟨e, L, h, G, lam, hh, R, hv⟩
  | ret =>
    intro v Q e L h a w G lam hh hc R hv
    cases v <;> simp only [chkV] at hc <;> first | (cases hc; done) | exact wp_ret ⟨e, L, h, G, lam, hh, R, hv⟩
  | _ =>
    intro v Q e L h a w G lam hh hc R hv
    cases v <;> simp only [chkV] at hc <;> cases hc

/-! ### functions -/
/-- Where a result is read: a slot; a variable in memory of one cell, of many. -/
inductive RV where
  | tmp (t : Nat) | c1 (t : Nat) | cN (t n : Nat)
def argEnv (args : List IV) : Env := fun t => args[t]?

def chkRes (P : Program) : List ResultVar → List RV → Bool
  | [], [] => true
  | .tmp t :: rs, .tmp t' :: ts => t == t' && chkRes P rs ts
  | .cell t ty :: rs, .c1 t' :: ts => t == t' && isRow? P ty == some false && chkRes P rs ts
  | .cell t ty :: rs, .cN t' n :: ts => t == t' && isRow? P ty == some true && sizeOf? P ty == some n && chkRes P rs ts
  | _, _ => false
def getRes (e : Env) (L : Loc) (h : Heap) : List RV → (List IV → Prop) → Prop
  | [], K => K []
  | .tmp t :: ts, K => match e t with
    | some v => chkP v.notLp (getRes e L h ts fun vs => K (v :: vs))
    | none => False
  | .c1 t :: ts, K => match e t with
    | some p => getRow L h p fun row o => optK row[o]? fun v => getRes e L h ts fun vs => K (v :: vs)
    | none => False
  | .cN t n :: ts, K => match e t with
    | some p => getRow L h p fun row o => o + n ≤ row.length ∧ getRes e L h ts fun vs => K (.agg ((row.drop o).take n) :: vs)
    | none => False
def tupOf : List IV → IV
  | [x] => x
  | xs => .tup xs
/-- What is left of a frame's heap at the end, and its results. -/
def retQ (rs : List RV) (Q : IV → Heap → Prop) : VX → Kont
  | .exit _, _, _, _ => False
  | _, e, L, h => getRes e L h rs fun xs => ∃ h', h'.sub h ∧ Q (tupOf xs) h'
def chkF (P : Program) (f : Nat) (v : VC) (np : Nat) (rs : List RV) : Bool :=
  match P.funcs[f]? with
  | some fn => (match fn.body with
    | some c => chkV P fn.ntmps c v && chkRes P fn.results.toList rs && decide (np ≤ fn.ntmps)
    | none => false)
  | none => false

theorem run_asAddr (ad : Addr) : (asAddr (.pointer (some ad))).run P w = .ok ad w := rfl
theorem res_sound (R : RelG β N e L h a w G lam hh) : ∀ {rv : List ResultVar} {rs : List RV} {K : List IV → Prop}, chkRes P rv rs = true → getRes e L h rs K →
    ∃ (xs : List IV) (vs : List Value), K xs ∧ (∀ f : ResultVar → Sem Value, (∀ t, f (.tmp t) = pure (a.tmps.getD t undef)) → (∀ t ty, f (.cell t ty) = (do loadVar ty (← asAddr (a.tmps.getD t undef)))) → (rv.mapM f).run P w = .ok vs w) ∧ vs.length = xs.length ∧ ∀ (j : Nat) (x : IV), xs[j]? = some x → ∃ v, vs[j]? = some v ∧ R0 G x v := by
  intro rv
  induction rv with
  | nil =>
    intro rs K hc hg
    cases rs with
    | nil => exact ⟨[], [], hg, fun f _ _ => by simp, rfl, fun j x hj => by simp at hj⟩
    | cons r rs => simp [chkRes] at hc
  | cons r rv ih =>
    intro rs K hc hg
    have fin : ∀ {K' : List IV → Prop} {rs' : List RV} {x : IV} {u : Value}, chkRes P rv rs' = true → R0 G x u → getRes e L h rs' (fun vs => K (x :: vs)) →
        (∀ f : ResultVar → Sem Value, (∀ t, f (.tmp t) = pure (a.tmps.getD t undef)) → (∀ t ty, f (.cell t ty) = (do loadVar ty (← asAddr (a.tmps.getD t undef)))) → (f r).run P w = .ok u w) →
        ∃ (xs : List IV) (vs : List Value), K xs ∧ (∀ f : ResultVar → Sem Value, (∀ t, f (.tmp t) = pure (a.tmps.getD t undef)) → (∀ t ty, f (.cell t ty) = (do loadVar ty (← asAddr (a.tmps.getD t undef)))) → ((r :: rv).mapM f).run P w = .ok vs w) ∧ vs.length = xs.length ∧ ∀ (j : Nat) (x : IV), xs[j]? = some x → ∃ v, vs[j]? = some v ∧ R0 G x v := by
      intro _ rs' x u hc' hr hg' hf
      obtain ⟨xs, vs, hk, hrun, hl, hrr⟩ := ih hc' hg'
      refine ⟨x :: xs, u :: vs, hk, fun f h1 h2 => ?_, by simp [hl], fun j y hj => ?_⟩
      · simp only [List.mapM_cons, Sem.run_bind, hf f h1 h2, Sem.run_pure, Result.andThen_ok, hrun f h1 h2]
      · cases j with
        | zero => simp at hj; subst hj; exact ⟨u, rfl, hr⟩
        | succ j => simpa using hrr j y (by simpa using hj)
    match r, rs, hc, hg with
    | .tmp t, .tmp t' :: ts, hc, hg =>
      simp only [chkRes, Bool.and_eq_true, beq_iff_eq] at hc
      obtain ⟨rfl, hc⟩ := hc
      simp only [getRes, chkP_iff] at hg
      split at hg
      · rename_i v hv
        obtain ⟨u, hu, hru⟩ := R.env _ _ hv
        refine fin (K' := K) hc (hru.r0 (notLp_ne hg.1)) hg.2 (fun f h1 h2 => ?_)
        rw [h1]; simp [Array.getD_eq_getD_getElem?, hu]
      · exact hg.elim
    | .cell t ty, .c1 t' :: ts, hc, hg =>
      simp only [chkRes, Bool.and_eq_true, beq_iff_eq] at hc
      obtain ⟨⟨rfl, h5⟩, hc⟩ := hc
      simp only [getRes, optK_def] at hg
      split at hg
      · rename_i p hv
        obtain ⟨q, hq, hrq⟩ := R.env _ _ hv
        obtain ⟨row, o, b, base, hk, ev, hrow⟩ := row_at R hrq hg
        split at hk
        · rename_i y hy
          obtain ⟨_, u, hu, hr⟩ := hrow _ _ hy
          refine fin (K' := K) hc hr hk (fun f h1 h2 => ?_)
          have hl := run_load1 (P := P) h5 hu
          simp only [Instr.loadAt, Instr.sureAddr, Sem.run_bind, Sem.run_pure, Result.andThen_ok] at hl
          have hqd : a.tmps.getD t undef = .pointer (some ⟨b, base + o, none⟩) := by simp [Array.getD_eq_getD_getElem?, hq, ev]
          rw [h2, Sem.run_bind, hqd, run_asAddr]; exact hl
        · exact hk.elim
      · exact hg.elim
    | .cell t ty, .cN t' n :: ts, hc, hg =>
      simp only [chkRes, Bool.and_eq_true, beq_iff_eq] at hc
      obtain ⟨⟨⟨rfl, h5⟩, h6⟩, hc⟩ := hc
      simp only [getRes] at hg
      split at hg
      · rename_i p hv
        obtain ⟨q, hq, hrq⟩ := R.env _ _ hv
        obtain ⟨row, o, b, base, ⟨hle, hk⟩, ev, hrow⟩ := row_at R hrq hg
        obtain ⟨v, _, hl, hr⟩ := loadN_at h5 h6 hle hrow
        refine fin (K' := K) hc hr hk (fun f h1 h2 => ?_)
        have hqd : a.tmps.getD t undef = .pointer (some ⟨b, base + o, none⟩) := by simp [Array.getD_eq_getD_getElem?, hq, ev]
        rw [h2, Sem.run_bind, hqd, run_asAddr]; exact hl
      · exact hg.elim
    | .tmp _, [], hc, _ => simp [chkRes] at hc
    | .cell _ _, [], hc, _ => simp [chkRes] at hc
    | .tmp _, .c1 _ :: _, hc, _ => simp [chkRes] at hc
    | .tmp _, .cN _ _ :: _, hc, _ => simp [chkRes] at hc
    | .cell _ _, .tmp _ :: _, hc, _ => simp [chkRes] at hc

/-- A function: its body, walked, gives its contract. -/
theorem callsV_of_vc (hP : P.follows .mixedOrders = true) {f : Nat} {v : VC} {rs : List RV} {args : List IV} {h : Heap} {Q : IV → Heap → Prop} (hc : chkF P f v args.length rs = true) (hv : vc P v (retQ rs Q) (argEnv args) Loc.nil h) : CallsV P f args h Q := by
  intro G w hh vs hI hs hA
  unfold chkF at hc
  split at hc
  case h_2 => cases hc
  rename_i fn hf
  split at hc
  case h_2 => cases hc
  rename_i c hb
  simp only [Bool.and_eq_true, decide_eq_true_eq] at hc
  obtain ⟨⟨h1, h2⟩, h3⟩ := hc
  refine calls_of_wp hf hb ?_
  have R : RelG ⟨G, w, hh, h⟩ fn.ntmps (argEnv args) Loc.nil h ⟨vs ++ Array.replicate (fn.ntmps - vs.size) undef, []⟩ w G (fun _ => none) hh := by
    refine ⟨hI, .refl G, .refl G w, hs, .refl hh h, fun i r x => ?_, fun t x => ?_, fun t row x => (by cases x), fun t t' id r r' x => (by cases x), fun t x ht => ?_, rfl, ?_⟩
    · obtain ⟨p, ok⟩ := hI.objs i r x; exact hI.W.nid _ _ ok.at_
    · obtain ⟨p, ok⟩ := hI.toks t x; exact hI.W.ntk _ _ ok.at_
    · obtain ⟨u, hu, hr⟩ := hA.2 t x ht
      refine ⟨u, ?_, .inr hr⟩
      rw [Array.getElem?_append]
      have hlt : t < vs.size := by rw [hA.1]; exact get_lt ht
      rw [if_pos hlt]; exact hu
    · simp [hA.1]; omega
  refine wp_mono (vc_sound hP h1 R hv) (fun ex a' w' hq => ?_)
  have fin : ∀ {e L h2 G' lam hh'}, RelG ⟨G, w, hh, h⟩ fn.ntmps e L h2 a' w' G' lam hh' → getRes e L h2 rs (fun xs => ∃ h', h'.sub h2 ∧ Q (tupOf xs) h') → a'.defers = [] ∧ ∃ v, (results fn a'.tmps).run P w' = .ok v w' ∧
      (∃ v' x G' hh' h', Ending.returned v = .returned v' ∧ G.le G' ∧ HInv G' hh' w' ∧ h'.sub hh' ∧ Keeps hh h hh' h' ∧ Goes G w G' w' ∧ R0 G' x v' ∧ Q x h') := by
    intro e L h2' G' lam hh' R' hk
    refine ⟨R'.defs, ?_⟩
    obtain ⟨xs, us, ⟨h', hsub, hq⟩, hrun, hl, hr⟩ := res_sound (P := P) R' h2 hk
    have hres : (results fn a'.tmps).run P w' = .ok (if hx : us.length = 1 then us[0] else .tuple us.toArray) w' := by
      unfold results
      rw [Array.mapM_eq_mapM_toList]
      simp only [Sem.run_bind, Sem.run_map]
      rw [hrun _ (fun t => rfl) (fun t ty => rfl)]
      simp only [Result.andThen_ok, Sem.run_pure, List.size_toArray, List.getElem_toArray]
    refine ⟨_, hres, ?_⟩
    have R2 := R'.less (fun _ _ x => x) (fun _ _ x => x) hsub (e' := e) (L' := L)
    refine ⟨_, tupOf xs, G', hh', h', rfl, R2.le, R2.inv, R2.sub, R2.kee, R2.goes, ?_, hq⟩
    by_cases hl1 : us.length = 1
    · rw [dif_pos hl1]
      obtain ⟨x, hx1⟩ := List.length_eq_one_iff.1 (hl.symm.trans hl1)
      obtain ⟨u, hu, hru⟩ := hr 0 x (by rw [hx1]; rfl)
      rw [List.getElem?_eq_getElem (by omega)] at hu
      have ht : tupOf xs = x := by rw [hx1]; rfl
      rw [ht]
      have hu' := Option.some.inj hu
      rw [hu']
      exact hru
    · rw [dif_neg hl1]
      have : tupOf xs = .tup xs := by
        rw [hl] at hl1
        match xs, hl1 with
        | [], _ => rfl
        | [x], hc => exact absurd rfl hc
        | _ :: _ :: _, _ => rfl
      rw [this]
      refine .tup (fun j => us.getD j undef) (by simp [hl]) (fun j x hj => ?_) (fun j x hj => ?_)
      · obtain ⟨v, hv, _⟩ := hr j x hj; simp [List.getD, hv]
      · obtain ⟨v, hv, hrr⟩ := hr j x hj; simp [List.getD, hv, hrr]
  cases ex with
  | normal => obtain ⟨e, L, h2', G', lam, hh', R', hk⟩ := hq; exact fin R' hk
  | ret => obtain ⟨e, L, h2', G', lam, hh', R', hk⟩ := hq; exact fin R' hk
  | exit id => obtain ⟨e, L, h2', G', lam, hh', R', hk⟩ := hq; exact hk.elim
  | outgrown => exact hq.elim
  | goto l => exact hq
  | panic ch => exact hq.elim

end VL
