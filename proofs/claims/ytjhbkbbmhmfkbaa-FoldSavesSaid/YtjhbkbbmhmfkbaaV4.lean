/- The V layer, part 4: more operations: calls, tuples, function values, min and max, composite literals, appends, slicing. -/
import Derived.Test.YtjhbkbbmhmfkbaaV3
namespace VL
open Go
variable {P : Program} {β : Base} {N : Nat} {e : Env} {L : Loc} {h : Heap} {a : Act} {w : World} {G : Ghost} {lam : Nat → Option Nat} {hh : Heap}

def chkXs : List Operand → List Opd → Bool
  | [], [] => true
  | o :: os, x :: xs => chkX o x && chkXs os xs
  | _, _ => false
theorem notLp_ne {x : IV} (h : x.notLp) : ∀ t o, x ≠ .lp t o := fun t o e => by rw [e] at h; exact h
theorem args_sound (R : RelG β N e L h a w G lam hh) : ∀ {os : List Operand} {xs : List Opd} {vs : List IV}, chkXs os xs = true → getArgs e xs = some vs → allOK vs → Args G vs (os.map a.eval).toArray
  | [], [], vs, _, hg, _ => by
    simp only [getArgs] at hg
    cases hg
    exact ⟨rfl, fun j x hj => by simp at hj⟩
  | o :: os, x :: xs, vs, hc, hg, hok => by
    simp only [chkXs, Bool.and_eq_true] at hc
    simp only [getArgs] at hg
    split at hg
    · rename_i v vs' hx hxs
      cases hg
      obtain ⟨hs, hr⟩ := args_sound R hc.2 hxs hok.2
      refine ⟨by simpa using hs, fun j y hj => ?_⟩
      cases j with
      | zero =>
        simp at hj
        subst hj
        exact ⟨a.eval o, by simp, (chkX_sound R hc.1 hx).r0 (notLp_ne hok.1)⟩
      | succ j => simpa using hr j y (by simpa using hj)
    · cases hg
  | [], _ :: _, _, hc, _, _ => by simp [chkXs] at hc
  | _ :: _, [], _, hc, _, _ => by simp [chkXs] at hc

theorem Args.append {xs ys : List IV} {us vs : Array Value} (hx : Args G xs us) (hy : Args G ys vs) : Args G (xs ++ ys) (us ++ vs) := by
  refine ⟨by simp [hx.1, hy.1], fun j x hj => ?_⟩
  rw [List.getElem?_append] at hj
  rw [Array.getElem?_append, hx.1]
  split at hj
  · rename_i h1; rw [if_pos h1]; exact hx.2 j x hj
  · rename_i h1; rw [if_neg h1]; exact hy.2 _ x hj

def chkO (n : Nat) (o : Oper) : Option Nat → Bool
  | some d => chkD n o d
  | none => o.dst == none
def hasBody (P : Program) (f : Nat) : Bool :=
  match P.funcs[f]? with
  | some fn => fn.body.isSome && !(fn.name == "runtime.NumGoroutine")
  | none => false
theorem hasBody_iff {f : Nat} (hb : hasBody P f = true) : HasBody P f := by
  unfold hasBody at hb
  split at hb
  · rename_i fn hf
    simp only [Bool.and_eq_true, Bool.not_eq_true'] at hb
    exact ⟨fn, hf, hb.1, hb.2⟩
  · cases hb
theorem run_callFunc {f : Nat} (hb : HasBody P f) (args : Array Value) : (callFunc f args).run P w = .ok (.enter f args) w := by
  obtain ⟨fn, hf, h1, h2⟩ := hb
  have h3 : ¬ fn.body = none := by intro hc; rw [hc] at h1; simp at h1
  have h4 : ¬ fn.name = "runtime.NumGoroutine" := by simpa using h2
  simp [callFunc, program, Sem.run, hf, h3, h4]

/-- Behind a call. -/
theorem RelG.call (R : RelG β N e L h a w G lam hh) {G' : Ghost} {w' : World} {hh' h' : Heap} (hle : G.le G') (hI : HInv G' hh' w') (hs : h'.sub hh') (hk : Keeps hh h hh' h') (hg : Goes G w G' w') : RelG β N e L h' a w' G' lam hh' :=
  { R with
    inv := hI
    le := R.le.trans hle
    goes := R.goes.trans hg
    sub := hs
    kee := R.kee.trans hk
    loc := fun t row x => let ⟨id, a1, a2, a3, a4⟩ := R.loc t row x; let ⟨b2, b3⟩ := hk.obj _ _ a2 a3; ⟨id, a1, b2, b3, a4⟩
    env := fun t x ht => let ⟨v, hv, hr⟩ := R.env t x ht; ⟨v, hv, hr.mono hle⟩ }
theorem RelG.putD (R : RelG β N e L h a w G lam hh) {o : Oper} {d : Option Nat} (hd : chkO N o d = true) {x : IV} {v : Value} (hr : RL lam G x v) : RelG β N (e.putD d x) L h (a.put o.dst v) w G lam hh := by
  cases d with
  | some d => obtain ⟨h1, h2⟩ := chkD_sound hd; rw [h1]; exact R.put h2 hr
  | none => simp only [chkO, beq_iff_eq] at hd; rw [hd]; exact R

theorem snd_calls (R : RelG β N e L h a w G lam hh) {o : Oper} {d : Option Nat} (hd : chkO N o d = true) {f : Nat} {xs : List IV} {vs : Array Value} (hA : Args G xs vs)
    (hrun : (execOp a.eval o).run P w = .ok (.enter f vs) w) {K : Kont} (hv : CallsV P f xs h fun x h' => K (e.putD d x) L h') {next : Act → World → Prop} {Q : Exit → Act → World → Prop} (_ : LetsAny Q)
    (hn : ∀ e' L' h' a' w' G' lam' hh', RelG β N e' L' h' a' w' G' lam' hh' → K e' L' h' → next a' w') : o.wp P a w next Q := by
  unfold Oper.wp
  rw [hrun]
  show Calls P f vs w _
  refine (hv G w hh vs R.inv R.sub hA).mono fun en w' he => ?_
  obtain ⟨v, x, G', hh', h', rfl, hle, hI, hs, hk, hg, hr, hK⟩ := he
  exact hn _ _ _ _ _ _ _ _ ((R.call hle hI hs hk hg).putD hd (.inr hr)) hK

def chkCall (P : Program) (n : Nat) (o : Oper) (d : Option Nat) (f : Nat) (args : List Opd) : Bool :=
  match o.op with
  | .call c => (match c.callee with
    | .value (.func g) => g == f && chkO n o d && chkXs c.args.toList args && hasBody P f
    | _ => false)
  | _ => false
theorem snd_call {o : Oper} {q : Bool} {d : Option Nat} {f : Nat} {args : List Opd} (hc : chkCall P N o d f args = true) : Snd P β N o (vop P (.call q d f args)) := by
  intro K e L h a w G lam hh next Q R hv hQ hn
  unfold chkCall at hc
  split at hc
  · rename_i c ho
    split at hc
    · rename_i g hg
      simp only [Bool.and_eq_true, beq_iff_eq] at hc
      obtain ⟨⟨⟨rfl, h1⟩, h2⟩, h3⟩ := hc
      simp only [vop, chkP_iff] at hv
      split at hv
      · rename_i vs hvs
        have hA := args_sound R h2 hvs hv.1
        refine snd_calls R h1 hA ?_ (hv.2.mono fun _ _ z => z.2) hQ hn
        have hm : (Array.map a.eval c.args) = (List.map a.eval c.args.toList).toArray := by cases c.args; simp
        have he : a.eval (.func g) = .func (.func g) #[] #[] := rfl
        simp only [execOp, ho, resolve, hg, he, Deferred.ofValue, Sem.run_bind, Sem.run_pure, Result.andThen_ok, invoke, hm, Array.empty_append, Array.append_empty]
        exact run_callFunc (hasBody_iff h3) _
      · exact hv.elim
    · cases hc
  · cases hc

theorem R0.fn_inv {f : Fn} {first cap : List IV} {v : Value} (h : R0 G (.fn f first cap) v) : ∃ fs cs, v = .func f fs cs ∧ Args G first fs ∧ Args G cap cs := by
  cases h with
  | @fn _ _ _ fs cs v1 v2 s1 s2 h1 r1 h2 r2 => exact ⟨fs, cs, rfl, ⟨s1, fun j x hj => ⟨v1 j, h1 j x hj, r1 j x hj⟩⟩, ⟨s2, fun j x hj => ⟨v2 j, h2 j x hj, r2 j x hj⟩⟩⟩

def chkCallv (n : Nat) (o : Oper) (d : Option Nat) (x : Opd) (args : List Opd) : Bool :=
  match o.op with
  | .call c => (match c.callee with
    | .value g => chkX g x && chkO n o d && chkXs c.args.toList args
    | _ => false)
  | _ => false
theorem snd_callv {o : Oper} {q : Bool} {d : Option Nat} {x : Opd} {args : List Opd} (hc : chkCallv N o d x args = true) : Snd P β N o (vop P (.callv q d x args)) := by
  intro K e L h a w G lam hh next Q R hv hQ hn
  unfold chkCallv at hc
  split at hc
  · rename_i c ho
    split at hc
    · rename_i g hg
      simp only [Bool.and_eq_true] at hc
      obtain ⟨⟨h1, h2⟩, h3⟩ := hc
      simp only [vop, chkP_iff] at hv
      split at hv
      · rename_i f first cap vs hx hvs
        have hA := args_sound R h3 hvs hv.1
        obtain ⟨fs, cs, ev, a1, a2⟩ := ((chkX_sound R h1 hx).r0 (by simp)).fn_inv
        refine snd_calls R h2 ((a1.append hA).append a2) ?_ (hv.2.2.mono fun _ _ z => z.2) hQ hn
        simp only [execOp, ho, resolve, hg, ev, Deferred.ofValue, Sem.run_bind, Sem.run_pure, Result.andThen_ok, invoke]
        have : (Array.map a.eval c.args) = (List.map a.eval c.args.toList).toArray := by cases c.args; simp
        rw [this, run_callFunc hv.2.1]
      · exact hv.elim
    · cases hc
  · cases hc

def chkExt (n : Nat) (o : Oper) (d : Nat) (x : Opd) (i : Nat) : Bool :=
  match o.op with
  | .extract x' i' => chkD n o d && chkX x' x && i' == i
  | _ => false
theorem R0.tup_inv {xs : List IV} {v : Value} (h : R0 G (.tup xs) v) : ∃ vs, v = .tuple vs ∧ Args G xs vs := by
  cases h with
  | @tup _ vs vals hs hv hr => exact ⟨vs, rfl, hs, fun j x hj => ⟨vals j, hv j x hj, hr j x hj⟩⟩
theorem snd_ext {o : Oper} {d : Nat} {x : Opd} {i : Nat} (hc : chkExt N o d x i = true) : Snd P β N o (vop P (.ext d x i)) := by
  intro K e L h a w G lam hh next Q R hv _ hn
  unfold chkExt at hc
  split at hc
  · rename_i x' i' ho
    simp only [Bool.and_eq_true, beq_iff_eq] at hc
    obtain ⟨⟨h1, h2⟩, rfl⟩ := hc
    obtain ⟨hd, hdn⟩ := chkD_sound h1
    simp only [vop, optK_def] at hv
    split at hv
    · rename_i xs hx
      obtain ⟨vs, ev, hA⟩ := ((chkX_sound R h2 hx).r0 (by simp)).tup_inv
      split at hv
      · rename_i y hy
        obtain ⟨v, hv2, hr⟩ := hA.2 _ _ hy
        refine wp_value (v := v) (w' := w) (by simp [execOp, ho, ev, Instr.extract, hv2]) ?_
        rw [hd]
        exact hn _ _ _ _ _ _ _ _ (R.put hdn (.inr hr)) hv
      · exact hv.elim
    · exact hv.elim
  · cases hc

def chkMkF (n : Nat) (o : Oper) (d f : Nat) (caps : List Opd) : Bool :=
  match o.op with
  | .makeFunc (.func g) first captured => chkD n o d && g == f && first.isEmpty && chkXs captured.toList caps
  | _ => false
theorem R0.fn_of {f : Fn} {first cap : List IV} {fs cs : Array Value} (h1 : Args G first fs) (h2 : Args G cap cs) : R0 G (.fn f first cap) (.func f fs cs) := by
  refine .fn f (fun j => fs.getD j undef) (fun j => cs.getD j undef) h1.1 h2.1 (fun j x hj => ?_) (fun j x hj => ?_) (fun j x hj => ?_) (fun j x hj => ?_)
  · obtain ⟨v, hv, _⟩ := h1.2 j x hj; simp [Array.getD_eq_getD_getElem?, hv]
  · obtain ⟨v, hv, hr⟩ := h1.2 j x hj; simp [Array.getD_eq_getD_getElem?, hv, hr]
  · obtain ⟨v, hv, _⟩ := h2.2 j x hj; simp [Array.getD_eq_getD_getElem?, hv]
  · obtain ⟨v, hv, hr⟩ := h2.2 j x hj; simp [Array.getD_eq_getD_getElem?, hv, hr]
theorem snd_mkF {o : Oper} {d f : Nat} {caps : List Opd} (hc : chkMkF N o d f caps = true) : Snd P β N o (vop P (.mkF d f caps)) := by
  intro K e L h a w G lam hh next Q R hv _ hn
  unfold chkMkF at hc
  split at hc
  · rename_i g first captured ho
    simp only [Bool.and_eq_true, beq_iff_eq] at hc
    obtain ⟨⟨⟨h1, rfl⟩, h3⟩, h4⟩ := hc
    obtain ⟨hd, hdn⟩ := chkD_sound h1
    have hf : first = #[] := by simpa using h3
    simp only [vop, chkP_iff] at hv
    split at hv
    · rename_i vs hvs
      have hA := args_sound R h4 hvs hv.1
      have hm : (Array.map a.eval captured) = (List.map a.eval captured.toList).toArray := by cases captured; simp
      refine wp_value (v := .func (.func g) #[] (Array.map a.eval captured)) (w' := w) (by simp [execOp, ho, hf, Instr.makeFunc]) ?_
      rw [hd]
      exact hn _ _ _ _ _ _ _ _ (R.put hdn (.inr (by rw [hm]; exact .fn_of ⟨rfl, fun j x hj => by simp at hj⟩ hA))) hv.2
    · exact hv.elim
  · cases hc

def chkMm (n : Nat) (o : Oper) (d : Nat) (isMax : Bool) (x y : Opd) : Bool :=
  match o.op with
  | .call c => (match c.callee, c.args.toList with
    | .builtin .min, [x', y'] => !isMax && chkD n o d && chkX x' x && chkX y' y
    | .builtin .max, [x', y'] => isMax && chkD n o d && chkX x' x && chkX y' y
    | _, _ => false)
  | _ => false
theorem snd_mm {o : Oper} {d : Nat} {isMax : Bool} {x y : Opd} (hc : chkMm N o d isMax x y = true) : Snd P β N o (vop P (.mm d isMax x y)) := by
  intro K e L h a w G lam hh next Q R hv _ hn
  unfold chkMm at hc
  split at hc
  · rename_i c ho
    split at hc
    · rename_i x' y' e1 e2
      simp only [Bool.and_eq_true, Bool.not_eq_true'] at hc
      obtain ⟨⟨⟨rfl, h1⟩, h2⟩, h3⟩ := hc
      obtain ⟨hd, hdn⟩ := chkD_sound h1
      simp only [vop, br_iff] at hv
      split at hv
      · rename_i k m k' m' hx hy
        have ex := ((chkX_sound R h2 hx).r0 (by simp)).int_inv
        have ey := ((chkX_sound R h3 hy).r0 (by simp)).int_inv
        have ha : Array.map a.eval c.args = #[.int k m, .int k' m'] := by
          have : c.args = #[x', y'] := by cases hq : c.args; rw [hq] at e2; simp at e2; rw [e2]
          rw [this]; simp [ex, ey]
        refine wp_value (v := .int k (if m' < m then m' else m)) (w' := w) (by simp [execOp, ho, resolve, e1, ha, invoke, builtin, Builtin.min_, Builtin.min2]) ?_
        rw [hd]
        exact hn _ _ _ _ _ _ _ _ (R.put hdn (.inr (.int _ _))) (by
          have e9 : (if m' < m then m' else m) = min m m' := by split <;> omega
          rw [e9]; simpa using hv)
      · exact hv.elim
    · rename_i x' y' e1 e2
      simp only [Bool.and_eq_true] at hc
      obtain ⟨⟨⟨rfl, h1⟩, h2⟩, h3⟩ := hc
      obtain ⟨hd, hdn⟩ := chkD_sound h1
      simp only [vop, br_iff] at hv
      split at hv
      · rename_i k m k' m' hx hy
        have ex := ((chkX_sound R h2 hx).r0 (by simp)).int_inv
        have ey := ((chkX_sound R h3 hy).r0 (by simp)).int_inv
        have ha : Array.map a.eval c.args = #[.int k m, .int k' m'] := by
          have : c.args = #[x', y'] := by cases hq : c.args; rw [hq] at e2; simp at e2; rw [e2]
          rw [this]; simp [ex, ey]
        refine wp_value (v := .int k (if m' > m then m' else m)) (w' := w) (by simp [execOp, ho, resolve, e1, ha, invoke, builtin, Builtin.max_, Builtin.max2]) ?_
        rw [hd]
        exact hn _ _ _ _ _ _ _ _ (R.put hdn (.inr (.int _ _))) (by
          have e9 : (if m' > m then m' else m) = max m m' := by split <;> omega
          rw [e9]; simpa using hv)
      · exact hv.elim
    · cases hc
  · cases hc

def eqTy (P : Program) (k : Nat) (t : TypeId) (y : Operand) : Bool :=
  match k, P.underlying t with
  | 0, some .bool => true
  | 1, some (.pointer _) => true
  | 2, some (.interface _) => (match y with | .const _ => true | _ => false)
  | _, _ => false
def chkEqv (P : Program) (n : Nat) (o : Oper) (d k : Nat) (neg : Bool) (x y : Opd) : Bool :=
  match o.op with
  | .binOp op t x' y' _ => op == (if neg then .neq else .eql) && chkD n o d && chkX x' x && chkX y' y && eqTy P k t y'
  | _ => false
theorem run_eqv {t : TypeId} {neg : Bool} {x y : Value} {xo yo : Operand} {b : Bool} (hg : (eqGuard (if neg then .neq else .eql) t xo yo x y).run P w = .ok () w) (he : (Op.equal t x y).run P w = .ok b w)
    (hb : ∀ op, op = .eql ∨ op = .neq → Go.binOp op t x y = (if op == .eql then (do pure (.bool (← Op.equal t x y))) else (do pure (.bool (!(← Op.equal t x y)))))) :
    (do eqGuard (if neg then .neq else .eql) t xo yo x y; Go.binOp (if neg then .neq else .eql) t x y).run P w = .ok (.bool (if neg then !b else b)) w := by
  rw [Sem.run_bind, hg]
  simp only [Result.andThen_ok]
  rw [hb _ (by cases neg <;> simp)]
  cases neg <;> simp [he]
theorem equal_succ (t : TypeId) (x y : Value) : Op.equal t x y = Op.equalIn (9999 + 1) t x y := rfl
theorem run_eq_bool {d : Nat} {t : TypeId} (hu : P.underlying t = some .bool) (x y : Bool) : (Op.equalIn (d + 1) t (.bool x) (.bool y)).run P w = .ok (x == y) w := by
  rw [Op.equalIn, Sem.run_bind, run_underlying hu w]; rfl
theorem run_eq_nilp {d : Nat} {t u : TypeId} (hu : P.underlying t = some (.pointer u)) (y : Option Addr) : (Op.equalIn (d + 1) t (.pointer none) (.pointer y)).run P w = .ok y.isNone w := by
  rw [Op.equalIn, Sem.run_bind, run_underlying hu w]; rfl
theorem run_eq_pnil {d : Nat} {t u : TypeId} (hu : P.underlying t = some (.pointer u)) (y : Addr) : (Op.equalIn (d + 1) t (.pointer (some y)) (.pointer none)).run P w = .ok false w := by
  rw [Op.equalIn, Sem.run_bind, run_underlying hu w]; rfl
theorem run_eq_nili {d : Nat} {t : TypeId} {ms : Array (String × TypeId)} (hu : P.underlying t = some (.interface ms)) : (Op.equalIn (d + 1) t .nilIface .nilIface).run P w = .ok true w := by
  rw [Op.equalIn, Sem.run_bind, run_underlying hu w]; rfl
theorem run_eq_inil {d : Nat} {t t' : TypeId} {v : Value} {ms : Array (String × TypeId)} (hu : P.underlying t = some (.interface ms)) : (Op.equalIn (d + 1) t (.iface t' v) .nilIface).run P w = .ok false w := by
  rw [Op.equalIn, Sem.run_bind, run_underlying hu w]; rfl
theorem R0.iface_inv {t : TypeId} {x : IV} {v : Value} (h : R0 G (.iface t x) v) : ∃ u, v = .iface t u ∧ R0 G x u := by
  cases h with
  | iface _ h => exact ⟨_, rfl, h⟩
theorem snd_eqv {o : Oper} {d k : Nat} {neg : Bool} {x y : Opd} (hc : chkEqv P N o d k neg x y = true) : Snd P β N o (vop P (.eqv d k neg x y)) := by
  intro K e L h a w G lam hh next Q R hv _ hn
  unfold chkEqv at hc
  split at hc
  · rename_i op t x' y' _ ho
    simp only [Bool.and_eq_true, beq_iff_eq] at hc
    obtain ⟨⟨⟨⟨rfl, h1⟩, h2⟩, h3⟩, h4⟩ := hc
    obtain ⟨hd, hdn⟩ := chkD_sound h1
    simp only [vop] at hv
    split at hv
    · rename_i u v hx hy
      split at hv
      · rename_i b hb
        have rx := chkX_sound R h2 hx
        have ry := chkX_sound R h3 hy
        have fin : (do eqGuard (if neg then .neq else .eql) t x' y' (a.eval x') (a.eval y'); Go.binOp (if neg then .neq else .eql) t (a.eval x') (a.eval y')).run P w = .ok (.bool (if neg then !b else b)) w → o.wp P a w next Q := by
          intro hrun
          refine wp_value (v := .bool (if neg then !b else b)) (w' := w) ?_ ?_
          · simp only [execOp, ho, Sem.run_bind] at hrun ⊢
            rw [hrun]; rfl
          · rw [hd]; exact hn _ _ _ _ _ _ _ _ (R.put hdn (.inr (.bool _))) hv
        apply fin
        unfold eqTy at h4
        unfold eqV at hb
        split at hb
        · rw [((rx).r0 (by simp)).bool_inv, ((ry).r0 (by simp)).bool_inv]
          split at h4
          · rename_i hu
            cases hb
            refine run_eqv (by cases neg <;> simp [eqGuard]) ?_ (fun op ho => by rcases ho with rfl | rfl <;> simp [Go.binOp])
            rw [equal_succ]; exact run_eq_bool hu _ _
          · rename_i h0 _; cases h0
          · rename_i h0 _; cases h0
          · cases h4
        · rw [((rx).r0 (by simp)).nilp_inv, ((ry).r0 (by simp)).nilp_inv]
          split at h4
          · rename_i h0 _; cases h0
          · rename_i hu
            cases hb
            refine run_eqv (by cases neg <;> simp [eqGuard]) ?_ (fun op ho => by rcases ho with rfl | rfl <;> simp [Go.binOp])
            rw [equal_succ]; exact run_eq_nilp hu none
          · rename_i h0 _; cases h0
          · cases h4
        · obtain ⟨p, _, e1⟩ := ((rx).r0 (by simp)).ptr_inv
          rw [e1, ((ry).r0 (by simp)).nilp_inv]
          split at h4
          · rename_i h0 _; cases h0
          · rename_i hu
            cases hb
            refine run_eqv (by cases neg <;> simp [eqGuard]) ?_ (fun op ho => by rcases ho with rfl | rfl <;> simp [Go.binOp])
            rw [equal_succ]; exact run_eq_pnil hu _
          · rename_i h0 _; cases h0
          · cases h4
        · obtain ⟨p, _, e1⟩ := ((ry).r0 (by simp)).ptr_inv
          rw [e1, ((rx).r0 (by simp)).nilp_inv]
          split at h4
          · rename_i h0 _; cases h0
          · rename_i hu
            cases hb
            refine run_eqv (by cases neg <;> simp [eqGuard]) ?_ (fun op ho => by rcases ho with rfl | rfl <;> simp [Go.binOp])
            rw [equal_succ]; exact run_eq_nilp hu (some _)
          · rename_i h0 _; cases h0
          · cases h4
        · rw [((rx).r0 (by simp)).nili_inv, ((ry).r0 (by simp)).nili_inv]
          split at h4
          · rename_i h0 _; cases h0
          · rename_i h0 _; cases h0
          · rename_i hu
            split at h4
            · cases hb
              refine run_eqv (by cases neg <;> simp [eqGuard]) ?_ (fun op ho => by rcases ho with rfl | rfl <;> simp [Go.binOp])
              rw [equal_succ]; exact run_eq_nili hu
            · cases h4
          · cases h4
        · obtain ⟨u2, e1, _⟩ := ((rx).r0 (by simp)).iface_inv
          rw [e1, ((ry).r0 (by simp)).nili_inv]
          split at h4
          · rename_i h0 _; cases h0
          · rename_i h0 _; cases h0
          · rename_i hu
            cases hb
            refine run_eqv (by cases neg <;> simp [eqGuard]) ?_ (fun op ho => by rcases ho with rfl | rfl <;> simp [Go.binOp])
            rw [equal_succ]; exact run_eq_inil hu
          · cases h4
        · cases hb
      · exact hv.elim
    · exact hv.elim
  · cases hc

end VL
