/- The V layer, part 6b: slices by reference from nil, zeros, frozen; '==' of structs; interfaces; conversions; arrays. -/
import Derived.Test.YtjhbkbbmhmfkbaaV6
import Derived.Laws.StructEq
import Derived.Laws.MakeOwn
namespace VL
open Go
variable {P : Program} {β : Base} {N : Nat} {e : Env} {L : Loc} {h : Heap} {a : Act} {w : World} {G : Ghost} {lam : Nat → Option Nat} {hh : Heap}

/-- An object of no place, for a slice that is nil. -/
theorem HInv.noObj (H : HInv G hh w) (n : Nat) : ∃ G', G.le G' ∧ HInv G' (hh.put G.nid []) w ∧ Goes G w G' w ∧ G'.obj G.nid = some ⟨0, 0, n, 0⟩ := by
  have u := upd_take H.W (own := .obj 0) (B := 0) (lo := 0) (hi := 0) (by simp) (by simp) (fun o h1 h2 => by omega) [] (by simp) (fun _ => .free) (some ⟨0, 0, n, 0⟩) none
    (fun o v h1 h2 _ => by omega) (fun o v h1 h2 _ => by omega) (fun o v h1 h2 _ => by omega)
  have hcl : ∀ b' o', (G.take 0 0 0 (fun _ => .free) (some ⟨0, 0, n, 0⟩) none).cl b' o' = G.cl b' o' := fun b' o' => by simp [Ghost.take]
  refine ⟨_, u.le, ⟨u.W, fun i r hi => ?_, fun t ht => ?_⟩, u.goes, by simp [Ghost.take]⟩
  · simp only [Heap.put] at hi
    split at hi
    · rename_i he
      cases hi
      subst he
      exact ⟨⟨0, 0, n, 0⟩, by simp [Ghost.take], by simp, fun k hk => by simp at hk, fun k hk => by simp at hk, fun k hk => by simp at hk, fun i row hi => by simp at hi, fun i row j x hi => by simp at hi, fun i row j x hi => by simp at hi⟩
    · obtain ⟨p, ok⟩ := H.objs i r hi
      exact ⟨p, u.le.obj _ _ ok.at_, ok.le, fun k hk => by rw [hcl]; exact ok.mine k hk, ok.there, ok.warm, ok.wide, ok.cell, fun i row j x a1 a2 => let ⟨v, b1, b2⟩ := ok.has i row j x a1 a2; ⟨v, b1, b2.mono u.le⟩⟩
  · obtain ⟨z, ok⟩ := H.toks t ht
    exact ⟨z, u.le.tok _ _ ok.at_, fun k hk => by rw [hcl]; exact ok.mine k hk, ok.there, ok.warm⟩

def chkNilR (n : Nat) (o : Oper) (d : Nat) : Bool :=
  match o.op with
  | .move y | .assign y => chkD n o d && (match y with
    | .const (.slice none 0 0) => true
    | _ => false)
  | _ => false
theorem snd_nilR {o : Oper} {d m : Nat} (hc : chkNilR N o d = true) : Snd P β N o (vop P (.nilR d m)) := by
  intro K e L h a w G lam hh next Q R hv _ hn
  have key : ∀ y, (chkD N o d && (match y with | .const (.slice none 0 0) => true | _ => false)) = true → (execOp a.eval o).run P w = .ok (.value (a.eval y)) w → o.wp P a w next Q := by
    intro y hc hr
    rw [Bool.and_eq_true] at hc
    obtain ⟨hd, hdn⟩ := chkD_sound hc.1
    have h2 := hc.2
    split at h2
    case h_2 => cases h2
    obtain ⟨G', hle, hI, hg, ho⟩ := R.inv.noObj m
    have hfresh := sub_none R.sub (R.inv.none_of_ge (Nat.le_refl G.nid))
    simp only [vop] at hv
    have hv := hv G.nid hfresh
    refine wp_value hr ?_
    rw [hd]
    exact hn _ _ _ _ _ _ _ _ ((R.newH hle hI hg).put hdn (.inr (R0.rs (p := ⟨0, 0, m, 0⟩) ho (Nat.le_refl _) (.inr ⟨rfl, rfl⟩)))) hv
  unfold chkNilR at hc
  split at hc
  · rename_i y ho; exact key y hc (by simp [execOp, ho])
  · rename_i y ho; exact key y hc (by simp [execOp, ho])
  · cases hc

theorem HInv.noTok (H : HInv G hh w) (n : Nat) : ∃ G', G.le G' ∧ HInv G' (hh.addT G.ntk) w ∧ Goes G w G' w ∧ G'.tok G.ntk = some ⟨0, 0, n, 0⟩ := by
  have u := upd_take H.W (own := .obj 0) (B := 0) (lo := 0) (hi := 0) (by simp) (by simp) (fun o h1 h2 => by omega) [] (by simp) (fun _ => .free) none (some ⟨0, 0, n, 0⟩)
    (fun o v h1 h2 _ => by omega) (fun o v h1 h2 _ => by omega) (fun o v h1 h2 _ => by omega)
  have hcl : ∀ b' o', (G.take 0 0 0 (fun _ => .free) none (some ⟨0, 0, n, 0⟩)).cl b' o' = G.cl b' o' := fun b' o' => by simp [Ghost.take]
  refine ⟨_, u.le, ⟨u.W, fun i r hi => ?_, fun t ht => ?_⟩, u.goes, by simp [Ghost.take]⟩
  · obtain ⟨p, ok⟩ := H.objs i r hi
    exact ⟨p, u.le.obj _ _ ok.at_, ok.le, fun k hk => by rw [hcl]; exact ok.mine k hk, ok.there, ok.warm, ok.wide, ok.cell, fun i row j x a1 a2 => let ⟨v, b1, b2⟩ := ok.has i row j x a1 a2; ⟨v, b1, b2.mono u.le⟩⟩
  · simp only [Heap.addT] at ht
    split at ht
    · rename_i he
      subst he
      exact ⟨⟨0, 0, n, 0⟩, by simp [Ghost.take], fun k hk => by simp at hk, fun k hk => by simp at hk, fun k hk => by simp at hk⟩
    · obtain ⟨z, ok⟩ := H.toks t ht
      exact ⟨z, u.le.tok _ _ ok.at_, fun k hk => by rw [hcl]; exact ok.mine k hk, ok.there, ok.warm⟩
theorem snd_nilO {o : Oper} {d m : Nat} (hc : chkNilR N o d = true) : Snd P β N o (vop P (.nilO d m)) := by
  intro K e L h a w G lam hh next Q R hv _ hn
  have key : ∀ y, (chkD N o d && (match y with | .const (.slice none 0 0) => true | _ => false)) = true → (execOp a.eval o).run P w = .ok (.value (a.eval y)) w → o.wp P a w next Q := by
    intro y hc hr
    rw [Bool.and_eq_true] at hc
    obtain ⟨hd, hdn⟩ := chkD_sound hc.1
    have h2 := hc.2
    split at h2
    case h_2 => cases h2
    obtain ⟨G', hle, hI, hg, ho⟩ := R.inv.noTok m
    have hfresh : h.tok G.ntk = false := sub_tok R.sub (R.inv.tok_of_ge (Nat.le_refl _))
    simp only [vop] at hv
    have hv := hv G.ntk hfresh
    refine wp_value hr ?_
    rw [hd]
    refine hn _ _ _ _ _ _ _ _ ((R.addT hle hI hg R.oldT).put hdn (.inr ?_)) hv
    exact R0.vs (A := none) (cap := 0) (b := 0) (base := 0) (rows := []) (fun _ _ => undef) (Nat.le_refl _) (fun h => absurd rfl h) (fun _ => rfl) ⟨fun h => absurd h (Nat.lt_irrefl 0), by simpa using ho⟩ (fun _ _ h => by simp at h) (fun _ _ _ _ h => by simp at h) (fun _ _ _ _ h => by simp at h) (fun _ _ _ _ h => by simp at h)
  unfold chkNilR at hc
  split at hc
  · rename_i y ho; exact key y hc (by simp [execOp, ho])
  · rename_i y ho; exact key y hc (by simp [execOp, ho])
  · cases hc

/-- An object goes. -/
theorem RelG.delH (R : RelG β N e L h a w G lam hh) {G' : Ghost} {w' : World} {id : Nat} {rows : Rows} (hid : h.obj id = some rows) (hle : G.le G') (hI : HInv G' (hh.del id) w') (hg : Goes G w G' w') :
    RelG β N e L (h.del id) a w' G' lam (hh.del id) := by
  refine { R with inv := hI, le := R.le.trans hle, goes := R.goes.trans hg, sub := ⟨fun i r x => ?_, fun t x => R.sub.2 t x⟩, kee := ⟨fun i r p q => ?_, fun t p q => R.kee.tok t p q⟩, loc := fun t row x => ?_, env := fun t x ht => ?_ }
  · simp only [Heap.del] at x ⊢
    split at x
    · cases x
    · rename_i e1; rw [if_neg e1]; exact R.sub.1 i r x
  · obtain ⟨x, y⟩ := R.kee.obj i r p q
    have hne : i ≠ id := fun hc => by rw [hc, hid] at y; cases y
    simp only [Heap.del]
    rw [if_neg hne, if_neg hne]
    exact ⟨x, y⟩
  · obtain ⟨id', a1, a2, a3, a4⟩ := R.loc t row x
    have hne : id' ≠ id := fun hc => by rw [hc, hid] at a3; cases a3
    simp only [Heap.del]
    exact ⟨id', a1, by rw [if_neg hne]; exact a2, by rw [if_neg hne]; exact a3, a4⟩
  · obtain ⟨v, hv, hr⟩ := R.env t x ht
    exact ⟨v, hv, hr.mono hle⟩

theorem snd_frz {o : Oper} {d m : Nat} {x : Opd} (hc : chkMov N o d x = true) : Snd P β N o (vop P (.frz d m x)) := by
  intro K e L h a w G lam hh next Q R hv _ hn
  have key : ∀ y, (chkD N o d && chkX y x) = true → (execOp a.eval o).run P w = .ok (.value (a.eval y)) w → o.wp P a w next Q := by
    intro y hc hr
    rw [Bool.and_eq_true] at hc
    obtain ⟨hd, hdn⟩ := chkD_sound hc.1
    simp only [vop, chkP_iff, optK_def] at hv
    split at hv
    · rename_i n1 id len hx
      obtain ⟨rfl, hv⟩ := hv
      split at hv
      · rename_i rows hid
        have rx := (chkX_sound R hc.2 hx).r0 (by simp)
        obtain ⟨A, p, ev, _⟩ := rx.rs_inv
        rw [ev] at rx
        obtain ⟨G', hle, hI, hg, hr2⟩ := R.inv.freeze (R.sub.1 _ _ hid) rx hv.1
        refine wp_value hr ?_
        rw [hd, ev]
        exact hn _ _ _ _ _ _ _ _ ((R.delH hid hle hI hg).put hdn (.inr hr2)) hv.2
      · exact hv.elim
    · rename_i n1 rows tag hx
      obtain ⟨rfl, hv⟩ := hv
      refine wp_value hr ?_
      rw [hd]
      exact hn _ _ _ _ _ _ _ _ (R.put hdn (.inr ((chkX_sound R hc.2 hx).r0 (by simp)).ro)) hv
    · exact hv.elim
  unfold chkMov at hc
  split at hc
  · rename_i y ho; exact key y hc (by simp [execOp, ho])
  · rename_i y ho; exact key y hc (by simp [execOp, ho])
  · cases hc

def chkMkI (P : Program) (n : Nat) (o : Oper) (d : Nat) (t : TypeId) (x : Opd) : Bool :=
  match o.op with
  | .makeInterface t' y => t' == t && chkD n o d && chkX y x && (match P.underlying t with
    | some (.interface _) => false
    | some _ => true
    | none => false)
  | _ => false
theorem snd_mkI {o : Oper} {d : Nat} {t : TypeId} {x : Opd} (hc : chkMkI P N o d t x = true) : Snd P β N o (vop P (.mkI d t x)) := by
  intro K e L h a w G lam hh next Q R hv _ hn
  unfold chkMkI at hc
  split at hc
  · rename_i t' y ho
    simp only [Bool.and_eq_true, beq_iff_eq] at hc
    obtain ⟨⟨⟨rfl, h1⟩, h2⟩, h3⟩ := hc
    obtain ⟨hd, hdn⟩ := chkD_sound h1
    simp only [vop, chkP_iff] at hv
    split at hv
    · rename_i v hx
      have rx := (chkX_sound R h2 hx).r0 (notLp_ne hv.1)
      have hrun : (Instr.makeInterface t' (a.eval y)).run P w = .ok (.iface t' (a.eval y)) w := by
        cases hu : P.underlying t' with
        | none => rw [hu] at h3; cases h3
        | some u =>
          rw [hu] at h3
          cases u <;> first | (simp [Instr.makeInterface, run_underlying hu]; done) | (cases h3; done)
      refine wp_value (v := .iface t' (a.eval y)) (w' := w) (by simp [execOp, ho, hrun]) ?_
      rw [hd]
      exact hn _ _ _ _ _ _ _ _ (R.put hdn (.inr (.iface t' rx))) hv.2
    · exact hv.elim
  · cases hc

theorem snd_bad {o : Oper} {d : Option Nat} : Snd P β N o (vop P (.bad d)) := by
  intro K e L h a w G lam hh next Q R hv _ hn
  exact hv.elim

def chkCap (P : Program) (n : Nat) (o : Oper) (d : Nat) (x : Opd) : Bool :=
  match o.op with
  | .call c => (match c.callee, c.args.toList, c.argTypes.toList with
    | .builtin .cap, [x'], [t] => chkD n o d && chkX x' x && (elem? P t).isSome
    | _, _, _ => false)
  | _ => false
theorem snd_cap {o : Oper} {d : Nat} {x : Opd} (hc : chkCap P N o d x = true) : Snd P β N o (vop P (.cap d x)) := by
  intro K e L h a w G lam hh next Q R hv _ hn
  unfold chkCap at hc
  split at hc
  · rename_i c ho
    split at hc
    case h_2 => cases hc
    rename_i x' t e1 e2 e3
    have ec := call_eq e1 e2 e3
    subst ec
    simp only [Bool.and_eq_true] at hc
    obtain ⟨⟨h1, h2⟩, h3⟩ := hc
    obtain ⟨hd, hdn⟩ := chkD_sound h1
    obtain ⟨el, hel⟩ := Option.isSome_iff_exists.1 h3
    have hu := elem?_eq hel
    simp only [vop] at hv
    split at hv
    · rename_i n' rows hx
      obtain ⟨A, cap, b, base, ev, hl, hA, hN, ht, _⟩ := ((chkX_sound R h2 hx).r0 (by simp)).vs_inv
      have hcap : cap = rows.length := ht
      subst hcap
      refine wp_value (v := .int .i64 rows.length) (w' := w) (by simp [execOp, ho, resolve, invoke, builtin, ev, Builtin.cap_, run_underlying hu, goInt]) ?_
      rw [hd]
      exact hn _ _ _ _ _ _ _ _ (R.put hdn (.inr (.int _ _))) hv
    · exact hv.elim
  · cases hc

def chkUn (n : Nat) (o : Oper) (d : Nat) (op : UnOp) (x : Opd) : Bool :=
  match o.op with
  | .unOp op' _ y => op' == op && chkD n o d && chkX y x
  | _ => false
theorem snd_un {o : Oper} {d : Nat} {op : UnOp} {x : Opd} (hc : chkUn N o d op x = true) : Snd P β N o (vop P (.un d op x)) := by
  intro K e L h a w G lam hh next Q R hv _ hn
  unfold chkUn at hc
  split at hc
  · rename_i op' t y ho
    simp only [Bool.and_eq_true, beq_iff_eq] at hc
    obtain ⟨⟨rfl, h1⟩, h2⟩ := hc
    obtain ⟨hd, hdn⟩ := chkD_sound h1
    simp only [vop] at hv
    split at hv
    · rename_i k m hx
      have ex := ((chkX_sound R h2 hx).r0 (by simp)).int_inv
      split at hv
      · simp only [binI] at hv
        have hv := ovf_out hv
        refine wp_value (v := .int k (k.wrap (0 - m))) (w' := w) (by simp [execOp, ho, ex, Op.unary, Op.intArith]) ?_
        rw [hd]
        exact hn _ _ _ _ _ _ _ _ (R.put hdn (.inr (.int _ _))) hv
      · simp only [binI] at hv
        refine wp_value (w' := w) (by simp only [execOp, ho, ex, Op.unary, Op.intBits]; simp; rfl) ?_
        rw [hd]
        exact hn _ _ _ _ _ _ _ _ (R.put hdn (.inr (.int _ _))) hv
      · exact hv.elim
    · exact hv.elim
  · cases hc

def chkCvi (P : Program) (n : Nat) (o : Oper) (d : Nat) (k : IntKind) (x : Opd) : Bool :=
  match o.op with
  | .convert src dst y => chkD n o d && chkX y x && (P.underlying src).isSome && (match P.underlying dst with
    | some (.int k') => k' == k
    | _ => false)
  | _ => false
theorem snd_cvi {o : Oper} {d : Nat} {k : IntKind} {x : Opd} (hc : chkCvi P N o d k x = true) : Snd P β N o (vop P (.cvi d k x)) := by
  intro K e L h a w G lam hh next Q R hv _ hn
  unfold chkCvi at hc
  split at hc
  · rename_i src dst y ho
    simp only [Bool.and_eq_true] at hc
    obtain ⟨⟨⟨h1, h2⟩, h3⟩, h4⟩ := hc
    obtain ⟨hd, hdn⟩ := chkD_sound h1
    obtain ⟨us, hus⟩ := Option.isSome_iff_exists.1 h3
    split at h4
    · rename_i k' hud
      rw [beq_iff_eq] at h4
      subst h4
      simp only [vop] at hv
      split at hv
      · rename_i k2 m hx
        have hv := ovf_out hv
        have ex := ((chkX_sound R h2 hx).r0 (by simp)).int_inv
        have hrun : (Go.convert src dst (.int k2 m)).run P w = .ok (.int k' (k'.wrap m)) w := by
          unfold Go.convert
          simp only [Sem.run_bind, run_underlying hus, run_underlying hud, Result.andThen_ok]
          cases us <;> rfl
        refine wp_value (v := .int k' (k'.wrap m)) (w' := w) (by simp [execOp, ho, ex, hrun]) ?_
        rw [hd]
        exact hn _ _ _ _ _ _ _ _ (R.put hdn (.inr (.int _ _))) hv
      · exact hv.elim
    · cases h4
  · cases hc

def arr? (P : Program) (t : TypeId) : Option (Nat × TypeId) :=
  match P.underlying t with
  | some (.array n e) => some (n, e)
  | _ => none
theorem arr?_eq {t el len : Nat} (h : arr? P t = some (len, el)) : P.underlying t = some (.array len el) := by
  unfold arr? at h
  split at h
  · cases h; assumption
  · cases h
def chkIdxP (P : Program) (n : Nat) (o : Oper) (d m len : Nat) (x i : Opd) : Bool :=
  match o.op with
  | .indexAddr t x' i' => chkD n o d && chkX x' x && chkX i' i && (match arr? P t with
    | some (len', el) => len' == len && sizeOf? P el == some m
    | none => false)
  | _ => false
theorem run_idxP {t e : TypeId} {m len : Nat} {k : IntKind} {i : Int} {b base : Nat} (hu : P.underlying t = some (.array len e)) (hs : sizeOf? P e = some m) (h0 : 0 ≤ i) (h1 : i < len) :
    (Instr.indexAt t (.pointer (some ⟨b, base, none⟩)) (.int k i)).run P w = .ok (.pointer (some ⟨b, base + i.toNat * m, none⟩)) w := by
  simp [Instr.indexAt, asIntOf, run_underlying hu, h0, h1, run_sizeOf hs, Instr.sureAddr, Addr.add_mid]
theorem snd_idxP {o : Oper} {d m len : Nat} {x i : Opd} (hc : chkIdxP P N o d m len x i = true) : Snd P β N o (vop P (.idxP d m len x i)) := by
  intro K e L h a w G lam hh next Q R hv _ hn
  unfold chkIdxP at hc
  split at hc
  · rename_i t x' i' ho
    simp only [Bool.and_eq_true] at hc
    obtain ⟨⟨⟨h1, h2⟩, h3⟩, h4⟩ := hc
    obtain ⟨hd, hdn⟩ := chkD_sound h1
    split at h4
    case h_2 => cases h4
    rename_i len' el hel
    simp only [Bool.and_eq_true, beq_iff_eq] at h4
    obtain ⟨rfl, h5⟩ := h4
    have hu := arr?_eq hel
    simp only [vop] at hv
    split at hv
    · rename_i id r o' k q hx hi
      obtain ⟨h0, h6, hv⟩ := hv
      have ei := ((chkX_sound R h3 hi).r0 (by simp)).int_inv
      obtain ⟨p, hp, ev⟩ := ((chkX_sound R h2 hx).r0 (by simp)).ptr_inv
      refine wp_value (w' := w) (by simp only [execOp, ho, ev, ei, Sem.run_bind, run_idxP hu h5 h0 h6, Result.andThen_ok, Sem.run_pure]; rfl) ?_
      rw [hd]
      exact hn _ _ _ _ _ _ _ _ (R.put hdn (.inr (by rw [Nat.add_assoc]; exact .ptr hp))) hv
    · rename_i t' o' k q hx hi
      obtain ⟨h0, h6, hv⟩ := hv
      have ei := ((chkX_sound R h3 hi).r0 (by simp)).int_inv
      obtain ⟨id, p, hl, hp, ev⟩ := (chkX_sound R h2 hx).lp_inv
      refine wp_value (w' := w) (by simp only [execOp, ho, ev, ei, Sem.run_bind, run_idxP hu h5 h0 h6, Result.andThen_ok, Sem.run_pure]; rfl) ?_
      rw [hd]
      exact hn _ _ _ _ _ _ _ _ (R.put hdn (.inl ⟨t', o' + q.toNat * m, id, p, rfl, hl, hp, by rw [Nat.add_assoc]⟩)) hv
    · rename_i row o' k q hx hi
      obtain ⟨h0, h6, hv⟩ := hv
      have ei := ((chkX_sound R h3 hi).r0 (by simp)).int_inv
      obtain ⟨b, base, ev, hr, _⟩ := ((chkX_sound R h2 hx).r0 (by simp)).pel_inv
      refine wp_value (w' := w) (by simp only [execOp, ho, ev, ei, Sem.run_bind, run_idxP hu h5 h0 h6, Result.andThen_ok, Sem.run_pure]; rfl) ?_
      rw [hd]
      exact hn _ _ _ _ _ _ _ _ (R.put hdn (.inr (by rw [Nat.add_assoc]; exact hr _))) hv
    · exact hv.elim
  · cases hc

def scalar? (P : Program) (t : TypeId) : Option (Option IntKind) :=
  match P.underlying t with
  | some (.int k) => some (some k)
  | some .bool => some none
  | _ => none
theorem run_part_scalar {t : TypeId} {ok : Option IntKind} (hs : scalar? P t = some ok) {cs : Array Value} {off : Nat} {v : Value} (hv : cs[off]? = some v) : (part t cs off).run P w = .ok v w := by
  unfold scalar? at hs
  cases hu : P.underlying t with
  | none => simp [hu] at hs
  | some u => rw [hu] at hs; cases u <;> first | (cases hs; done) | simp [part, isAgg, run_underlying hu, hv]
def chkIdxV (P : Program) (n : Nat) (o : Oper) (d len : Nat) (x i : Opd) : Bool :=
  match o.op with
  | .index t x' i' => chkD n o d && chkX x' x && chkX i' i && (match arr? P t with
    | some (len', el) => len' == len && (scalar? P el).isSome && sizeOf? P el == some 1
    | none => false)
  | _ => false
theorem snd_idxV {o : Oper} {d len : Nat} {x i : Opd} (hc : chkIdxV P N o d len x i = true) : Snd P β N o (vop P (.idxV d len x i)) := by
  intro K e L h a w G lam hh next Q R hv _ hn
  unfold chkIdxV at hc
  split at hc
  · rename_i t x' i' ho
    simp only [Bool.and_eq_true] at hc
    obtain ⟨⟨⟨h1, h2⟩, h3⟩, h4⟩ := hc
    obtain ⟨hd, hdn⟩ := chkD_sound h1
    split at h4
    case h_2 => cases h4
    rename_i len' el hel
    simp only [Bool.and_eq_true, beq_iff_eq] at h4
    obtain ⟨⟨rfl, h5⟩, h6⟩ := h4
    obtain ⟨ok, hok⟩ := Option.isSome_iff_exists.1 h5
    have hu := arr?_eq hel
    simp only [vop, optK_def] at hv
    split at hv
    · rename_i xs k q hx hi
      obtain ⟨h0, h7, hv⟩ := hv
      split at hv
      · rename_i y hy
        have ei := ((chkX_sound R h3 hi).r0 (by simp)).int_inv
        obtain ⟨vs, ev, hl, hr⟩ := ((chkX_sound R h2 hx).r0 (by simp)).agg_inv
        obtain ⟨_, v, hv2, hr2⟩ := hr _ _ hy
        have hrun : (Instr.index t (.agg vs.toArray) (.int k q)).run P w = .ok v w := by
          simp [Instr.index, asIntOf, run_underlying hu, h0, h7, run_sizeOf h6, run_part_scalar hok (w := w) (cs := vs.toArray) (off := q.toNat) (v := v) (by simpa using hv2)]
        refine wp_value (v := v) (w' := w) (by simp [execOp, ho, ev, ei, hrun]) ?_
        rw [hd]
        exact hn _ _ _ _ _ _ _ _ (R.put hdn (.inr hr2)) hv
      · exact hv.elim
    · exact hv.elim
  · cases hc

def chkEqNil (P : Program) (n : Nat) (o : Oper) (d : Nat) (neg : Bool) (x : Opd) : Bool :=
  match o.op with
  | .binOp op t x' y' _ => op == (if neg then .neq else .eql) && chkD n o d && chkX x' x && (elem? P t).isSome && (match y' with
    | .const (.slice none 0 0) => true
    | _ => false)
  | _ => false
theorem snd_eqNil {o : Oper} {d : Nat} {neg : Bool} {x : Opd} (hc : chkEqNil P N o d neg x = true) : Snd P β N o (vop P (.eqNil d neg x)) := by
  intro K e L h a w G lam hh next Q R hv _ hn
  unfold chkEqNil at hc
  split at hc
  · rename_i op t x' y' _ ho
    simp only [Bool.and_eq_true, beq_iff_eq] at hc
    obtain ⟨⟨⟨⟨rfl, h1⟩, h2⟩, h3⟩, h4⟩ := hc
    obtain ⟨hd, hdn⟩ := chkD_sound h1
    obtain ⟨el, hel⟩ := Option.isSome_iff_exists.1 h3
    have hu := elem?_eq hel
    split at h4
    case h_2 => cases h4
    simp only [vop] at hv
    split at hv
    · rename_i n' rows tag hx
      obtain ⟨A, cap, b, base, ev, hl, hA, hN, ht, _⟩ := ((chkX_sound R h2 hx).r0 (by simp)).vs_inv
      have hv := hv A.isNone (fun q => by
        cases A with
        | some ad => simp at q
        | none =>
          have := hN rfl
          exact List.eq_nil_of_length_eq_zero (by omega))
      have he : (Op.equal t (.slice A rows.length cap) (.slice none 0 0)).run P w = .ok A.isNone w := by
        rw [equal_succ, Op.equalIn, Sem.run_bind, run_underlying hu w]
        cases A <;> rfl
      have hrun := run_eqv (P := P) (w := w) (t := t) (neg := neg) (x := .slice A rows.length cap) (y := .slice none 0 0) (xo := x') (yo := .const (.slice none 0 0)) (by cases neg <;> simp [eqGuard]) he (fun op ho => by rcases ho with rfl | rfl <;> simp [Go.binOp])
      refine wp_value (v := .bool (if neg then !A.isNone else A.isNone)) (w' := w) ?_ ?_
      · have e2 : a.eval (.const (.slice none 0 0)) = .slice none 0 0 := rfl
        simp only [execOp, ho, ev, e2, Sem.run_bind] at hrun ⊢
        rw [hrun]; rfl
      · rw [hd]; exact hn _ _ _ _ _ _ _ _ (R.put hdn (.inr (.bool _))) hv
    · exact hv.elim
  · cases hc

/-! ### zeros -/
theorem R0.rs_of {id len n cap b : Nat} (h : G.obj id = some ⟨b, 0, n, cap⟩) (hl : len ≤ cap) : R0 G (.rs n id len) (.slice (some ⟨b, 0, none⟩) len cap) := R0.rs (p := ⟨b, 0, n, cap⟩) h hl (.inl rfl)
theorem RelG.newZ (R : RelG β N e L h a w G lam hh) {m len cap : Nat} {z : List IV} {zs : List Value} (hz : Cells G z zs) (hm : z.length = m) (hlen : len ≤ cap) (cs : Array Value) (hcs : ∀ k, k < len * m → cs[k]? = some (zs.getD (k % m) undef)) (hsz : cs.size = cap * m) (ty : TypeId) :
    ∃ G', RelG β N e L (h.put G.nid (List.replicate len z)) a (w.alloc (.cells cs ty)) G' lam (hh.put G.nid (List.replicate len z)) ∧ R0 G' (.rs m G.nid len) (.slice (some ⟨w.heap.size, 0, none⟩) len cap) := by
  have H := RowsOf.replicate hz hm len
  obtain ⟨G', hle, _, ho, hI, hg⟩ := R.inv.newObj (List.replicate len z) m cap cs ty (by simpa using hlen) hsz H.wide H.cell (fun i row j x hi hj => by
    obtain ⟨v, hv, hr⟩ := H.has i row j x hi hj
    have hlt := get_lt hv
    simp only [Array.toList_map, List.length_map, Array.toList_range, List.length_range] at hlt
    simp only [Array.toList_map, List.getElem?_map, Array.toList_range, List.getElem?_range hlt, Option.map_some, Option.some.injEq] at hv
    exact ⟨v, by rw [hcs _ hlt, hv], hr⟩)
  exact ⟨G', R.newH hle hI hg, R0.rs_of ho hlen⟩

theorem zero_info {el m bytes : Nat} {zs : List Value} (hs : sizeOf? P el = some m) (hb : bytesOf? P el = some bytes) (hz : zeroOf? P el = some zs) :
    ∃ inf zv, P.info? el = some inf ∧ inf.zero = some zv ∧ inf.size = m ∧ inf.bytes = bytes ∧ zv.cells.toList = zs := by
  unfold sizeOf? at hs
  unfold bytesOf? at hb
  unfold zeroOf? at hz
  cases hi : P.info? el with
  | none => simp [hi] at hs
  | some inf =>
    rw [hi] at hs hb hz
    simp only [Option.map_some, Option.some.injEq, Option.bind_some] at hs hb hz
    cases hz2 : inf.zero with
    | none => simp [hz2] at hz
    | some zv => exact ⟨inf, zv, rfl, hz2, hs, hb, by simpa [hz2] using hz⟩
theorem zero_at {zv : Value} {zs : List Value} {m k : Nat} (hz : zv.cells.toList = zs) (hm : zs.length = m) (h0 : 0 < m) : zv.cells[k % zv.cells.size]! = zs.getD (k % m) undef := by
  have hsz : zv.cells.size = m := by rw [← hm, ← hz]; simp
  have hk : k % m < zv.cells.size := by rw [hsz]; exact Nat.mod_lt _ h0
  rw [hsz, getElem!_pos zv.cells (k % m) hk, ← hz]
  simp [List.getD, hk]

def chkMkS (P : Program) (n : Nat) (o : Oper) (d m bytes : Nat) (z : List IV) (x : Opd) : Bool :=
  match o.op with
  | .makeSlice t x' y' => (match elem? P t with
    | some el => chkD n o d && chkX x' x && chkX y' x && sizeOf? P el == some m && bytesOf? P el == some bytes && decide (0 < m) && decide (0 < bytes) && z.length == m && (match zeroOf? P el with | some vs => chkCs vs z | none => false)
    | none => false)
  | _ => false
theorem snd_mkS {o : Oper} {d m bytes : Nat} {z : List IV} {x : Opd} (hc : chkMkS P N o d m bytes z x = true) : Snd P β N o (vop P (.mkS d m bytes z x)) := by
  intro K e L h a w G lam hh next Q R hv _ hn
  unfold chkMkS at hc
  split at hc
  case h_2 => cases hc
  rename_i t x' y' ho
  split at hc
  case h_2 => cases hc
  rename_i el hel
  simp only [Bool.and_eq_true, beq_iff_eq, decide_eq_true_eq] at hc
  obtain ⟨⟨⟨⟨⟨⟨⟨⟨h1, h2⟩, h3⟩, h4⟩, h5⟩, h6⟩, h7⟩, h8⟩, h9⟩ := hc
  obtain ⟨hd, hdn⟩ := chkD_sound h1
  have hu := elem?_eq hel
  split at h9
  case h_2 => cases h9
  rename_i zs hzs
  obtain ⟨hl, hx9⟩ := chkCs_sound (G := G) h9
  have hz : Cells G z zs := ⟨hl, hx9⟩
  obtain ⟨inf, zv, i1, i2, i3, i4, i5⟩ := zero_info h4 h5 hzs
  simp only [vop] at hv
  split at hv
  · rename_i k c hx
    obtain ⟨hc0, hcb, hv⟩ := hv
    have e1 := ((chkX_sound R h2 hx).r0 (by simp)).int_inv
    have e2 := ((chkX_sound R h3 hx).r0 (by simp)).int_inv
    have hb1 : (1 : Int) ≤ bytes := by omega
    have hc63 : c ≤ 140737488355328 := by
      have := Int.mul_le_mul_of_nonneg_left hb1 hc0
      omega
    have hrun := run_make (P := P) w t el inf zv hu i1 i2 k k c c hc0 (Int.le_refl _) (by rw [i4, Int.mul_comm]; omega) (by omega)
    have hm9 : zs.length = m := hl.trans h8
    obtain ⟨G', R', hr⟩ := R.newZ hz h8 (Nat.le_refl c.toNat) (madeCells zv.cells (c.toNat * inf.size)) (fun q hq => by
      rw [i3]
      simp only [madeCells, Array.getElem?_map, Array.getElem?_range, hq, if_true, Option.map_some, Option.some.injEq]
      exact zero_at i5 hm9 h6) (by rw [size_madeCells, i3]) el
    refine wp_value (w' := w.alloc (.cells (madeCells zv.cells (c.toNat * inf.size)) el)) (by simp only [execOp, ho, e1, e2, Sem.run_bind, hrun, Result.andThen_ok, Sem.run_pure]; rfl) ?_
    rw [hd]
    exact hn _ _ _ _ _ _ _ _ (R'.put hdn (.inr hr)) (hv _ (sub_none R.sub (R.inv.none_of_ge (Nat.le_refl _))))
  · exact hv.elim

def chkAppZ (P : Program) (n : Nat) (o : Oper) (d m bytes : Nat) (z : List IV) (x k : Opd) : Bool :=
  match o.op with
  | .call c => (match c.callee, c.args.toList, c.argTypes.toList with
    | .builtin .append, [x', y'], [t, t2] => (match elem? P t, P.underlying t2 with
      | some el, some (.int _) => chkD n o d && chkX x' x && chkX y' k && sizeOf? P el == some m && bytesOf? P el == some bytes && decide (0 < m) && decide (0 < bytes) && z.length == m && (match zeroOf? P el with | some vs => chkCs vs z | none => false)
      | _, _ => false)
    | _, _, _ => false)
  | _ => false
theorem run_appZ {t tn ty el c0 : Nat} {k kn : IntKind} {A : Option Addr} {inf : TypeInfo} {zv : Value} (hu : P.underlying t = some (.slice el)) (htn : P.underlying tn = some (.int kn)) (hi : P.info? el = some inf) (hz : inf.zero = some zv)
    (h0 : 0 < c0) (hs : 0 < inf.size) (h63 : (c0 : Int) ≤ 9223372036854775807) (h48 : c0 * inf.bytes ≤ 281474976710656) :
    (Builtin.append_ #[t, tn] ty #[.slice A 0 0, .int k c0]).run P w =
      .ok (.slice (some ⟨w.heap.size, 0, none⟩) c0 (grownCap w c0 0 el)) (w.drew.alloc (.cells (Builtin.zeroCells zv.cells c0 ++ Builtin.zeroCells zv.cells (grownCap w c0 0 el - c0)) el)) := by
  have hn : c0 ≠ 0 := by omega
  have hw : IntKind.i64.wrap (c0 : Int) = c0 := by rw [IntKind.wrap_i64]; omega
  have h63' : ¬ (9223372036854775807 < (c0 : Int)) := by omega
  have h48' : ¬ (281474976710656 < Builtin.nextslicecap c0 0 * inf.bytes) := by rw [nextslicecap_zero h0]; omega
  have h48i : ¬ (281474976710656 < (c0 : Int) * (inf.bytes : Int)) := by
    rw [← Int.natCast_mul]
    omega
  have hneg : ¬ ((c0 : Int) < 0) := by omega
  have hns : ¬ (c0 * inf.size = 0) := Nat.mul_ne_zero hn (by omega)
  cases A with
  | none => simp [Builtin.append_, run_underlying hu, run_underlying htn, Go.sizeOf, typeInfo, zeroValue, hi, hz, asInt, asIntOf, hw, hn, hneg, hns, h63', h48', h48i, Question.forced, run_firstCells_none, newRow, grownCap]
  | some ad =>
    have hf := run_firstCells_some (P := P) w.drew inf.size 0 ad 0 0 [] (by simp) (by simp)
    simp [Builtin.append_, run_underlying hu, run_underlying htn, Go.sizeOf, typeInfo, zeroValue, hi, hz, asInt, asIntOf, hw, hn, hneg, hns, h63', h48', h48i, Question.forced, hf, newRow, grownCap]
theorem snd_appZ {o : Oper} {d m bytes : Nat} {z : List IV} {x k : Opd} (hc : chkAppZ P N o d m bytes z x k = true) : Snd P β N o (vop P (.appZ d m bytes z x k)) := by
  intro K e L h a w G lam hh next Q R hv _ hn
  unfold chkAppZ at hc
  split at hc
  case h_2 => cases hc
  rename_i c ho
  split at hc
  case h_2 => cases hc
  rename_i x' y' t t2 e1 e2 e3
  have ec := call_eq e1 e2 e3
  subst ec
  split at hc
  case h_2 => cases hc
  rename_i el kn hel htn
  simp only [Bool.and_eq_true, beq_iff_eq, decide_eq_true_eq] at hc
  obtain ⟨⟨⟨⟨⟨⟨⟨⟨h1, h2⟩, h3⟩, h4⟩, h5⟩, h6⟩, h7⟩, h8⟩, h9⟩ := hc
  obtain ⟨hd, hdn⟩ := chkD_sound h1
  have hu := elem?_eq hel
  split at h9
  case h_2 => cases h9
  rename_i zs hzs
  obtain ⟨hl, hx9⟩ := chkCs_sound (G := G) h9
  have hz : Cells G z zs := ⟨hl, hx9⟩
  obtain ⟨inf, zv, i1, i2, i3, i4, i5⟩ := zero_info h4 h5 hzs
  simp only [vop, chkP_iff] at hv
  split at hv
  · rename_i n1 kk c hx hk
    obtain ⟨rfl, hc0, hcb, hv⟩ := hv
    have ek := ((chkX_sound R h3 hk).r0 (by simp)).int_inv
    obtain ⟨A, cap, b, base, ev, hl2, hA, hN, ht, _⟩ := ((chkX_sound R h2 hx).r0 (by simp)).vs_inv
    have hcap : cap = 0 := ht
    subst hcap
    obtain ⟨c0, rfl⟩ : ∃ c0 : Nat, c = c0 := ⟨c.toNat, by omega⟩
    have hcb' : c0 * bytes ≤ 140737488355328 := by
      have : ((c0 * bytes : Nat) : Int) ≤ 140737488355328 := by rw [Int.natCast_mul]; exact hcb
      omega
    have hle0 : c0 ≤ 140737488355328 := Nat.le_trans (Nat.le_mul_of_pos_right _ h7) hcb'
    have hrun := run_appZ (P := P) (w := w) (ty := o.type) (k := kk) (A := A) (c0 := c0) hu htn i1 i2 (by omega) (by omega) (by omega) (by rw [i4]; omega)
    have hm9 : zs.length = n1 := hl.trans h8
    have hge := grownCap_ge w c0 0 el
    have hsz : zv.cells.size = n1 := by rw [← hm9, ← i5]; simp
    obtain ⟨G', R', hr⟩ := R.drew.newZ hz h8 hge (Builtin.zeroCells zv.cells c0 ++ Builtin.zeroCells zv.cells (grownCap w c0 0 el - c0)) (fun q hq => by
      rw [Array.getElem?_append, if_pos (by simp [Builtin.zeroCells, hsz]; exact hq)]
      simp only [Builtin.zeroCells, Array.getElem?_map, Array.getElem?_range, hsz, hq, if_true, Option.map_some, Option.some.injEq]
      have := zero_at (k := q) i5 hm9 h6
      rw [hsz] at this
      exact this) (by simp only [Array.size_append, Builtin.zeroCells, Array.size_map, Array.size_range, hsz]; rw [← Nat.add_mul]; congr 1; omega) el
    refine wp_value (v := .slice (some ⟨w.heap.size, 0, none⟩) c0 (grownCap w c0 0 el)) (w' := w.drew.alloc (.cells (Builtin.zeroCells zv.cells c0 ++ Builtin.zeroCells zv.cells (grownCap w c0 0 el - c0)) el)) (by simp [execOp, ho, resolve, invoke, builtin, ev, ek, hrun]) ?_
    rw [hd]
    exact hn _ _ _ _ _ _ _ _ (R'.put hdn (.inr (by simpa using hr))) (by simpa using hv _ (sub_none R.sub (R.inv.none_of_ge (Nat.le_refl _))))
  · exact hv.elim

/-! ### '==' of structs -/
def flat? (P : Program) : List Field → Nat → Option (List (Option IntKind))
  | [], _ => some []
  | f :: fs, off => if f.name == "_" || f.offset != off then none else match scalar? P f.type, flat? P fs (off + 1) with
    | some k, some ks => some (k :: ks)
    | _, _ => none
def chkEqS (P : Program) (n : Nat) (o : Oper) (d : Nat) (ks : List (Option IntKind)) (neg : Bool) (x y : Opd) : Bool :=
  match o.op with
  | .binOp op t x' y' _ => op == (if neg then .neq else .eql) && chkD n o d && chkX x' x && chkX y' y && !(P.eqGuardType P.depth t) && !(P.stoodInHeld t) && (match P.underlying t with
    | some (.struct fs) => flat? P fs.toList 0 == some ks
    | _ => false)
  | _ => false
theorem eqCells_run : ∀ {fs : List Field} {off : Nat} {ks : List (Option IntKind)} {xs ys pre pre' : List IV} {us vs : List Value} {b : Bool}, flat? P fs off = some ks → eqCells ks xs ys = some b →
    pre.length = off → pre'.length = off → (∀ (j : Nat) (x : IV), (pre ++ xs)[j]? = some x → ∃ v, us[j]? = some v ∧ R0 G x v) → (∀ (j : Nat) (x : IV), (pre' ++ ys)[j]? = some x → ∃ v, vs[j]? = some v ∧ R0 G x v) →
    (Op.eqFields 9999 us.toArray vs.toArray fs).run P w = .ok b w := by
  intro fs
  induction fs with
  | nil =>
    intro off ks xs ys pre pre' us vs b hf hb _ _ _ _
    simp only [flat?, Option.some.injEq] at hf
    subst hf
    unfold eqCells at hb
    split at hb
    · cases hb; simp [Op.eqFields]
    · rename_i h0 _ _; cases h0
    · rename_i h0 _ _; cases h0
    · cases hb
  | cons f fs ih =>
    intro off ks xs ys pre pre' us vs b hf hb hp hp' hu hv
    simp only [flat?] at hf
    split at hf
    · cases hf
    · rename_i hn
      simp only [Bool.or_eq_true, beq_iff_eq, bne_iff_ne, ne_eq, not_or, Decidable.not_not] at hn
      obtain ⟨hn1, hn2⟩ := hn
      split at hf
      · rename_i k ks' hk hks
        cases hf
        have step : ∀ {x y : IV} {xs' ys' : List IV} {r c : Bool} , xs = x :: xs' → ys = y :: ys' → eqCells ks' xs' ys' = some r → (∀ u v, R0 G x u → R0 G y v → (Op.equalIn 9999 f.type u v).run P w = .ok c w) → b = (c && r) → (Op.eqFields 9999 us.toArray vs.toArray (f :: fs)).run P w = .ok b w := by
          intro x y xs' ys' r c ex ey hr he hb2
          subst ex; subst ey
          obtain ⟨u, hu1, hu2⟩ := hu off x (by rw [List.getElem?_append_right (by omega)]; simp [hp])
          obtain ⟨v, hv1, hv2⟩ := hv off y (by rw [List.getElem?_append_right (by omega)]; simp [hp'])
          have h1 := run_part_scalar hk (w := w) (cs := us.toArray) (off := f.offset) (v := u) (by rw [hn2]; simpa using hu1)
          have h2 := run_part_scalar hk (w := w) (cs := vs.toArray) (off := f.offset) (v := v) (by rw [hn2]; simpa using hv1)
          have h3 := ih (off := off + 1) (pre := pre ++ [x]) (pre' := pre' ++ [y]) (us := us) (vs := vs) hks hr (by simp [hp]) (by simp [hp']) (by simpa using hu) (by simpa using hv)
          rw [Op.eqFields, if_pos hn1]
          simp only [Sem.run_bind, h1, h2, he u v hu2 hv2, Result.andThen_ok]
          rw [hb2]
          cases c
          · simp
          · simpa using h3
        unfold eqCells at hb
        split at hb
        · rename_i h0; simp at h0
        · rename_i k0 ks0 k1 a1 xs' k2 a2 ys' h0
          cases h0
          split at hb
          · rename_i hkk
            obtain ⟨rfl, rfl⟩ := hkk
            cases hr : eqCells ks' xs' ys' with
            | none => simp [hr] at hb
            | some r =>
              simp only [hr, Option.map_some, Option.some.injEq] at hb
              refine step (c := (a1 == a2)) rfl rfl hr (fun u v hu2 hv2 => ?_) hb.symm
              rw [hu2.int_inv, hv2.int_inv]
              unfold scalar? at hk
              split at hk
              · rename_i hut
                rw [Op.equalIn, Sem.run_bind, run_underlying hut w]
                simp
              · cases hk
              · cases hk
          · cases hb
        · rename_i ks0 a1 xs' a2 ys' h0
          cases h0
          cases hr : eqCells ks' xs' ys' with
          | none => simp [hr] at hb
          | some r =>
            simp only [hr, Option.map_some, Option.some.injEq] at hb
            refine step (c := (a1 == a2)) rfl rfl hr (fun u v hu2 hv2 => ?_) hb.symm
            rw [hu2.bool_inv, hv2.bool_inv]
            unfold scalar? at hk
            split at hk
            · cases hk
            · rename_i hut
              rw [Op.equalIn, Sem.run_bind, run_underlying hut w]
              rfl
            · cases hk
        · cases hb
      · cases hf
theorem snd_eqS {o : Oper} {d : Nat} {ks : List (Option IntKind)} {neg : Bool} {x y : Opd} (hc : chkEqS P N o d ks neg x y = true) : Snd P β N o (vop P (.eqS d ks neg x y)) := by
  intro K e L h a w G lam hh next Q R hv _ hn
  unfold chkEqS at hc
  split at hc
  · rename_i op t x' y' _ ho
    simp only [Bool.and_eq_true, beq_iff_eq, Bool.not_eq_true'] at hc
    obtain ⟨⟨⟨⟨⟨⟨rfl, h1⟩, h2⟩, h3⟩, h4⟩, h5⟩, h6⟩ := hc
    obtain ⟨hd, hdn⟩ := chkD_sound h1
    split at h6
    case h_2 => cases h6
    rename_i fs hut
    rw [beq_iff_eq] at h6
    simp only [vop] at hv
    split at hv
    · rename_i xs ys hx hy
      split at hv
      · rename_i b hb
        obtain ⟨us, eu, hul, hur⟩ := ((chkX_sound R h2 hx).r0 (by simp)).agg_inv
        obtain ⟨vs, ev, hvl, hvr⟩ := ((chkX_sound R h3 hy).r0 (by simp)).agg_inv
        have hfo : P.fieldsOf t = fs := by simp [Program.fieldsOf, hut]
        have he : (Op.equal t (.agg us.toArray) (.agg vs.toArray)).run P w = .ok b w := by
          rw [equal_succ, run_equalIn_struct w 9999 t _ _ (by rw [hfo]; exact hut) h5, hfo]
          exact eqCells_run (pre := []) (pre' := []) h6 hb rfl rfl (fun j x hj => (hur j x (by simpa using hj)).2) (fun j x hj => (hvr j x (by simpa using hj)).2)
        have hrun := run_eqv (P := P) (w := w) (t := t) (neg := neg) (xo := x') (yo := y') (run_eqGuard_agg (P := P) w _ t x' y' us.toArray vs.toArray h4) he (fun op ho => by rcases ho with rfl | rfl <;> simp [Go.binOp])
        refine wp_value (v := .bool (if neg then !b else b)) (w' := w) ?_ ?_
        · simp only [execOp, ho, eu, ev, Sem.run_bind] at hrun ⊢
          rw [hrun]; rfl
        · rw [hd]; exact hn _ _ _ _ _ _ _ _ (R.put hdn (.inr (.bool _))) hv
      · exact hv.elim
    · exact hv.elim
  · cases hc

end VL
