/- The V layer, part 12: walking. -/
import Derived.Test.YtjhbkbbmhmfkbaaV11
namespace VL
open Go
variable {P : Program} {Q : VX → Kont} {K : Kont} {e : Env} {L : Loc} {h : Heap}

theorem vc_skip : vc P .skip Q e L h = Q .normal e L h := rfl
theorem vc_reg {ops : List VOp} {ke kl : List Nat} : vc P (.reg ops ke kl) Q e L h = vops P ops (fun e L h => Q .normal (e.keep ke) (L.keep kl) h) e L h := rfl
theorem vc_regD {l : DL} {ke kl : List Nat} : vc P (.regD l ke kl) Q e L h = vops P (l.map (·.2)) (fun e L h => Q .normal (e.keep ke) (L.keep kl) h) e L h := rfl
theorem vc_seq {a b : VC} : vc P (.seq a b) Q e L h = vc P a (seqQ (vc P b Q) Q) e L h := rfl
theorem vc_cond {c : Opd} {a b : VC} : vc P (.cond c a b) Q e L h = match c.get e with
    | some (.bool t) => br t (vc P a Q e L h) (vc P b Q e L h)
    | _ => False := rfl
theorem vc_block {id : Nat} {a : VC} : vc P (.block id a) Q e L h = vc P a (blockQ id Q) e L h := rfl
theorem vc_exit {id : Nat} : vc P (.exit id) Q e L h = Q (.exit id) e L h := rfl
theorem vc_ret : vc P .ret Q e L h = Q .ret e L h := rfl
theorem seqQ_n {next : Kont} : seqQ next Q .normal e L h = next e L h := rfl
theorem seqQ_x {next : Kont} {i : Nat} : seqQ next Q (.exit i) e L h = Q (.exit i) e L h := rfl
theorem seqQ_r {next : Kont} : seqQ next Q .ret e L h = Q .ret e L h := rfl
theorem blockQ_n {id : Nat} : blockQ id Q .normal e L h = Q .normal e L h := rfl
theorem blockQ_x {id i : Nat} : blockQ id Q (.exit i) e L h = if i = id then Q .normal e L h else Q (.exit i) e L h := by simp only [blockQ]; split <;> rfl
theorem blockQ_r {id : Nat} : blockQ id Q .ret e L h = Q .ret e L h := rfl
theorem loopQ_x {I : Nat → Kont} {n i : Nat} : loopQ I n Q (.exit i) e L h = Q (.exit i) e L h := rfl
theorem loopQ_r {I : Nat → Kont} {n : Nat} : loopQ I n Q .ret e L h = Q .ret e L h := rfl
theorem vops_nil : vops P [] K e L h = K e L h := rfl
theorem vops_cons {o : VOp} {os : List VOp} : vops P (o :: os) K e L h = vop P o (vops P os K) e L h := rfl
theorem map_nil2 : List.map (fun x : Nat × VOp => x.2) [] = [] := rfl
theorem map_cons2 {x : Nat × VOp} {l : DL} : List.map (fun x : Nat × VOp => x.2) (x :: l) = x.2 :: List.map (fun x : Nat × VOp => x.2) l := rfl
theorem get_t {n : Nat} : (Opd.t n).get e = e n := rfl
theorem get_c {v : IV} : (Opd.c v).get e = some v := rfl
theorem put_get {d t : Nat} {v : IV} : (e.put d v) t = if t = d then some v else e t := rfl
theorem del_get {d t : Nat} : (e.del d) t = if t = d then none else e t := rfl
theorem lput_get {d t : Nat} {v : List IV} : (L.put d v) t = if t = d then some v else L t := rfl
theorem nil_get {t : Nat} : Env.nil t = none := rfl
theorem lnil_get {t : Nat} : Loc.nil t = none := rfl
theorem arg_get {args : List IV} {t : Nat} : argEnv args t = args[t]? := rfl
theorem purge_get {d t : Nat} : (e.purge d) t = match e t with
  | some v => if v.isLp d then none else some v
  | none => none := rfl
theorem hput_get {i j : Nat} {r : Rows} : (h.put i r).obj j = if j = i then some r else h.obj j := rfl

/-- Frames, laid out. -/
def mkEnv : List (Nat × IV) → Env
  | [] => .nil
  | (t, v) :: r => (mkEnv r).put t v
def mkLoc : List (Nat × List IV) → Loc
  | [] => .nil
  | (t, v) :: r => (mkLoc r).put t v
theorem sub_ex {Q : IV → Heap → Prop} {x : IV} (hq : Q x h) : ∃ h', h'.sub h ∧ Q x h' := ⟨h, Heap.sub_refl h, hq⟩


theorem br_intro {t : Bool} {A B : Prop} (h1 : t = true → A) (h2 : t = false → B) : br t A B := br_iff.2 ⟨h1, h2⟩
theorem optK_intro {α : Type} {o : Option α} {K : α → Prop} {v : α} (h : o = some v) (hk : K v) : optK o K := by rw [h]; exact hk
theorem chkP_intro {a k : Prop} [Decidable a] (h : a) (hk : k) : chkP a k := chkP_iff.2 ⟨h, hk⟩
theorem hput_same {h : Heap} {i : Nat} {r : Rows} : (h.put i r).obj i = some r := by simp [Heap.put]
theorem hput_ne {h : Heap} {i j : Nat} {r : Rows} (hn : j ≠ i) : (h.put i r).obj j = h.obj j := by simp [Heap.put, hn]

theorem call_pure {f : Nat} {args : List IV} {v : IV} {q : Bool} {K : IV → Heap → Prop} (c : CallsV P f args h (fun r h' => r = v ∧ h' = h)) (hk : K v h) : CallsV P f args h (fun x h' => quietP q h h' ∧ K x h') :=
  c.mono fun x h' ⟨e1, e2⟩ => by
    subst e1; subst e2
    refine ⟨?_, hk⟩
    cases q with
    | false => trivial
    | true => exact fun _ _ x => x
theorem call_any {f : Nat} {args : List IV} {Q : IV → Heap → Prop} {K : IV → Heap → Prop} (c : CallsV P f args h Q) (hk : ∀ x h', Q x h' → K x h') : CallsV P f args h (fun x h' => quietP false h h' ∧ K x h') :=
  c.mono fun x h' q => ⟨trivial, hk x h' q⟩
theorem ret_ex {Q : IV → Heap → Prop} {x : IV} (hq : Q x h) : ∃ h', h'.sub h ∧ Q x h' := ⟨h, Heap.sub_refl h, hq⟩

end VL
