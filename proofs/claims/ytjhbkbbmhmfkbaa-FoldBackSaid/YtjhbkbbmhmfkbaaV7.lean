/- The V layer, part 7: regions in the text's order. -/
import Derived.Test.YtjhbkbbmhmfkbaaV6b
namespace VL
open Go
variable {P : Program} {β : Base} {N : Nat} {e : Env} {L : Loc} {h : Heap} {a : Act} {w : World} {G : Ghost} {lam : Nat → Option Nat} {hh : Heap}

def chkOp (P : Program) (n : Nat) (o : Oper) : VOp → Bool
  | .mov d x => chkMov n o d x
  | .pick d c x y => chkPick n o d c x y
  | .bin d op x y => chkBin n o d op x y
  | .eqv d k neg x y => chkEqv P n o d k neg x y
  | .not d x => chkNot n o d x
  | .nilchk d x => chkNil n o d x
  | .fieldA d x off => chkFieldA P n o d x off
  | .idxA d m x i => chkIdxA P n o d m x i
  | .load1 _ d x => chkLoad1 P n o d x
  | .loadN _ d m x => chkLoadN P n o d m x
  | .store1 x v => chkStore P o 1 x v
  | .storeN m x v => chkStore P o m x v
  | .len d x => chkLen P n o d x
  | .alloc d z => chkAlloc P n o d z
  | .allocH d z => chkAlloc P n o d z
  | .box d x => chkBox n o d x
  | .boxH d x => chkBox n o d x
  | .build d z parts => chkBuild P n o d z parts
  | .bslice d m z len parts => chkBslice P n o d m z len parts
  | .app d m bytes x y => chkApp P n o d m bytes x y
  | .appR d m bytes x y => chkApp P n o d m bytes x y
  | .slc d m x lo hi mx => chkSlc P n o d m x lo hi mx
  | .mm d isMax x y => chkMm n o d isMax x y
  | .ext d x i => chkExt n o d x i
  | .mkF d f caps => chkMkF n o d f caps
  | .call _ d f args => chkCall P n o d f args
  | .callv _ d x args => chkCallv n o d x args
  | .guard _ _ _ => false
  | .nilR d _ => chkNilR n o d
  | .nilO d _ => chkNilR n o d
  | .frz d _ x => chkMov n o d x
  | .eqS d ks neg x y => chkEqS P n o d ks neg x y
  | .eqNil d neg x => chkEqNil P n o d neg x
  | .mkI d t x => chkMkI P n o d t x
  | .bad _ => true
  | .cap d x => chkCap P n o d x
  | .appZ d m bytes z x k => chkAppZ P n o d m bytes z x k
  | .un d op x => chkUn n o d op x
  | .cvi d k x => chkCvi P n o d k x
  | .idxP d m len x i => chkIdxP P n o d m len x i
  | .idxV d len x i => chkIdxV P n o d len x i
  | .mkS d m bytes z x => chkMkS P n o d m bytes z x

theorem snd_op {o : Oper} {v : VOp} (hc : chkOp P N o v = true) : Snd P β N o (vop P v) := by
  cases v <;> simp only [chkOp] at hc
  · exact snd_mov hc
  · exact snd_pick hc
  · exact snd_bin hc
  · exact snd_eqv hc
  · exact snd_not hc
  · exact snd_nil hc
  · exact snd_fieldA hc
  · exact snd_idxA hc
  · exact snd_load1 hc
  · exact snd_loadN hc
  · exact snd_store1 hc
  · exact snd_storeN hc
  · exact snd_len hc
  · exact (snd_alloc hc).1
  · exact (snd_alloc hc).2
  · exact (snd_box hc).1
  · exact (snd_box hc).2
  · exact snd_build hc
  · exact snd_bslice hc
  · exact snd_app hc
  · exact snd_appR hc
  · exact snd_slc hc
  · exact snd_mm hc
  · exact snd_ext hc
  · exact snd_mkF hc
  · exact snd_call hc
  · exact snd_callv hc
  · cases hc
  · exact snd_nilR hc
  · exact snd_nilO hc
  · exact snd_frz hc
  · exact snd_eqS hc
  · exact snd_eqNil hc
  · exact snd_mkI hc
  · exact snd_bad
  · exact snd_cap hc
  · exact snd_appZ hc
  · exact snd_un hc
  · exact snd_cvi hc
  · exact snd_idxP hc
  · exact snd_idxV hc
  · exact snd_mkS hc

def chkG (P : Program) (n : Nat) (ops : Array Oper) (o : Oper) (v : VOp) : Bool :=
  match o.guard with
  | none => chkOp P n o v
  | some (j, b) => (match v with
    | .guard t b' v' => b == b' && ((ops[j]?).bind (·.dst)) == some t && chkOp P n o v' && o.dst == v'.dst
    | _ => false)

theorem snd_g {ops : Array Oper} {o : Oper} {v : VOp} (hc : chkG P N ops o v = true) {K : Kont} (R : RelG β N e L h a w G lam hh) (hv : vop P v K e L h) {next : Act → World → Prop} {Q : Exit → Act → World → Prop} (hQ : LetsAny Q)
    (hn : ∀ e' L' h' a' w' G' lam' hh', RelG β N e' L' h' a' w' G' lam' hh' → K e' L' h' → next a' w') :
    if Region.wanted o (yielded ops a.tmps) then o.wp P a w next Q else next (a.put o.dst undef) w := by
  unfold chkG at hc
  split at hc
  · rename_i hg
    rw [if_pos (by simp [Region.wanted, hg])]
    exact snd_op hc K e L h a w G lam hh next Q R hv hQ hn
  · rename_i j b hg
    split at hc
    · rename_i t b' v'
      simp only [Bool.and_eq_true, beq_iff_eq] at hc
      obtain ⟨⟨⟨rfl, h2⟩, h3⟩, h4⟩ := hc
      simp only [vop, br_iff] at hv
      split at hv
      · rename_i c hct
        obtain ⟨u, hu, hr⟩ := R.env _ _ hct
        have hub := (hr.r0 (by simp)).bool_inv
        subst hub
        have hy : yielded ops a.tmps j = some c := by
          unfold yielded
          rw [h2]
          simp [hu]
        have hle : ∀ c', c' = c → (e.put t (.bool c')).le e := by
          intro c' hcc t' v ht
          simp only [Env.put] at ht
          split at ht
          · rename_i e1; cases ht; rw [e1, hcc]; exact hct
          · exact ht
        have go : (if b = c then vop P v' K (e.put t (.bool c)) L h else K ((e.put t (.bool c)).delO v'.dst) L h) := by
          cases c with
          | true => have := hv.1 rfl; cases b <;> simpa using this
          | false => have := hv.2 rfl; cases b <;> simpa using this
        by_cases hbc : b = c
        · rw [if_pos hbc] at go
          rw [if_pos (by simp [Region.wanted, hg, hy, hbc])]
          exact snd_op h3 K _ L h a w G lam hh next Q (R.less (hle c rfl) (fun _ _ x => x) (Heap.sub_refl _)) go hQ hn
        · rw [if_neg hbc] at go
          rw [if_neg (by simp [Region.wanted, hg, hy]; exact fun x => hbc x.symm)]
          refine hn _ _ _ _ _ G lam hh ?_ go
          rw [h4]
          have := (R.less (hle c rfl) (fun _ _ x => x) (Heap.sub_refl _)).lose v'.dst undef
          cases hd : v'.dst <;> (rw [hd] at this; exact this)
      · exact hv.elim
    · cases hc

def vops (P : Program) : List VOp → Kont → Kont
  | [], K => K
  | o :: os, K => vop P o (vops P os K)
def chkOps (P : Program) (n : Nat) (ops : Array Oper) : List Oper → List VOp → Bool
  | [], [] => true
  | o :: os, v :: vs => chkG P n ops o v && chkOps P n ops os vs
  | _, _ => false

theorem vops_sound {ops : Array Oper} {Q : Exit → Act → World → Prop} (hQ : LetsAny Q) {K : Kont} (hn : ∀ e' L' h' a' w' G' lam' hh', RelG β N e' L' h' a' w' G' lam' hh' → K e' L' h' → Q .normal a' w') :
    ∀ {l : List Oper} {vs : List VOp} {e : Env} {L : Loc} {h : Heap} {a : Act} {w : World} {G : Ghost} {lam : Nat → Option Nat} {hh : Heap}, chkOps P N ops l vs = true → RelG β N e L h a w G lam hh → vops P vs K e L h → wpList P ops Q l a w
  | [], [], e, L, h, a, w, G, lam, hh, _, R, hv => hn _ _ _ _ _ _ _ _ R hv
  | o :: os, v :: vs, e, L, h, a, w, G, lam, hh, hc, R, hv => by
    simp only [chkOps, Bool.and_eq_true] at hc
    have := snd_g hc.1 (K := vops P vs K) R hv (next := wpList P ops Q os) hQ (fun e' L' h' a' w' G' lam' hh' R' hk => vops_sound hQ hn hc.2 R' hk)
    unfold wpList
    split
    · rename_i hw; rw [if_pos hw] at this; exact .inl this
    · rename_i hw; rw [if_neg hw] at this; exact this
  | [], _ :: _, _, _, _, _, _, _, _, _, hc, _, _ => by simp [chkOps] at hc
  | _ :: _, [], _, _, _, _, _, _, _, _, hc, _, _ => by simp [chkOps] at hc

end VL
