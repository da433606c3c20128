/- A symbolic run, second making: a call as a run; laws of functions whose arguments and answers use no name. -/
import Derived.Test.YtoeeilbpgckhlaaSy17
namespace Go.Sy
open Go

/-! ### a call -/
theorem calls_of_run {P : Program} {C : Cfg} {f : FuncId} {R : Ending → World → Prop} {fn : Func} {as : List SV} {args : Array Value} {h : SHeap} {ρ : Ren} {w : World} (hcb : callable P f = some fn) (hW : WRep C ρ h w) (hA : AsRep h ρ as args.toList)
    (hr : Run P C f R ⟨[enterS f fn as], h⟩) : Calls P f args w R := fun cs => by
  obtain ⟨hfn, hb, _⟩ := callable_spec hcb
  have := hr ρ w [Frame.enter P f args .normal] ⟨enterS_rep hfn hb hA, trivial⟩ hW cs
  exact this

/-- A run that begins without a block of ours. -/
def cfg0 (w : World) : Cfg := ⟨w, 0, fun _ => ⟨0, 0, 0⟩, fun _ => False, fun b => b < w.heap.size⟩
theorem start0 (w : World) : WRep (cfg0 w) (cfg0 w).ρ0 [] w :=
  ⟨fun b => b < w.heap.size, fun k hk => absurd hk (Nat.not_lt_zero k), fun k q e => by simp at e, fun j k _ _ e => by simp at e, fun k _ e => by simp at e, fun k _ e => by simp at e, fun _ h => .inl h, fun _ h => h, fun _ h => h, fun _ _ _ => rfl, Nat.le_refl _, rfl, rfl, rfl⟩
theorem below0 {w w' : World} {ρ : Ren} {h : SHeap} (r : WRep (cfg0 w) ρ h w') : RowKit.Below w.heap.size w w' :=
  let ⟨_, r⟩ := r; ⟨r.os, r.tape, r.output, r.size, fun k hk => r.block k hk (fun h => h)⟩
theorem WRepF.below {C : Cfg} {ρ : Ren} {h : SHeap} {w w' : World} {fz : Nat → Prop} (r : WRepF C ρ h w fz) (b : RowKit.Below w.heap.size w w') : WRepF C ρ h w' fz := by
  have hz : ∀ i, fz i → w'.heap[i]? = w.heap[i]? := fun i hi => b.block i (r.fzlt i hi)
  exact ⟨r.pre, fun k q e => (r.objs k q e).later (Sub.refl _) (Ag.refl _ _) (fun _ h => h) hz (fun hl => b.block _ ((r.objs k q e).lt hl)), r.inj, r.new, r.frz, r.fznew, fun i hi => Nat.lt_of_lt_of_le (r.fzlt i hi) b.size, r.fzold,
    fun i hi hn => (b.block i (Nat.lt_of_lt_of_le hi r.size)).trans (r.block i hi hn), Nat.le_trans r.size b.size, b.os.trans r.os, b.tape.trans r.tape, b.output.trans r.output⟩

/-- Values of no name. -/
def litsT : List (SC ⊕ List SC) → Option (List Value)
  | [] => some []
  | .inl x :: r => match x.lit, litsT r with | some v, some l => some (v :: l) | _, _ => none
  | .inr cs :: r => match lits cs, litsT r with | some l', some l => some (.agg l'.toArray :: l) | _, _ => none
theorem litsT_eq {ρ : Ren} : ∀ {cs : List (SC ⊕ List SC)} {l vs : List Value}, litsT cs = some l → TsR ρ cs vs → vs = l
  | [], l, [], h, _ => by cases h; rfl
  | .inl x :: r, l, v :: vs, h, ⟨hc, hr⟩ => by
    simp only [litsT] at h
    split at h
    · rename_i y l' hx hl
      cases h
      have : v = y := lit_eq (v := .c x) (by cases x <;> simp [SC.lit] at hx <;> simp [SV.lit, hx]) hc
      rw [this, litsT_eq hl hr]
    · cases h
  | .inr cs :: r, l, v :: vs, h, ⟨hc, hr⟩ => by
    simp only [litsT] at h
    split at h
    · rename_i l1 l' hx hl
      cases h
      obtain ⟨us, rfl, hu⟩ := hc
      rw [lits_eq hx hu, litsT_eq hl hr]
    · cases h
  | [], _, _ :: _, _, hr => hr.elim
  | .inl _ :: _, _, [], _, hr => hr.elim
  | .inr _ :: _, _, [], _, hr => hr.elim
/-- A value of no name, of whatever kind. -/
def SV.val : SV → Option Value
  | .t vs => match litsT vs with | some l => some (.tuple l.toArray) | none => none
  | v => v.lit
theorem val_eq {ρ : Ren} {v : SV} {x y : Value} (h : v.val = some x) (r : v.R ρ y) : y = x := by
  cases v with
  | t vs =>
    simp only [SV.val] at h
    split at h
    · rename_i l hl; cases h; obtain ⟨us, rfl, hu⟩ := r; rw [litsT_eq hl hu]
    · cases h
  | c _ => exact lit_eq (v := .c _) h r
  | a _ => exact lit_eq (v := .a _) h r
  | al _ => exact lit_eq (v := .al _) h r
def oneV (f : Value → SC) : Value → SC ⊕ List SC
  | .agg l => .inr (l.toList.map f)
  | x => .inl (f x)
theorem map_CsR {ρ : Ren} {f : Value → SC} (hf : ∀ x, (f x).R ρ x) : ∀ (l : List Value), CsR ρ (l.map f) l
  | [] => trivial
  | x :: r => ⟨hf x, map_CsR hf r⟩
theorem oneV_R {ρ : Ren} {f : Value → SC} (hf : ∀ x, (f x).R ρ x) (v : Value) : R1 ρ (oneV f v) v := by
  cases v with
  | agg l => exact ⟨l.toList, by simp, map_CsR hf _⟩
  | _ => exact hf _
theorem map_TsR {ρ : Ren} {f : Value → SC} (hf : ∀ x, (f x).R ρ x) : ∀ (l : List Value), TsR ρ (l.map (oneV f)) l
  | [] => trivial
  | x :: r => ⟨oneV_R hf x, map_TsR hf r⟩
def valV (f : Value → SC) : Value → SV
  | .agg cs => .a (cs.toList.map f)
  | .tuple cs => .t (cs.toList.map (oneV f))
  | v => .c (f v)
theorem valV_R {ρ : Ren} {f : Value → SC} (hf : ∀ x, (f x).R ρ x) (v : Value) : (valV f v).R ρ v := by
  cases v with
  | agg cs => exact ⟨cs.toList, by simp, map_CsR hf _⟩
  | tuple cs => exact ⟨cs.toList, by simp, map_TsR hf _⟩
  | _ => exact hf _
def litV (v : Value) : SV := valV .v v
def tagL (v : Value) : SV := valV tag v
theorem litV_R (ρ : Ren) (v : Value) : (litV v).R ρ v := valV_R (f := .v) (fun _ => (rfl : _ = _)) v
theorem tagL_R (ρ : Ren) (v : Value) : (tagL v).R ρ v := valV_R (fun x => tag_R x ρ) v

/-- A call whose arguments and answer use no name. -/
def plainJob (P : Program) (laws : List (Law P)) (L : Bool) (cuts : List CutAt) (f : FuncId) (w : World) (A : Value → Prop) : Job P where
  C := cfg0 w
  f := f
  laws := laws
  L := L
  cuts := cuts
  R := fun e w' => ∃ x, e = .returned x ∧ A x ∧ RowKit.Below w.heap.size w w'
  fin := fun _ v => match v.val with | some x => A x | none => False
  hfin := fun h v hf ρ w' x hW hv => by
    split at hf
    · rename_i y hy
      have := val_eq hy hv.here
      subst this
      exact ⟨_, rfl, hf, below0 hW⟩
    · exact hf.elim
/-- A proposition that no tactic looks into. -/
structure Holds (p : Prop) : Prop where
  out : p
theorem chk {p VC : Prop} (h : VC) (e : p = VC) : Holds p := ⟨e ▸ h⟩
theorem run_chk {P : Program} {J : Job P} {s : St} (N : Nat) (h : Holds (runS J N s)) : Run P J.C J.f J.R s := runS_sound N h.out
theorem litAs_rep (h : SHeap) (ρ : Ren) : ∀ (l : List Value), AsRep h ρ (l.map litV) l
  | [] => fun _ _ => trivial
  | x :: r => fun ρ' ha => ⟨litV_R ρ' x, litAs_rep h ρ r ρ' ha⟩
/-- **THE CONTRACT OF A CALL WHOSE ARGUMENTS AND ANSWER USE NO NAME.** -/
theorem plain_calls {P : Program} {f : FuncId} {w : World} {A : Value → Prop} {fn : Func} {args : Array Value} (hcb : callable P f = some fn) (laws : List (Law P)) (L : Bool) (cuts : List CutAt) (N : Nat)
    (h : Holds (runS (plainJob P laws L cuts f w A) N ⟨[enterS f fn (args.toList.map litV)], []⟩)) : Calls P f args w fun e w' => ∃ x, e = .returned x ∧ A x ∧ RowKit.Below w.heap.size w w' :=
  calls_of_run hcb (start0 w) (litAs_rep _ _ _) (runS_sound (J := plainJob P laws L cuts f w A) N h.out)

/-! ### laws of functions whose arguments and answers use no name -/
def valsOf : List SV → Option (List Value)
  | [] => some []
  | v :: r => match v.val, valsOf r with | some x, some l => some (x :: l) | _, _ => none
theorem valsOf_eq {ρ : Ren} : ∀ {as : List SV} {l xs : List Value}, valsOf as = some l → VsR ρ as xs → xs = l
  | [], l, [], h, _ => by cases h; rfl
  | v :: r, l, x :: xs, h, ⟨hv, hr⟩ => by
    simp only [valsOf] at h
    split at h
    · rename_i y l' hy hl
      cases h
      rw [val_eq hy hv, valsOf_eq hl hr]
    · cases h
  | [], _, _ :: _, _, h => h.elim
  | _ :: _, _, [], _, h => h.elim
def knownC : SC → Bool
  | .v (.slice none 0 0) => true
  | .v _ => false
  | _ => true
def knownS : SV → Bool
  | .c x => knownC x
  | .a cs => cs.all knownC
  | _ => false
structure FnLaw (P : Program) where
  g : FuncId
  dom : List Value → Prop
  out : List Value → Value
  ok : ∀ (vs : List Value) (w : World), dom vs → Calls P g vs.toArray w fun e w' => ∃ x, e = .returned x ∧ x = out vs ∧ RowKit.Below w.heap.size w w'
def FnLaw.law {P : Program} (S : FnLaw P) : Law P where
  g := S.g
  eff := fun _ _ as K => match valsOf as with | some vs => S.dom vs ∧ K [] { out := match as.all knownS with | true => tagL (S.out vs) | false => litV (S.out vs) } | none => False
  ok := fun {C h nm as K} he => by
    split at he
    · rename_i vs hvs
      obtain ⟨hd, hk⟩ := he
      refine ⟨[], _, by simp, ?_, hk⟩
      intro h' ρ w args _ _ hW hA
      obtain ⟨fz, hW⟩ := hW
      have := valsOf_eq hvs (hA ρ (Ag.refl _ _))
      have hargs : args = vs.toArray := by rw [← Array.toList_inj]; simpa using this
      subst hargs
      refine (S.ok vs w hd).mono ?_
      rintro e w' ⟨x, rfl, rfl, hb⟩
      refine ⟨ρ, _, rfl, Ag.refl _ _, ?_, fz, hW.below hb⟩
      intro ρ' _
      dsimp only
      split
      · exact tagL_R ρ' _
      · exact litV_R ρ' _
    · exact he.elim

/-! ### reading a state -/
def loopsIn : Code → List Item → List (List Item)
  | .seq a b, k => loopsIn a (.code b :: k) ++ loopsIn b k
  | .block id b, k => loopsIn b (.inBlock id :: k)
  | .scope b, k => loopsIn b (.inScope b :: k)
  | .cond _ x y, k => loopsIn x k ++ loopsIn y k
  | .loop b, k => (.code b :: .inLoop b :: k) :: loopsIn b (.inLoop b :: k)
  | _, _ => []
/-- What is still to be done behind the head of a function's n-th loop. -/
def loopTodo (f : Func) (n : Nat) : List Item := (loopsIn (f.body.getD (.refuse "")) []).getD n []
/-- A function's slots: those that are named hold what they hold, of the others nothing is said. -/
def slots (n : Nat) (l : List (Nat × SV)) : STmps := (List.range n).map fun i => l.lookup i
def frS (s : St) (i : Nat) : STmps := match s.frs[i]? with | some f => f.tmps | none => []
def slotF (s : St) (i t : Nat) : SV := match (frS s i)[t]? with | some (some v) => v | _ => .t []
def slotT (s : St) (t : Nat) : SV := slotF s 0 t
def cellV (v : SV) : SC := match v with | .c x => x | _ => .b false
def intC : SC → Int
  | .v (.int _ n) => n
  | .kv (.int _ n) => n
  | _ => 0
def boolC : SC → Bool
  | .v (.bool b) => b
  | .b b => b
  | .kv (.bool b) => b
  | _ => false
def strC : SC → ByteArray
  | .v (.string s) => s
  | .kv (.string s) => s
  | _ => ⟨#[]⟩
def nameC : SC → Nat
  | .p k _ => k
  | .s k _ _ _ => k
  | .y k => k
  | _ => 0
def lenC : SC → Nat
  | .s _ _ n _ => n
  | .v (.slice _ n _) => n
  | _ => 0
def intT (s : St) (t : Nat) : Int := intC (cellV (slotT s t))
def boolT (s : St) (t : Nat) : Bool := boolC (cellV (slotT s t))
def strT (s : St) (t : Nat) : ByteArray := strC (cellV (slotT s t))
def nameT (s : St) (t : Nat) : Nat := nameC (cellV (slotT s t))
def lenT (s : St) (t : Nat) : Nat := lenC (cellV (slotT s t))
def cellH (s : St) (k i : Nat) : SC := match s.heap[k]? with | some (some (.cells l _ _)) => (match l[i]? with | some x => x | none => .b false) | _ => .b false
def intH (s : St) (k i : Nat) : Int := intC (cellH s k i)
def boolH (s : St) (k i : Nat) : Bool := boolC (cellH s k i)
def strH (s : St) (k i : Nat) : ByteArray := strC (cellH s k i)
def rowH (s : St) (k : Nat) : List D := match s.heap[k]? with | some (some (.row xs _ _)) => xs | some (some (.ice xs)) => xs | some (some (.cells l _ _)) => (match lits l with | some xs => xs.map .v | none => []) | _ => []
/-- A slice's name; its row. -/
def nmO (v : SV) : Option Nat := match v with | .c (.s k _ _ _) => some k | _ => none
def rowO (s : St) (o : Option Nat) : List D := match o with | some k => rowH s k | none => []
end Go.Sy
