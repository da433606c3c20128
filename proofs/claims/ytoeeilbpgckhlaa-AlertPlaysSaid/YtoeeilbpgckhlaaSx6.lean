/- A symbolic run: the machine. -/
import Derived.Test.YtoeeilbpgckhlaaSx5
import Derived.Laws.Entries
import Derived.Below
namespace Go.Sx
open Go

structure SF where
  fn : FuncId
  tmps : STmps
  todo : List Item
  ret : Bool := false

structure St where
  frs : List SF
  heap : SHeap

def mkF (fn : FuncId) (tmps : Array Value) (todo : List Item) (ret : Bool) : Frame :=
  { fn, tmps, todo, defers := [], mode := match ret with | true => .returning | false => .run, kind := .normal }

def FRep (h : SHeap) (ρ : Ren) (s : SF) (f : Frame) : Prop := ∃ tmps, f = mkF s.fn tmps s.todo s.ret ∧ TRep h ρ s.tmps tmps
def FsRep (h : SHeap) (ρ : Ren) : List SF → List Frame → Prop
  | [], [] => True
  | s :: ss, f :: fs => FRep h ρ s f ∧ FsRep h ρ ss fs
  | _, _ => False

theorem FRep.later {h g ρ ρ' s f} (r : FRep h ρ s f) (sb : Sub h g) (ha : Ag h ρ ρ') : FRep g ρ' s f := let ⟨t, h1, h2⟩ := r; ⟨t, h1, h2.later sb ha⟩
theorem FsRep.later {h g ρ ρ'} (sb : Sub h g) (ha : Ag h ρ ρ') : ∀ {ss fs}, FsRep h ρ ss fs → FsRep g ρ' ss fs
  | [], [], _ => trivial
  | _ :: _, _ :: _, ⟨a, b⟩ => ⟨a.later sb ha, FsRep.later sb ha b⟩
  | [], _ :: _, r => r.elim
  | _ :: _, [], r => r.elim

/-- The call of 'f' that runs here ends as R has it. -/
def Ends (P : Program) (f : FuncId) (R : Ending → World → Prop) (cs : List Frame) (m : Machine) : Prop :=
  ∃ e w' fr, R e w' ∧ Comes P m (lone fr cs w') e ∧ fr.fn = f ∧ fr.leaving P w' e
theorem Ends.steps {P f R cs m m'} (h : Steps P m m') (e : Ends P f R cs m') : Ends P f R cs m :=
  let ⟨x, w', fr, h1, h2, h3⟩ := e; ⟨x, w', fr, h1, h2.of_steps h, h3⟩

/-- A law of a function whose arguments and answer use no name. -/
structure FnLaw (P : Program) where
  g : FuncId
  dom : List Value → Prop
  out : List Value → Value
  ok : ∀ vs w, dom vs → Calls P g vs.toArray w fun e w' => ∃ x, e = .returned x ∧ x = out vs ∧ RowKit.Below w.heap.size w w'

/-- What is to be shown: the call of 'f' ends as R has it; it suffices that what it hands back, with the heap then, meets Q. -/
structure Job where
  C : Cfg
  f : FuncId
  R : Ending → World → Prop
  specs : List (FnLaw C.P) := []
  Q : SHeap → SV → Prop
  hQ : ∀ h v, Q h v → ∀ ρ w, WRep C ρ h w → R (.returned (v.den ρ)) w

/-- From this state on the call ends as it should. -/
def Run (J : Job) (s : St) : Prop :=
  ∀ (ρ : Ren) (w : World) (fs : List Frame), FsRep s.heap ρ s.frs fs → WRep J.C ρ s.heap w →
    ∀ cs, match fs with
      | [] => True
      | fr :: frs => Ends J.C.P J.f J.R cs (lone fr (frs ++ cs) w)

/-- One move of the top frame that turns nothing but what is still to be done. -/
def moveC : List Item → Option (List Item × Bool)
  | [] => some ([], true)
  | .code .ret :: k => some (.code .ret :: k, true)
  | .code .skip :: k => some (k, false)
  | .code (.label _) :: k => some (k, false)
  | .inBlock _ :: k => some (k, false)
  | .inScope _ :: k => some (k, false)
  | .code (.seq a b) :: k => some (.code a :: .code b :: k, false)
  | .code (.block id b) :: k => some (.code b :: .inBlock id :: k, false)
  | .code (.scope b) :: k => some (.code b :: .inScope b :: k, false)
  | .code (.exit id) :: k => match exitTo id k with | some k' => some (k', false) | none => none
  | .code (.goto l) :: k => match gotoIn l k with | some k' => some (k', false) | none => none
  | .code (.region _ ops false) :: k => some (.inRegion ops (List.range ops.size) :: k, false)
  | .inRegion _ [] :: k => some (k, false)
  | _ => none
/-- A loop's head. -/
def loopC : List Item → Option (List Item)
  | .code (.loop b) :: k => some (.code b :: .inLoop b :: k)
  | .inLoop b :: k => some (.code b :: .inLoop b :: k)
  | _ => none

theorem moveC_step {P : Program} {fn : FuncId} {tmps : Array Value} {todo todo' : List Item} {r : Bool} {cs : List Frame} {w : World} (h : moveC todo = some (todo', r)) :
    step P (lone (mkF fn tmps todo false) cs w) = .next (lone (mkF fn tmps todo' r) cs w) := by
  unfold moveC at h
  split at h <;> first
    | (simp only [Option.some.injEq, Prod.mk.injEq] at h; obtain ⟨rfl, rfl⟩ := h; exact step_lone_go (by simp [stepG, stepG.exec, mkF]))
    | (split at h
       · rename_i k' hk
         simp only [Option.some.injEq, Prod.mk.injEq] at h; obtain ⟨rfl, rfl⟩ := h; exact step_lone_go (by simp [stepG, stepG.exec, mkF, hk])
       · cases h)
    | cases h
theorem loopC_step {P : Program} {fn : FuncId} {tmps : Array Value} {todo todo' : List Item} {cs : List Frame} {w : World} (h : loopC todo = some todo') :
    step P (lone (mkF fn tmps todo false) cs w) = .next (lone (mkF fn tmps todo' false) cs w) := by
  unfold loopC at h
  split at h
  · cases h; exact step_lone_go (by simp [stepG, stepG.exec, mkF])
  · cases h; exact step_lone_go (by simp [stepG, stepG.exec, mkF])
  · cases h

/-- What has to be shown of one move: from every machine that a state stands for, some steps on, comes one that the other stands for. -/
theorem Run.of {J : Job} {s s' : St} (h : ∀ ρ w fr frs, FsRep s.heap ρ s.frs (fr :: frs) → WRep J.C ρ s.heap w → ∀ cs, ∃ ρ' w' fr' frs', FsRep s'.heap ρ' s'.frs (fr' :: frs') ∧ WRep J.C ρ' s'.heap w' ∧
      Steps J.C.P (lone fr (frs ++ cs) w) (lone fr' (frs' ++ cs) w')) (hr : Run J s') : Run J s := by
  intro ρ w fs hF hW cs
  cases fs with
  | nil => trivial
  | cons fr frs =>
    obtain ⟨ρ', w', fr', frs', hF', hW', hst⟩ := h ρ w fr frs hF hW cs
    exact (hr ρ' w' (fr' :: frs') hF' hW' cs).steps hst

theorem FsRep.top {h ρ s ss fr frs} (r : FsRep h ρ (s :: ss) (fr :: frs)) : ∃ tmps, fr = mkF s.fn tmps s.todo s.ret ∧ TRep h ρ s.tmps tmps ∧ FsRep h ρ ss frs :=
  let ⟨⟨t, h1, h2⟩, h3⟩ := r; ⟨t, h1, h2, h3⟩

/-! ### operations in the machine -/
def putS (ts : STmps) : Option Tmp → SV → STmps
  | some d, v => ts.set d (some v)
  | none, _ => ts

theorem TRep.put {h : SHeap} {ρ : Ren} {ts : STmps} {tmps : Array Value} {v : SV} {x : Value} (r : TRep h ρ ts tmps) (hv : VRep h ρ v x) (dst : Option Tmp) :
    TRep h ρ (putS ts dst v) (Act.put ⟨tmps, []⟩ dst x).tmps := by
  cases dst with
  | none => exact r
  | some d =>
    refine ⟨by simp [Act.put, putS, r.1], ?_⟩
    intro t u hu
    simp only [putS] at hu
    simp only [Act.put]
    by_cases htd : d = t
    · subst htd
      have hlt : d < ts.length := by simpa using (List.getElem?_eq_some_iff.1 hu).1
      rw [List.getElem?_set_self hlt] at hu
      cases hu
      exact ⟨x, by simp [r.1, hlt], hv⟩
    · rw [List.getElem?_set_ne htd] at hu
      obtain ⟨y, hy, hr⟩ := r.2 t u hu
      exact ⟨y, by rw [Array.getElem?_setIfInBounds_ne htd]; exact hy, hr⟩

/-- Is the operation's guard met? -/
inductive Gd where
  | yes
  | no
  | ask (b : Bool) (want : Bool) (d : Tmp)

def guardS (ops : Array Oper) (ts : STmps) (o : Oper) : Option Gd :=
  match o.guard with
  | none => some .yes
  | some (j, want) =>
    match ops[j]? with
    | some oj =>
      match oj.dst with
      | some d =>
        match ts[d]? with
        | some (some (.c (.v (.bool b)))) => some (.ask b want d)
        | some (some (.c (.b b))) => match b == want with | true => some .yes | false => some .no
        | some (some (.t [])) => some .no
        | _ => none
      | none => none
    | none => none

theorem guardS_spec {ops : Array Oper} {ts : STmps} {o : Oper} {h : SHeap} {ρ : Ren} {tmps : Array Value} {gd : Gd} (hg : guardS ops ts o = some gd) (r : TRep h ρ ts tmps) :
    match gd with
    | .yes => Region.wanted o (yielded ops tmps) = true
    | .no => Region.wanted o (yielded ops tmps) = false
    | .ask b want d => Region.wanted o (yielded ops tmps) = (b == want) ∧ ts[d]? = some (some (.c (.v (.bool b)))) := by
  unfold guardS at hg
  split at hg
  · rename_i hn; cases hg; simp [Region.wanted, hn]
  · rename_i j want hn
    split at hg
    · rename_i oj hj
      split at hg
      · rename_i d hd
        split at hg
        · rename_i b hts
          cases hg
          obtain ⟨x, hx, hv⟩ := r.2 _ _ hts
          have : x = .bool b := hv.here.symm
          subst this
          exact ⟨by simp [Region.wanted, hn, yielded, hj, hd, hx], hts⟩
        · rename_i b hts
          obtain ⟨x, hx, hv⟩ := r.2 _ _ hts
          have : x = .bool b := hv.here.symm
          subst this
          have hw : Region.wanted o (yielded ops tmps) = (b == want) := by simp [Region.wanted, hn, yielded, hj, hd, hx]
          split at hg
          · rename_i e; cases hg; simp [hw, e]
          · rename_i e; cases hg; simp [hw, e]
        · rename_i hts
          cases hg
          obtain ⟨x, hx, hv⟩ := r.2 _ _ hts
          have : x = undef := hv.here.symm
          subst this
          simp [Region.wanted, hn, yielded, hj, hd, hx, undef]
        · cases hg
      · cases hg
    · cases hg
theorem guardS_yes {ops : Array Oper} {ts : STmps} {o : Oper} {h : SHeap} {ρ : Ren} {tmps : Array Value} (hg : guardS ops ts o = some .yes) (r : TRep h ρ ts tmps) : Region.wanted o (yielded ops tmps) = true := guardS_spec hg r
theorem guardS_no {ops : Array Oper} {ts : STmps} {o : Oper} {h : SHeap} {ρ : Ren} {tmps : Array Value} (hg : guardS ops ts o = some .no) (r : TRep h ρ ts tmps) : Region.wanted o (yielded ops tmps) = false := guardS_spec hg r
theorem guardS_ask {ops : Array Oper} {ts : STmps} {o : Oper} {h : SHeap} {ρ : Ren} {tmps : Array Value} {b want : Bool} {d : Tmp} (hg : guardS ops ts o = some (.ask b want d)) (r : TRep h ρ ts tmps) :
    Region.wanted o (yielded ops tmps) = (b == want) ∧ ts[d]? = some (some (.c (.v (.bool b)))) := guardS_spec hg r

section
variable {P : Program} {fn : FuncId} {tmps : Array Value} {ops : Array Oper} {i : Nat} {rest : List Nat} {k : List Item} {cs : List Frame} {w w' : World} {o : Oper} {x : Value}

theorem step_skipped (ho : ops[i]? = some o) (hw : Region.wanted o (yielded ops tmps) = false) :
    step P (lone (mkF fn tmps (.inRegion ops (i :: rest) :: k) false) cs w) = .next (lone (mkF fn (Act.put ⟨tmps, []⟩ o.dst undef).tmps (.inRegion ops rest :: k) false) cs w) := by
  have := step_op_skip (P := P) (b := mkF fn #[] [] false) (a := ⟨tmps, []⟩) (k := k) (cs := cs) (w := w) (ops := ops) (i := i) (rest := rest) (by simp [ho, hw])
  simp only [ho, Option.bind_some] at this
  cases hd : o.dst <;> simpa [Frame.at, mkF, Act.put, hd] using this

theorem step_value (ho : ops[i]? = some o) (hw : Region.wanted o (yielded ops tmps) = true) (hr : (execOp (Act.eval ⟨tmps, []⟩) o).run P w = .ok (.value x) w' ∨ ((execOp (Act.eval ⟨tmps, []⟩) o).run P w = .ok .skip w' ∧ x = undef)) :
    step P (lone (mkF fn tmps (.inRegion ops (i :: rest) :: k) false) cs w) = .next (lone (mkF fn (Act.put ⟨tmps, []⟩ o.dst x).tmps (.inRegion ops rest :: k) false) cs w') := by
  have hg := stepG_op (P := P) (b := mkF fn #[] [] false) (a := ⟨tmps, []⟩) (k := k) (cs := cs) (w := w) (rest := rest) ho hw
  have hfin : ∀ v, ((mkF fn #[] [] false).at ⟨tmps, []⟩ (.inRegion ops (i :: rest) :: k)).finish v = mkF fn (Act.put ⟨tmps, []⟩ o.dst v).tmps (.inRegion ops rest :: k) false := by
    intro v; rw [Frame.finish_at, ho]; cases hd : o.dst <;> simp [Frame.at, mkF, Act.put, hd]
  refine step_lone_go (fr := (mkF fn #[] [] false).at ⟨tmps, []⟩ (.inRegion ops (i :: rest) :: k)) ?_
  rw [hg, ← hfin]
  rcases hr with hr | ⟨hr, rfl⟩ <;> simp [stepG.apply, hr]

theorem step_enter {g : FuncId} {args : Array Value} (ho : ops[i]? = some o) (hw : Region.wanted o (yielded ops tmps) = true) (hr : (execOp (Act.eval ⟨tmps, []⟩) o).run P w = .ok (.enter g args) w') :
    step P (lone (mkF fn tmps (.inRegion ops (i :: rest) :: k) false) cs w) = .next (lone (Frame.enter P g args .normal) (mkF fn tmps (.inRegion ops (i :: rest) :: k) false :: cs) w') := by
  have hg := stepG_op (P := P) (b := mkF fn #[] [] false) (a := ⟨tmps, []⟩) (k := k) (cs := cs) (w := w) (rest := rest) ho hw
  refine step_lone_go (fr := (mkF fn #[] [] false).at ⟨tmps, []⟩ (.inRegion ops (i :: rest) :: k)) ?_
  rw [hg]
  simp [stepG.apply, hr, Frame.at, mkF]

theorem finish_mkF (ho : ops[i]? = some o) (x : Value) : (mkF fn tmps (.inRegion ops (i :: rest) :: k) false).finish x = mkF fn (Act.put ⟨tmps, []⟩ o.dst x).tmps (.inRegion ops rest :: k) false := by
  cases hd : o.dst <;> simp [Frame.finish, mkF, Act.put, ho, hd]
end
end Go.Sx
