/- A symbolic run, second making: the machine. -/
import Derived.Test.YtoeeilbpgckhlaaSy9
import Derived.Laws.Entries
import Derived.Below
import Derived.AtR
import Derived.RangeFuncIn
import Derived.RangeFuncLeaves
namespace Go.Sy
open Go

/-- A frame by symbols: which function; its slots; what is to be done; is it on its way out; does it wait for a function that it ranges over (or is that done); its deferred marks; of which loop it is a round. -/
structure SF where
  fn : FuncId
  tmps : STmps
  todo : List Item
  ret : Bool := false
  hd : Option (Bool × Nat) := none
  dfs : List Nat := []
  round : Option Nat := none
structure St where
  frs : List SF
  heap : SHeap

def hdItems (ρ : Ren) : Option (Bool × Nat) → List Item
  | none => []
  | some (false, k) => [.inRangeFunc (ρ k).b]
  | some (true, k) => [.endRangeFunc (ρ k).b]
def markD (ρ : Ren) (k : Nat) : Deferred := { target := .collected (ρ k).b, args := #[] }
def baseF (fn : FuncId) (ro : Option Nat) : Frame := { fn, tmps := #[], todo := [], defers := [], mode := .run, kind := .normal, roundOf := ro }
def mkF (ρ : Ren) (s : SF) (tmps : Array Value) : Frame :=
  { fn := s.fn, tmps, todo := hdItems ρ s.hd ++ s.todo, defers := s.dfs.map (markD ρ), mode := match s.ret with | true => .returning | false => .run, kind := .normal, roundOf := s.round.map fun k => (ρ k).b }
/-- The names that a frame's own parts bear. -/
def SF.names (s : SF) : List Nat := s.dfs ++ (optL s.round ++ (match s.hd with | some (_, k) => [k] | none => []))
def NamesOk (h : SHeap) (l : List Nat) : Prop := ∀ k ∈ l, ∃ q : SO, h[k]? = some (some q)
theorem NamesOk.later {h g : SHeap} {l : List Nat} (r : NamesOk h l) (s : Sub h g) : NamesOk g l := fun k hk => let ⟨q, e⟩ := r k hk; s k q e

def FRep (h : SHeap) (ρ : Ren) (s : SF) (f : Frame) : Prop := ∃ tmps, f = mkF ρ s tmps ∧ TRep h ρ s.tmps tmps ∧ NamesOk h s.names
def FsRep (h : SHeap) (ρ : Ren) : List SF → List Frame → Prop
  | [], [] => True
  | s :: ss, f :: fs => FRep h ρ s f ∧ FsRep h ρ ss fs
  | _, _ => False
theorem mkF_ag {h : SHeap} {ρ ρ' : Ren} {s : SF} (tmps : Array Value) (n : NamesOk h s.names) (ha : Ag h ρ ρ') : mkF ρ' s tmps = mkF ρ s tmps := by
  have eq : ∀ k ∈ s.names, ρ' k = ρ k := fun k hk => let ⟨q, e⟩ := n k hk; ha k q e
  unfold mkF
  have h1 : s.dfs.map (markD ρ') = s.dfs.map (markD ρ) := List.map_congr_left fun k hk => by unfold markD; rw [eq k (by simp [SF.names, hk])]
  have h2 : (s.round.map fun k => (ρ' k).b) = s.round.map fun k => (ρ k).b := by
    cases hr : s.round with
    | none => rfl
    | some k => simp [eq k (by simp [SF.names, hr, optL])]
  have h3 : hdItems ρ' s.hd = hdItems ρ s.hd := by
    cases hh : s.hd with
    | none => rfl
    | some x =>
      obtain ⟨b, k⟩ := x
      have := eq k (by simp [SF.names, hh])
      cases b <;> simp [hdItems, this]
  rw [h1, h2, h3]
theorem FRep.later {h g ρ ρ' s f} (r : FRep h ρ s f) (sb : Sub h g) (ha : Ag h ρ ρ') : FRep g ρ' s f := by
  obtain ⟨t, h1, h2, h3⟩ := r
  exact ⟨t, by rw [h1, mkF_ag t h3 ha], h2.later sb ha, h3.later sb⟩
theorem FsRep.later {h g ρ ρ'} (sb : Sub h g) (ha : Ag h ρ ρ') : ∀ {ss fs}, FsRep h ρ ss fs → FsRep g ρ' ss fs
  | [], [], _ => trivial
  | _ :: _, _ :: _, ⟨a, b⟩ => ⟨a.later sb ha, FsRep.later sb ha b⟩
  | [], _ :: _, r => r.elim
  | _ :: _, [], r => r.elim
theorem FsRep.top {h ρ s ss fr frs} (r : FsRep h ρ (s :: ss) (fr :: frs)) : ∃ tmps, fr = mkF ρ s tmps ∧ TRep h ρ s.tmps tmps ∧ NamesOk h s.names ∧ FsRep h ρ ss frs :=
  let ⟨⟨t, h1, h2, h4⟩, h3⟩ := r; ⟨t, h1, h2, h4, h3⟩
/-- A frame that runs, as the kit has it. -/
theorem mkF_run (ρ : Ren) {s : SF} (tmps : Array Value) (hr : s.ret = false) (hh : s.hd = none) :
    mkF ρ s tmps = (baseF s.fn (s.round.map fun k => (ρ k).b)).atR ⟨tmps, s.dfs.map (markD ρ)⟩ s.todo := by
  simp [mkF, Frame.atR, baseF, hr, hh, hdItems]

/-- The call of 'f' that runs here ends as R has it. -/
def Ends (P : Program) (f : FuncId) (R : Ending → World → Prop) (cs : List Frame) (m : Machine) : Prop :=
  ∃ e w' fr, R e w' ∧ Comes P m (lone fr cs w') e ∧ fr.fn = f ∧ fr.leaving P w' e
theorem Ends.steps {P f R cs m m'} (h : Steps P m m') (e : Ends P f R cs m') : Ends P f R cs m :=
  let ⟨x, w', fr, h1, h2, h3⟩ := e; ⟨x, w', fr, h1, h2.of_steps h, h3⟩

/-- From this state on the call of 'f' ends as R has it. -/
def Run (P : Program) (C : Cfg) (f : FuncId) (R : Ending → World → Prop) (s : St) : Prop :=
  ∀ (ρ : Ren) (w : World) (fs : List Frame), FsRep s.heap ρ s.frs fs → WRep C ρ s.heap w →
    ∀ cs, match fs with
      | [] => True
      | fr :: frs => Ends P f R cs (lone fr (frs ++ cs) w)

section
variable {P : Program} {C : Cfg} {f : FuncId} {R : Ending → World → Prop}
/-- One move. -/
theorem Run.of {s s' : St} (h : ∀ ρ w fr frs, FsRep s.heap ρ s.frs (fr :: frs) → WRep C ρ s.heap w → ∀ cs, ∃ ρ' w' fr' frs', FsRep s'.heap ρ' s'.frs (fr' :: frs') ∧ WRep C ρ' s'.heap w' ∧
      Steps P (lone fr (frs ++ cs) w) (lone fr' (frs' ++ cs) w')) (hr : Run P C f R s') : Run P C f R s := by
  intro ρ w fs hF hW cs
  cases fs with
  | nil => trivial
  | cons fr frs =>
    obtain ⟨ρ', w', fr', frs', hF', hW', hst⟩ := h ρ w fr frs hF hW cs
    exact (hr ρ' w' (fr' :: frs') hF' hW' cs).steps hst
end

/-! ### moves that turn nothing but what is still to be done -/
def moveC : List Item → Option (List Item)
  | .code .skip :: k => some k
  | .code (.label _) :: k => some k
  | .inBlock _ :: k => some k
  | .inScope _ :: k => some k
  | .code (.seq a b) :: k => some (.code a :: .code b :: k)
  | .code (.block id b) :: k => some (.code b :: .inBlock id :: k)
  | .code (.scope b) :: k => some (.code b :: .inScope b :: k)
  | .code (.exit id) :: k => exitTo id k
  | .code (.goto l) :: k => gotoIn l k
  | .code (.region _ ops false) :: k => some (.inRegion ops (List.range ops.size) :: k)
  | .inRegion _ [] :: k => some k
  | _ => none
/-- A loop's head. -/
def loopC : List Item → Option (List Item)
  | .code (.loop b) :: k => some (.code b :: .inLoop b :: k)
  | .inLoop b :: k => some (.code b :: .inLoop b :: k)
  | _ => none
section
variable {P : Program} {b : Frame} {a : Act} {cs : List Frame} {w : World} {todo todo' : List Item}
theorem moveC_step (h : moveC todo = some todo') : step P (lone (b.atR a todo) cs w) = .next (lone (b.atR a todo') cs w) := by
  unfold moveC at h
  split at h
  · cases h; exact stepR_skip
  · cases h; exact stepR_label
  · cases h; exact stepR_inBlock
  · cases h; exact step_lone_go (by simp [stepG, stepG.exec, Frame.atR])
  · cases h; exact stepR_seq
  · cases h; exact stepR_block
  · cases h; exact step_lone_go (by simp [stepG, stepG.exec, Frame.atR])
  · exact stepR_exit h
  · exact stepR_goto h
  · cases h; exact stepR_region
  · cases h; exact stepR_region_end
  · cases h
theorem loopC_step (h : loopC todo = some todo') : step P (lone (b.atR a todo) cs w) = .next (lone (b.atR a todo') cs w) := by
  unfold loopC at h
  split at h
  · cases h; exact stepR_loop
  · cases h; exact stepR_inLoop
  · cases h
end

/-! ### operations -/
def putS (ts : STmps) : Option Tmp → SV → STmps
  | some d, v => ts.set d (some v)
  | none, _ => ts
theorem TRep.put {h : SHeap} {ρ : Ren} {ts : STmps} {tmps : Array Value} {v : SV} {x : Value} {ds : List Deferred} (r : TRep h ρ ts tmps) (hv : VRep h ρ v x) (dst : Option Tmp) :
    TRep h ρ (putS ts dst v) (Act.put ⟨tmps, ds⟩ dst x).tmps := by
  cases dst with
  | none => exact r
  | some d =>
    refine ⟨by simp [Act.put, putS, r.1], ?_⟩
    intro t u hu
    simp only [putS] at hu
    simp only [Act.put]
    by_cases htd : d = t
    · subst htd
      have hlt : d < ts.length := by simpa using (List.getElem?_eq_some_iff.1 hu).1
      rw [List.getElem?_set_self hlt] at hu
      cases hu
      exact ⟨x, by simp [r.1, hlt], hv⟩
    · rw [List.getElem?_set_ne htd] at hu
      obtain ⟨y, hy, hr⟩ := r.2 t u hu
      exact ⟨y, by rw [Array.getElem?_setIfInBounds_ne htd]; exact hy, hr⟩
theorem put_ds (tmps : Array Value) (ds : List Deferred) (d : Option Tmp) (x : Value) : Act.put ⟨tmps, ds⟩ d x = ⟨(Act.put ⟨tmps, ds⟩ d x).tmps, ds⟩ := by cases d <;> rfl

/-- Is the operation's guard met? -/
inductive Gd where
  | yes
  | no
  | ask (b : Bool) (want : Bool) (d : Tmp)
def guardS (ops : Array Oper) (ts : STmps) (o : Oper) : Option Gd :=
  match o.guard with
  | none => some .yes
  | some (j, want) =>
    match ops[j]? with
    | some oj =>
      match oj.dst with
      | some d =>
        match ts[d]? with
        | some (some (.c (.v (.bool b)))) => some (.ask b want d)
        | some (some (.c (.b b))) => match b == want with | true => some .yes | false => some .no
        | some (some (.t [])) => some .no
        | _ => none
      | none => none
    | none => none
theorem guardS_spec {ops : Array Oper} {ts : STmps} {o : Oper} {h : SHeap} {ρ : Ren} {tmps : Array Value} {gd : Gd} (hg : guardS ops ts o = some gd) (r : TRep h ρ ts tmps) :
    match gd with
    | .yes => Region.wanted o (yielded ops tmps) = true
    | .no => Region.wanted o (yielded ops tmps) = false
    | .ask b want d => Region.wanted o (yielded ops tmps) = (b == want) ∧ ts[d]? = some (some (.c (.v (.bool b)))) := by
  unfold guardS at hg
  split at hg
  · rename_i hn; cases hg; simp [Region.wanted, hn]
  · rename_i j want hn
    split at hg
    · rename_i oj hj
      split at hg
      · rename_i d hd
        split at hg
        · rename_i b hts
          cases hg
          obtain ⟨x, hx, hv⟩ := r.2 _ _ hts
          have : x = .bool b := hv.here
          subst this
          exact ⟨by simp [Region.wanted, hn, yielded, hj, hd, hx], hts⟩
        · rename_i b hts
          obtain ⟨x, hx, hv⟩ := r.2 _ _ hts
          have : x = .bool b := hv.here
          subst this
          have hw : Region.wanted o (yielded ops tmps) = (b == want) := by simp [Region.wanted, hn, yielded, hj, hd, hx]
          split at hg
          · rename_i e; cases hg; simp [hw, e]
          · rename_i e; cases hg; simp [hw, e]
        · rename_i hts
          cases hg
          obtain ⟨x, hx, hv⟩ := r.2 _ _ hts
          obtain ⟨us, rfl, hus⟩ := hv.here
          cases us with
          | nil => simp [Region.wanted, hn, yielded, hj, hd, hx]
          | cons _ _ => exact hus.elim
        · cases hg
      · cases hg
    · cases hg
theorem guardS_yes {ops : Array Oper} {ts : STmps} {o : Oper} {h : SHeap} {ρ : Ren} {tmps : Array Value} (hg : guardS ops ts o = some .yes) (r : TRep h ρ ts tmps) : Region.wanted o (yielded ops tmps) = true := guardS_spec hg r
theorem guardS_no {ops : Array Oper} {ts : STmps} {o : Oper} {h : SHeap} {ρ : Ren} {tmps : Array Value} (hg : guardS ops ts o = some .no) (r : TRep h ρ ts tmps) : Region.wanted o (yielded ops tmps) = false := guardS_spec hg r
theorem guardS_ask {ops : Array Oper} {ts : STmps} {o : Oper} {h : SHeap} {ρ : Ren} {tmps : Array Value} {b want : Bool} {d : Tmp} (hg : guardS ops ts o = some (.ask b want d)) (r : TRep h ρ ts tmps) :
    Region.wanted o (yielded ops tmps) = (b == want) ∧ ts[d]? = some (some (.c (.v (.bool b)))) := guardS_spec hg r

def isDefer (o : Oper) : Bool := match o.op with | .defer _ => true | _ => false
theorem not_defer {o : Oper} (h : isDefer o = false) : ∀ c, o.op ≠ .defer c := fun c e => by simp [isDefer, e] at h
section
variable {P : Program} {b : Frame} {tmps : Array Value} {ds : List Deferred} {ops : Array Oper} {i : Nat} {rest : List Nat} {k : List Item} {cs : List Frame} {w w' : World} {o : Oper} {x : Value}
theorem step_skipped (ho : ops[i]? = some o) (hw : Region.wanted o (yielded ops tmps) = false) :
    step P (lone (b.atR ⟨tmps, ds⟩ (.inRegion ops (i :: rest) :: k)) cs w) = .next (lone (b.atR ⟨(Act.put ⟨tmps, ds⟩ o.dst undef).tmps, ds⟩ (.inRegion ops rest :: k)) cs w) := by
  have := stepR_op_skip (P := P) (b := b) (a := ⟨tmps, ds⟩) (k := k) (cs := cs) (w := w) (ops := ops) (i := i) (rest := rest) (by simp [ho, hw])
  simp only [ho, Option.bind_some] at this
  rw [put_ds] at this
  exact this
theorem finish_in (ho : ops[i]? = some o) (v : Value) : (b.atR ⟨tmps, ds⟩ (.inRegion ops (i :: rest) :: k)).finish v = b.atR ⟨(Act.put ⟨tmps, ds⟩ o.dst v).tmps, ds⟩ (.inRegion ops rest :: k) := by
  rw [Frame.finish_atR]
  simp only [ho, Option.bind_some]
  rw [put_ds]
theorem step_value (ho : ops[i]? = some o) (hnd : isDefer o = false) (hw : Region.wanted o (yielded ops tmps) = true) (hr : (execOp (Act.eval ⟨tmps, ds⟩) o).run P w = .ok (.value x) w' ∨ ((execOp (Act.eval ⟨tmps, ds⟩) o).run P w = .ok .skip w' ∧ x = undef)) :
    step P (lone (b.atR ⟨tmps, ds⟩ (.inRegion ops (i :: rest) :: k)) cs w) = .next (lone (b.atR ⟨(Act.put ⟨tmps, ds⟩ o.dst x).tmps, ds⟩ (.inRegion ops rest :: k)) cs w') := by
  have hg := stepGR_op (P := P) (b := b) (a := ⟨tmps, ds⟩) (k := k) (cs := cs) (w := w) (rest := rest) ho hw
  refine step_lone_go (fr := b.atR ⟨tmps, ds⟩ (.inRegion ops (i :: rest) :: k)) ?_
  rw [hg, ← finish_in ho, Oper.semAt_eq _ _ _ (not_defer hnd)]
  rcases hr with hr | ⟨hr, rfl⟩ <;> simp [stepG.apply, hr]
theorem step_enter {g : FuncId} {args : Array Value} (ho : ops[i]? = some o) (hnd : isDefer o = false) (hw : Region.wanted o (yielded ops tmps) = true) (hr : (execOp (Act.eval ⟨tmps, ds⟩) o).run P w = .ok (.enter g args) w') :
    step P (lone (b.atR ⟨tmps, ds⟩ (.inRegion ops (i :: rest) :: k)) cs w) = .next (lone (Frame.enter P g args .normal) (b.atR ⟨tmps, ds⟩ (.inRegion ops (i :: rest) :: k) :: cs) w') := by
  have hg := stepGR_op (P := P) (b := b) (a := ⟨tmps, ds⟩) (k := k) (cs := cs) (w := w) (rest := rest) ho hw
  refine step_lone_go (fr := b.atR ⟨tmps, ds⟩ (.inRegion ops (i :: rest) :: k)) ?_
  rw [hg, Oper.semAt_eq _ _ _ (not_defer hnd)]
  simp [stepG.apply, hr, Frame.atR]
theorem step_round {l : Nat} {fn : FuncId} {tm : Array Value} {assign body : Code} (ho : ops[i]? = some o) (hnd : isDefer o = false) (hw : Region.wanted o (yielded ops tmps) = true) (hr : (execOp (Act.eval ⟨tmps, ds⟩) o).run P w = .ok (.round l fn tm assign body) w') :
    step P (lone (b.atR ⟨tmps, ds⟩ (.inRegion ops (i :: rest) :: k)) cs w) = .next (lone (Frame.round l fn tm assign body .normal) (b.atR ⟨tmps, ds⟩ (.inRegion ops (i :: rest) :: k) :: cs) w') := by
  have hg := stepGR_op (P := P) (b := b) (a := ⟨tmps, ds⟩) (k := k) (cs := cs) (w := w) (rest := rest) ho hw
  refine step_lone_go (fr := b.atR ⟨tmps, ds⟩ (.inRegion ops (i :: rest) :: k)) ?_
  rw [hg, Oper.semAt_eq _ _ _ (not_defer hnd)]
  simp [stepG.apply, hr, Frame.atR]
end

/-- What an operation does, in the machine. -/
def applyE (h : SHeap) (e : Eff) : SHeap := e.app h.length (h ++ List.replicate e.news.length none)
theorem free_pad (h : SHeap) (n : Nat) : Free (h ++ List.replicate n none) h.length n := fun i hi => by
  rw [List.getElem?_append_right (by omega)]
  simp [hi]
section
variable {P : Program} {C : Cfg} {f : FuncId} {R : Ending → World → Prop}
theorem op_move {s : SF} {ss : List SF} {h : SHeap} {ops : Array Oper} {i : Nat} {rest : List Nat} {k : List Item} {o : Oper} {T : List (Nat × SO)} {e : Eff} (hr : s.ret = false) (hh : s.hd = none) (htd : s.todo = .inRegion ops (i :: rest) :: k)
    (ho : ops[i]? = some o) (hnd : isDefer o = false) (hw : ∀ ρ tmps, TRep h ρ s.tmps tmps → Region.wanted o (yielded ops tmps) = true) (hT : ∀ x ∈ T, h[x.1]? = some (some x.2)) (hok : OpOk P C h.length o (sev s.tmps) T e)
    (hR : Run P C f R ⟨{ s with tmps := putS s.tmps o.dst e.out, todo := .inRegion ops rest :: k } :: ss, applyE h e⟩) : Run P C f R ⟨s :: ss, h⟩ := by
  refine Run.of ?_ hR
  intro ρ w fr frs hF hW cs
  obtain ⟨tmps, rfl, hts, hn, hss⟩ := hF.top
  have al := alk_pad h e.news.length
  have sbp : Sub h (h ++ List.replicate e.news.length none) := al.sub
  obtain ⟨ρ', x, w', hag, hrun, hx, hW'⟩ := hok _ ρ (Act.eval ⟨tmps, s.dfs.map (markD ρ)⟩) w (fun y hy => (al _ _).1 (hT y hy)) (free_pad h _) (hW.alk al) (TRep.erep (a := ⟨tmps, _⟩) (hts.later sbp (Ag.refl _ _)))
  have sb : Sub h (applyE h e) := sbp.trans (Eff.app_sub _ _ _)
  have hag' : Ag h ρ ρ' := hag.sub sbp
  refine ⟨ρ', w', _, frs, ⟨⟨(Act.put ⟨tmps, s.dfs.map (markD ρ)⟩ o.dst x).tmps, rfl, (hts.later sb hag').put hx _, hn.later sb⟩, hss.later sb hag'⟩, hW', .one ?_⟩
  have h1 := mkF_ag (s := { s with tmps := putS s.tmps o.dst e.out, todo := .inRegion ops rest :: k }) (Act.put ⟨tmps, s.dfs.map (markD ρ)⟩ o.dst x).tmps hn hag'
  rw [h1, mkF_run ρ tmps hr hh, mkF_run ρ _ (by exact hr) (by exact hh), htd]
  exact step_value ho hnd (hw ρ tmps hts) hrun
theorem skip_move {s : SF} {ss : List SF} {h : SHeap} {ops : Array Oper} {i : Nat} {rest : List Nat} {k : List Item} {o : Oper} (hr : s.ret = false) (hh : s.hd = none) (htd : s.todo = .inRegion ops (i :: rest) :: k)
    (ho : ops[i]? = some o) (hw : ∀ ρ tmps, TRep h ρ s.tmps tmps → Region.wanted o (yielded ops tmps) = false)
    (hR : Run P C f R ⟨{ s with tmps := putS s.tmps o.dst (.t []), todo := .inRegion ops rest :: k } :: ss, h⟩) : Run P C f R ⟨s :: ss, h⟩ := by
  refine Run.of ?_ hR
  intro ρ w fr frs hF hW cs
  obtain ⟨tmps, rfl, hts, hn, hss⟩ := hF.top
  refine ⟨ρ, w, _, frs, ⟨⟨(Act.put ⟨tmps, s.dfs.map (markD ρ)⟩ o.dst undef).tmps, rfl, hts.put (v := .t []) (fun _ _ => ⟨[], rfl, trivial⟩) _, hn⟩, hss⟩, hW, .one ?_⟩
  rw [mkF_run ρ tmps hr hh, mkF_run ρ _ (by exact hr) (by exact hh), htd]
  exact step_skipped ho (hw ρ tmps hts)
theorem todo_move {s : SF} {ss : List SF} {h : SHeap} {todo' : List Item} (hr : s.ret = false) (hh : s.hd = none) (hs : ∀ (b : Frame) (a : Act) cs w, step P (lone (b.atR a s.todo) cs w) = .next (lone (b.atR a todo') cs w))
    (hR : Run P C f R ⟨{ s with todo := todo' } :: ss, h⟩) : Run P C f R ⟨s :: ss, h⟩ := by
  refine Run.of ?_ hR
  intro ρ w fr frs hF hW cs
  obtain ⟨tmps, rfl, hts, hn, hss⟩ := hF.top
  refine ⟨ρ, w, _, frs, ⟨⟨tmps, rfl, hts, hn⟩, hss⟩, hW, .one ?_⟩
  rw [mkF_run ρ tmps hr hh, mkF_run ρ _ (by exact hr) (by exact hh)]
  exact hs _ _ _ _
end
end Go.Sy
