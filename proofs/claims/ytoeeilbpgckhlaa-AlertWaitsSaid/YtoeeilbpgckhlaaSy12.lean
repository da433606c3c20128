/- A symbolic run, second making: calls, laws of functions, loops over functions. -/
import Derived.Test.YtoeeilbpgckhlaaSy11
namespace Go.Sy
open Go

/-! ### arguments -/
def VsR (ρ : Ren) : List SV → List Value → Prop
  | [], [] => True
  | v :: vs, x :: xs => v.R ρ x ∧ VsR ρ vs xs
  | _, _ => False
def AsRep (h : SHeap) (ρ : Ren) (as : List SV) (args : List Value) : Prop := ∀ ρ', Ag h ρ ρ' → VsR ρ' as args
theorem VsR.length {ρ : Ren} : ∀ {as : List SV} {xs : List Value}, VsR ρ as xs → xs.length = as.length
  | [], [], _ => rfl
  | _ :: as, _ :: xs, ⟨_, h⟩ => by simp [VsR.length h]
  | [], _ :: _, h => h.elim
  | _ :: _, [], h => h.elim
theorem VsR.get {ρ : Ren} : ∀ {as : List SV} {xs : List Value}, VsR ρ as xs → ∀ {i : Nat} {v : SV}, as[i]? = some v → ∃ x, xs[i]? = some x ∧ v.R ρ x
  | _ :: _, x :: _, ⟨a, _⟩, 0, v, h => by simp at h; subst h; exact ⟨x, rfl, a⟩
  | _ :: _, _ :: _, ⟨_, b⟩, i + 1, v, h => by simpa using VsR.get b (by simpa using h)
  | [], [], _, i, v, h => by simp at h
  | [], _ :: _, h, _, _, _ => h.elim
  | _ :: _, [], h, _, _, _ => h.elim
theorem VsR.append {ρ : Ren} : ∀ {a : List SV} {x : List Value} {b : List SV} {y : List Value}, VsR ρ a x → VsR ρ b y → VsR ρ (a ++ b) (x ++ y)
  | [], [], _, _, _, h => h
  | _ :: _, _ :: _, _, _, ⟨p, q⟩, h => ⟨p, VsR.append q h⟩
  | [], _ :: _, _, _, h, _ => h.elim
  | _ :: _, [], _, _, h, _ => h.elim
theorem AsRep.get {h : SHeap} {ρ : Ren} {as : List SV} {xs : List Value} (r : AsRep h ρ as xs) {i : Nat} {v : SV} (e : as[i]? = some v) : ∃ x, xs[i]? = some x ∧ VRep h ρ v x := by
  obtain ⟨x, hx, _⟩ := (r ρ (Ag.refl _ _)).get e
  refine ⟨x, hx, fun ρ' ha => ?_⟩
  obtain ⟨x', hx', hr⟩ := (r ρ' ha).get e
  rw [hx] at hx'; cases hx'
  exact hr
def argsS (ev : Operand → Option SV) : List Operand → Option (List SV)
  | [] => some []
  | x :: r => match ev x, argsS ev r with | some v, some l => some (v :: l) | _, _ => none
theorem argsS_R {g : SHeap} {ρ : Ren} {ev : Operand → Option SV} {f : Operand → Value} (hE : ERep g ρ ev f) : ∀ {xs : List Operand} {l : List SV}, argsS ev xs = some l → AsRep g ρ l (xs.map f)
  | [], l, h => by simp only [argsS, Option.some.injEq] at h; subst h; exact fun _ _ => trivial
  | x :: r, l, h => by
    simp only [argsS] at h
    split at h
    · rename_i v l' hx hr
      cases h
      exact fun ρ' ha => ⟨hE x v hx ρ' ha, argsS_R hE hr ρ' ha⟩
    · cases h
theorem caps_R (ρ : Ren) : ∀ l : List (Nat × Nat), VsR ρ (l.map fun c => SV.c (.p c.1 c.2)) (l.map (capV ρ))
  | [] => trivial
  | _ :: r => ⟨rfl, caps_R ρ r⟩

/-- Which function is called, with what; or the body of which loop. -/
inductive Cal where
  | fn (g : FuncId) (as : List SV)
  | yield (k : Nat) (as : List SV)
def calV (v : SV) (as : List SV) : Option Cal :=
  match v with
  | .c (.v (.func (.func g) first captured)) =>
    match first.toList, captured.toList with
    | [], [] => some (.fn g as)
    | _, _ => none
  | .c (.f g caps) => some (.fn g (as ++ caps.map fun c => .c (.p c.1 c.2)))
  | .c (.y k) => some (.yield k as)
  | _ => none
def calleeS (ev : Operand → Option SV) (o : Oper) : Option Cal :=
  match o.op with
  | .call c =>
    match c.callee with
    | .value fo =>
      match ev fo, argsS ev c.args.toList with
      | some v, some as => calV v as
      | _, _ => none
    | _ => none
  | _ => none
def callable (P : Program) (g : FuncId) : Option Func :=
  match P.funcs[g]? with
  | some fn => match fn.body.isSome, fn.name == "runtime.NumGoroutine" with | true, false => some fn | _, _ => none
  | none => none
theorem callable_spec {P : Program} {g : FuncId} {fn : Func} (h : callable P g = some fn) : P.funcs[g]? = some fn ∧ fn.body.isSome = true ∧ (fn.name == "runtime.NumGoroutine") = false := by
  unfold callable at h
  split at h
  · rename_i fn' hfn
    split at h
    · rename_i h1 h2; cases h; exact ⟨hfn, h1, h2⟩
    · cases h
  · cases h
theorem run_callFunc {P : Program} {g : FuncId} {fn : Func} (h : callable P g = some fn) (args : Array Value) (w : World) : (callFunc g args).run P w = .ok (.enter g args) w := by
  obtain ⟨hfn, hb, hn⟩ := callable_spec h
  have hb' : ¬ fn.body = none := fun e => by simp [e] at hb
  simp at hn
  simp [callFunc, hfn, hb', hn]
/-- What a call comes to. -/
def CalRun (P : Program) (g : SHeap) (ρ : Ren) (m : Sem Next) (w : World) : Cal → Prop
  | .fn f bs => ∀ fn, callable P f = some fn → ∃ xs : Array Value, m.run P w = .ok (.enter f xs) w ∧ AsRep g ρ bs xs.toList
  | .yield k bs => ∃ args : Array Value, m.run P w = (Instr.yield (ρ k).b args).run P w ∧ AsRep g ρ bs args.toList
/-- A function's value called. -/
theorem calV_run {P : Program} {g : SHeap} {ρ : Ren} {v : SV} {as : List SV} {fv : Value} {args : Array Value} (hv : VRep g ρ v fv) (ha : AsRep g ρ as args.toList) {cl : Cal} (hc : calV v as = some cl) (w : World) :
    CalRun P g ρ (do let d ← Deferred.ofValue fv args; invoke d.target d.args) w cl := by
  unfold calV at hc
  split at hc
  · rename_i f first captured
    split at hc
    · rename_i h1 h2
      cases hc
      have e1 : first = #[] := by rw [← Array.toList_inj]; simpa using h1
      have e2 : captured = #[] := by rw [← Array.toList_inj]; simpa using h2
      subst e1; subst e2
      have hv : fv = .func (.func f) #[] #[] := hv.here
      subst hv
      exact fun fn hcb => ⟨args, by simp [Deferred.ofValue, invoke, run_callFunc hcb], ha⟩
    · cases hc
  · rename_i f caps
    cases hc
    have hv' : fv = .func (.func f) #[] (caps.map (capV ρ)).toArray := hv.here
    subst hv'
    refine fun fn hcb => ⟨args ++ (caps.map (capV ρ)).toArray, by simp [Deferred.ofValue, invoke, run_callFunc hcb], fun ρ' hag => ?_⟩
    have e : (Value.func (.func f) #[] (caps.map (capV ρ)).toArray) = .func (.func f) #[] (caps.map (capV ρ')).toArray := hv ρ' hag
    simp only [Value.func.injEq, true_and] at e
    have e : caps.map (capV ρ) = caps.map (capV ρ') := by simpa using e
    rw [Array.toList_append]
    simp only [e]
    exact (ha ρ' hag).append (caps_R ρ' caps)
  · rename_i k
    cases hc
    have hv : fv = .func (.yield (ρ k).b) #[] #[] := hv.here
    subst hv
    exact ⟨args, by simp [Deferred.ofValue, invoke], ha⟩
  · cases hc
theorem calleeS_run {P : Program} {h : SHeap} {ρ : Ren} {ev : Operand → Option SV} {f : Operand → Value} {o : Oper} {cl : Cal} (hE : ERep h ρ ev f) (hc : calleeS ev o = some cl) (w : World) : CalRun P h ρ (execOp f o) w cl := by
  unfold calleeS at hc
  split at hc
  · rename_i c ho
    split at hc
    · rename_i fo hcl
      split at hc
      · rename_i v as hfo has
        have hA := argsS_R hE has
        have hr := calV_run (P := P) (args := c.args.map f) (hE fo _ hfo) (by simpa using hA) hc w
        have hx : execOp f o = (do let d ← Deferred.ofValue (f fo) (c.args.map f); invoke d.target d.args : Sem Next) := by simp [execOp, ho, resolve, hcl]
        rw [hx]
        exact hr
      · cases hc
    · cases hc
  · cases hc
theorem callee_not_defer {ev : Operand → Option SV} {o : Oper} {cl : Cal} (h : calleeS ev o = some cl) : isDefer o = false := by
  unfold calleeS at h
  split at h
  · rename_i c ho; simp [isDefer, ho]
  · cases h

/-! ### a call's frame -/
def enterS (g : FuncId) (fn : Func) (as : List SV) : SF :=
  { fn := g, tmps := as.map some ++ List.replicate (fn.ntmps - as.length) (some (.t [])), todo := [.code (fn.body.getD (.refuse ""))] }
theorem enterS_rep {P : Program} {h : SHeap} {ρ : Ren} {g : FuncId} {fn : Func} {as : List SV} {args : Array Value} (hfn : P.funcs[g]? = some fn) (hb : fn.body.isSome = true) (ha : AsRep h ρ as args.toList) :
    FRep h ρ (enterS g fn as) (Frame.enter P g args .normal) := by
  have hl : args.size = as.length := by have := (ha ρ (Ag.refl _ _)).length; simpa using this
  refine ⟨args ++ Array.replicate (fn.ntmps - args.size) undef, ?_, ⟨by simp [enterS, hl], ?_⟩, fun k hk => by simp [enterS, SF.names, optL] at hk⟩
  · obtain ⟨c, hc⟩ := Option.isSome_iff_exists.1 hb
    simp [Frame.enter, enterS, mkF, hfn, hc, hdItems]
  · intro t v hv
    simp only [enterS] at hv
    rcases Nat.lt_or_ge t as.length with ht | ht
    · rw [List.getElem?_append_left (by simpa using ht)] at hv
      simp only [List.getElem?_map, Option.map_eq_some_iff, Option.some.injEq, exists_eq_right] at hv
      obtain ⟨x, hx, hr⟩ := ha.get hv
      exact ⟨x, by rw [Array.getElem?_append_left (by omega)]; simpa using hx, hr⟩
    · rw [List.getElem?_append_right (by simpa using ht)] at hv
      have hv2 := List.mem_of_getElem? hv
      simp only [List.mem_replicate, Option.some.injEq] at hv2
      obtain ⟨_, rfl⟩ := hv2
      have hlt := (List.getElem?_eq_some_iff.1 hv).1
      simp at hlt
      refine ⟨undef, ?_, fun _ _ => ⟨[], rfl, trivial⟩⟩
      rw [Array.getElem?_append_right (by omega)]
      simp only [Array.getElem?_replicate]
      rw [if_pos (by omega)]

/-- A round's slots. -/
def roundT : List Tmp → List SV → STmps → STmps
  | t :: ts, a :: as, l => roundT ts as (l.set t (some a))
  | _, _, l => l
theorem roundT_rep {h : SHeap} {ρ : Ren} : ∀ {ps : List Tmp} {as : List SV} {l : STmps} {tmps : Array Value} {xs : List Value}, ps.length = as.length → TRep h ρ l tmps → AsRep h ρ as xs →
    TRep h ρ (roundT ps as l) ((ps.zip xs).foldl (fun tm y => tm.setIfInBounds y.1 y.2) tmps)
  | [], [], l, tmps, xs, _, ht, _ => by simpa [roundT] using ht
  | p :: ps, a :: as, l, tmps, xs, hl, ht, ha => by
    have hxl := (ha ρ (Ag.refl _ _)).length
    match xs, hxl with
    | x :: xs, _ =>
      simp only [roundT, List.zip_cons_cons, List.foldl_cons]
      exact roundT_rep (by simpa using hl) (ht.put (ds := []) (v := a) (x := x) (fun ρ' hag => (ha ρ' hag).1) (some p)) (fun ρ' hag => (ha ρ' hag).2)
  | [], _ :: _, _, _, _, hl, _, _ => by simp at hl
  | _ :: _, [], _, _, _, hl, _, _ => by simp at hl
def roundS (k : Nat) (L : SLoop) (as : List SV) : SF :=
  { fn := L.fn, tmps := roundT L.params as L.tmps, todo := [.code L.assign, .beginRound, .code L.body], round := some k }

section
variable {P : Program} {C : Cfg} {f : FuncId} {R : Ending → World → Prop}
theorem enter_move {s : SF} {ss : List SF} {h : SHeap} {ops : Array Oper} {i : Nat} {rest : List Nat} {k : List Item} {o : Oper} {g : FuncId} {as : List SV} {fn : Func} (hr : s.ret = false) (hh : s.hd = none) (htd : s.todo = .inRegion ops (i :: rest) :: k) (ho : ops[i]? = some o)
    (hw : ∀ ρ tmps, TRep h ρ s.tmps tmps → Region.wanted o (yielded ops tmps) = true) (hc : calleeS (sev s.tmps) o = some (.fn g as)) (hcb : callable P g = some fn) (hR : Run P C f R ⟨enterS g fn as :: s :: ss, h⟩) : Run P C f R ⟨s :: ss, h⟩ := by
  refine Run.of ?_ hR
  intro ρ w fr frs hF hW cs
  obtain ⟨tmps, rfl, hts, hn, hss⟩ := hF.top
  obtain ⟨xs, hrun, hxs⟩ := calleeS_run (P := P) (TRep.erep (a := ⟨tmps, s.dfs.map (markD ρ)⟩) hts) hc w fn hcb
  obtain ⟨hfn, hb, _⟩ := callable_spec hcb
  refine ⟨ρ, w, Frame.enter P g xs .normal, mkF ρ s tmps :: frs, ⟨enterS_rep hfn hb hxs, ⟨tmps, rfl, hts, hn⟩, hss⟩, hW, .one ?_⟩
  rw [List.cons_append, mkF_run ρ tmps hr hh, htd]
  exact step_enter ho (callee_not_defer hc) (hw ρ tmps hts) hrun
theorem yield_move {s : SF} {ss : List SF} {h : SHeap} {ops : Array Oper} {i : Nat} {rest : List Nat} {k : List Item} {o : Oper} {l : Nat} {as : List SV} {L : SLoop} (hr : s.ret = false) (hh : s.hd = none) (htd : s.todo = .inRegion ops (i :: rest) :: k) (ho : ops[i]? = some o)
    (hw : ∀ ρ tmps, TRep h ρ s.tmps tmps → Region.wanted o (yielded ops tmps) = true) (hc : calleeS (sev s.tmps) o = some (.yield l as)) (hl : h[l]? = some (some (.loop L))) (hpl : L.params.length = as.length)
    (hR : Run P C f R ⟨roundS l L as :: s :: ss, h⟩) : Run P C f R ⟨s :: ss, h⟩ := by
  refine Run.of ?_ hR
  intro ρ w fr frs hF hW cs
  obtain ⟨tmps, rfl, hts, hn, hss⟩ := hF.top
  obtain ⟨fz, hW⟩ := hW
  obtain ⟨args, hrun, hargs⟩ := calleeS_run (P := P) (TRep.erep (a := ⟨tmps, s.dfs.map (markD ρ)⟩) hts) hc w
  obtain ⟨tm, h1, h2, _⟩ := hW.loopAt hl
  have hal := (hargs ρ (Ag.refl _ _)).length
  simp only [Array.length_toList] at hal
  have hy : (Instr.yield (ρ l).b args).run P w = .ok (.round (ρ l).b L.fn ((L.params.zip args.toList).foldl (fun tm y => tm.setIfInBounds y.1 y.2) tm) L.assign L.body) w := by
    have hsz : args.size = L.params.toArray.size := by simp [hal, hpl]
    simp only [Instr.yield, Sem.run_bind, run_getLoop h1, Result.andThen_ok]
    rw [if_neg (by simp [hsz])]
    simp only [Sem.run_pure, Result.ok.injEq, Next.round.injEq, true_and, and_true]
    rw [← Array.foldl_toList]
    simp
  have hround : TRep h ρ (roundS l L as).tmps ((L.params.zip args.toList).foldl (fun tm y => tm.setIfInBounds y.1 y.2) tm) := roundT_rep hpl h2 hargs
  refine ⟨ρ, w, Frame.round (ρ l).b L.fn ((L.params.zip args.toList).foldl (fun tm y => tm.setIfInBounds y.1 y.2) tm) L.assign L.body .normal, mkF ρ s tmps :: frs,
    ⟨⟨(L.params.zip args.toList).foldl (fun tm y => tm.setIfInBounds y.1 y.2) tm, rfl, hround, fun k' hk' => by simp [roundS, SF.names, optL] at hk'; subst hk'; exact ⟨_, hl⟩⟩, ⟨tmps, rfl, hts, hn⟩, hss⟩, ⟨fz, hW⟩, .one ?_⟩
  rw [List.cons_append, mkF_run ρ tmps hr hh, htd]
  exact step_round ho (callee_not_defer hc) (hw ρ tmps hts) (hrun.trans hy)

/-! ### loops over functions are begun -/
/-- The heap with the loop's own blocks; the loop's name; the frame's marks. -/
def rangeS (s : SF) (h : SHeap) (params : List Tmp) (assign body : Code) : Option (SHeap × Nat × List Nat) :=
  match s.round with
  | none => some (h ++ [some (.dfr true)] ++ [some (.loop { state := .ready, pending := none, fn := s.fn, tmps := s.tmps, params, assign, body, dn := h.length })], h.length + 1, h.length :: s.dfs)
  | some l0 =>
    match h[l0]? with
    | some (some (.loop L0)) => some (h ++ [some (.loop { state := .ready, pending := none, fn := s.fn, tmps := s.tmps, params, assign, body, dn := L0.dn })], h.length, s.dfs)
    | _ => none
theorem WRepF.push {C : Cfg} {ρ : Ren} {h : SHeap} {w : World} {fz : Nat → Prop} {q : SO} {x : Blk} {o : Obj} (r : WRepF C ρ h w fz) (hx : x.b = w.heap.size) (hq : q.Rep h ρ (w.alloc o) fz x) :
    WRepF C (upd ρ h.length x) (h ++ [some q]) (w.alloc o) fz ∧ Ag h ρ (upd ρ h.length x) ∧ Sub h (h ++ [some q]) := by
  have al := alk_pad h 1
  have hf : (h ++ List.replicate 1 none)[h.length]? = some none := by simp
  have hq' : q.Rep (h ++ List.replicate 1 none) ρ (w.alloc o) fz x := hq.later al.sub (Ag.refl _ _) (fun _ h => h) (fun _ _ => rfl) (fun _ => rfl)
  have := (r.alk al).alloc hf hx hq'
  have e : (h ++ List.replicate 1 none).set h.length (some q) = h ++ [some q] := by
    rw [List.set_append_right _ _ (Nat.le_refl _)]
    simp
  rw [e] at this
  refine ⟨this, (upd_ag hf).sub al.sub, fun k q' e' => ⟨q', by rw [List.getElem?_append_left (given_lt e')]; exact e'⟩⟩
theorem range_move {s : SF} {ss : List SF} {h : SHeap} {fo : Operand} {params : Array Tmp} {assign body : Code} {k : List Item} {h' : SHeap} {l : Nat} {ds : List Nat} {v : SV} {g : FuncId} {as : List SV} {fn : Func} (hr : s.ret = false) (hh : s.hd = none)
    (htd : s.todo = .code (.rangeFunc fo params assign body) :: k) (hv : sev s.tmps fo = some v) (hs : rangeS s h params.toList assign body = some (h', l, ds)) (hc : calV v [.c (.y l)] = some (.fn g as)) (hcb : callable P g = some fn)
    (hR : Run P C f R ⟨enterS g fn as :: { s with todo := k, hd := some (false, l), dfs := ds } :: ss, h'⟩) : Run P C f R ⟨s :: ss, h⟩ := by
  refine Run.of ?_ hR
  intro ρ w fr frs hF hW cs
  obtain ⟨tmps, rfl, hts, hn, hss⟩ := hF.top
  obtain ⟨fz, hW⟩ := hW
  have hE := TRep.erep (a := ⟨tmps, s.dfs.map (markD ρ)⟩) hts
  obtain ⟨hfn, hb, _⟩ := callable_spec hcb
  -- what entering the loop leaves
  have key : ∃ (ρ' : Ren) (w' : World) (mark : List Deferred), Ag h ρ ρ' ∧ Sub h h' ∧ WRepF C ρ' h' w' fz ∧ (∃ q, h'[l]? = some (some q)) ∧ NamesOk h' ds ∧ ds.map (markD ρ') = mark ++ s.dfs.map (markD ρ) ∧
      (Instr.enterLoop s.fn tmps params assign body (s.round.map fun k => (ρ k).b)).run P w = .ok ((ρ' l).b, mark) w' := by
    unfold rangeS at hs
    have dfsOk : NamesOk h s.dfs := fun k hk => hn k (by simp only [SF.names]; exact List.mem_append_left _ hk)
    split at hs
    · rename_i hro
      cases hs
      obtain ⟨W1, a1, s1⟩ := hW.push (q := .dfr true) (x := ⟨w.heap.size, 0, 0⟩) (o := .deferred (some [])) rfl (heap_alloc_new w _)
      have hl1 : (h ++ [some (SO.dfr true)]).length = h.length + 1 := by simp
      have hd1 : (h ++ [some (SO.dfr true)])[h.length]? = some (some (.dfr true)) := by simp
      obtain ⟨W2, a2, s2⟩ := W1.push (q := .loop { state := .ready, pending := none, fn := s.fn, tmps := s.tmps, params := params.toList, assign, body, dn := h.length }) (x := ⟨w.heap.size + 1, 0, 0⟩)
        (o := .loop { state := .ready, pending := none, fn := s.fn, tmps, params, assign, body, defers := w.heap.size }) (by simp) ⟨tmps, by
          have := heap_alloc_new (w.alloc (.deferred (some []))) (.loop { state := .ready, pending := none, fn := s.fn, tmps, params, assign, body, defers := w.heap.size })
          simpa [upd_same] using this, hts.later s1 a1, _, hd1⟩
      rw [hl1] at W2 a2
      have hdn : upd (upd ρ h.length ⟨w.heap.size, 0, 0⟩) (h.length + 1) ⟨w.heap.size + 1, 0, 0⟩ h.length = ⟨w.heap.size, 0, 0⟩ := by rw [upd_other _ _ (by omega), upd_same]
      have hag := a1.trans (a2.sub s1)
      refine ⟨_, _, [{ target := .collected w.heap.size, args := #[] }], hag, s1.trans s2, W2, ⟨.loop { state := .ready, pending := none, fn := s.fn, tmps := s.tmps, params := params.toList, assign, body, dn := h.length }, by rw [← hl1]; simp⟩, ?_, ?_, ?_⟩
      · intro k hk
        rcases List.mem_cons.1 hk with rfl | hk
        · exact s2 _ _ hd1
        · exact (s1.trans s2) _ _ (dfsOk k hk).choose_spec
      · simp only [List.map_cons, markD, hdn, List.singleton_append, List.cons.injEq, true_and]
        exact List.map_congr_left fun k hk => by obtain ⟨q, e⟩ := dfsOk k hk; exact congrArg (fun x : Blk => ({ target := .collected x.b, args := #[] } : Deferred)) (hag k q e)
      · rw [upd_same]
        simp [Instr.enterLoop, hro]
    · rename_i l0 hro
      split at hs
      · rename_i L0 hl0
        cases hs
        obtain ⟨tm, h1, h2, q0, hq0⟩ := hW.loopAt hl0
        obtain ⟨W2, a2, s2⟩ := hW.push (q := .loop { state := .ready, pending := none, fn := s.fn, tmps := s.tmps, params := params.toList, assign, body, dn := L0.dn }) (x := ⟨w.heap.size, 0, 0⟩)
          (o := .loop { state := .ready, pending := none, fn := s.fn, tmps, params, assign, body, defers := (ρ L0.dn).b }) rfl ⟨tmps, by
            have := heap_alloc_new w (.loop { state := .ready, pending := none, fn := s.fn, tmps, params, assign, body, defers := (ρ L0.dn).b })
            simpa using this, hts, _, hq0⟩
        refine ⟨_, _, [], a2, s2, W2, ⟨.loop { state := .ready, pending := none, fn := s.fn, tmps := s.tmps, params := params.toList, assign, body, dn := L0.dn }, by simp⟩, fun k hk => (NamesOk.later dfsOk s2) k hk, ?_, ?_⟩
        · simp only [List.nil_append]
          exact List.map_congr_left fun k hk => by obtain ⟨q, e⟩ := dfsOk k hk; exact congrArg (fun x : Blk => ({ target := .collected x.b, args := #[] } : Deferred)) (a2 k q e)
        · rw [upd_same]
          simp [Instr.enterLoop, hro, run_getLoop h1]
      · cases hs
  obtain ⟨ρ', w', mark, hag, hsub, hW', ⟨ql, hql⟩, hds, hmark, hent⟩ := key
  have hvr : VRep h' ρ' v (Act.eval ⟨tmps, s.dfs.map (markD ρ)⟩ fo) := (hE fo v hv).later hsub hag
  have hys : AsRep h' ρ' [.c (.y l)] (#[Value.func (.yield (ρ' l).b) #[] #[]] : Array Value).toList := fun ρ'' ha => ⟨show _ = _ from by rw [ha l ql hql], trivial⟩
  obtain ⟨xs, hrun, hxs⟩ := calV_run (P := P) hvr hys hc w' fn hcb
  have hof : ∃ d, (Deferred.ofValue (Act.eval ⟨tmps, s.dfs.map (markD ρ)⟩ fo) #[Value.func (.yield (ρ' l).b) #[] #[]]).run P w' = .ok d w' ∧ (invoke d.target d.args).run P w' = .ok (.enter g xs) w' := by
    rw [Sem.run_bind] at hrun
    unfold calV at hc
    split at hc
    · rename_i f0 first captured
      have he : Act.eval ⟨tmps, s.dfs.map (markD ρ)⟩ fo = .func (.func f0) first captured := hvr.here
      rw [he] at hrun ⊢
      exact ⟨_, rfl, by simpa [Deferred.ofValue] using hrun⟩
    · rename_i f0 caps
      have he : Act.eval ⟨tmps, s.dfs.map (markD ρ)⟩ fo = .func (.func f0) #[] (caps.map (capV ρ')).toArray := hvr.here
      rw [he] at hrun ⊢
      exact ⟨_, rfl, by simpa [Deferred.ofValue] using hrun⟩
    · cases hc
    · cases hc
  obtain ⟨d, hd1, hd2⟩ := hof
  refine ⟨ρ', w', Frame.enter P g xs .normal, mkF ρ' { s with todo := k, hd := some (false, l), dfs := ds } tmps :: frs, ⟨enterS_rep hfn hb hxs, ⟨tmps, rfl, hts.later hsub hag, ?_⟩, hss.later hsub hag⟩, ⟨fz, hW'⟩, .one ?_⟩
  · intro k' hk'
    simp only [SF.names, List.mem_append] at hk'
    rcases hk' with hk' | hk' | hk'
    · exact hds k' hk'
    · exact NamesOk.later (h := h) hn hsub k' (by simp only [SF.names, List.mem_append]; exact .inr (.inl hk'))
    · simp at hk'; subst hk'; exact ⟨_, hql⟩
  · have hro : (s.round.map fun k => (ρ' k).b) = s.round.map fun k => (ρ k).b := by
      cases hr' : s.round with
      | none => rfl
      | some k0 =>
        obtain ⟨q, e⟩ := hn k0 (by simp [SF.names, hr', optL])
        simp [hag k0 q e]
    have e1 : mkF ρ' { s with todo := k, hd := some (false, l), dfs := ds } tmps = (baseF s.fn (s.round.map fun k => (ρ k).b)).atR ⟨tmps, mark ++ s.dfs.map (markD ρ)⟩ (.inRangeFunc (ρ' l).b :: k) := by
      rw [← hmark, ← hro]
      simp [mkF, Frame.atR, baseF, hr, hdItems]
    rw [List.cons_append, e1, mkF_run ρ tmps hr hh, htd]
    exact stepR_rangeFunc (b := baseF s.fn (s.round.map fun k => (ρ k).b)) (a := ⟨tmps, s.dfs.map (markD ρ)⟩) hent (by simpa [resolve, Act.eval] using hd1) hd2

/-! ### laws of functions -/
/-- A call's word, wherever the blocks that it looks at hold what T says. -/
def CallOk (P : Program) (C : Cfg) (nm : Nat) (g : FuncId) (as : List SV) (T : List (Nat × SO)) (e : Eff) : Prop :=
  ∀ (h : SHeap) (ρ : Ren) (w : World) (args : Array Value), (∀ x ∈ T, h[x.1]? = some (some x.2)) → Free h nm e.news.length → WRep C ρ h w → AsRep h ρ as args.toList →
    Calls P g args w fun en w' => ∃ ρ' x, en = .returned x ∧ Ag h ρ ρ' ∧ VRep (e.app nm h) ρ' e.out x ∧ WRep C ρ' (e.app nm h) w'
structure Law (P : Program) where
  g : FuncId
  eff : SHeap → Nat → List SV → KT → Prop
  ok : ∀ {C : Cfg} {h : SHeap} {nm : Nat} {as : List SV} {K : KT}, eff h nm as K → ∃ T e, (∀ x ∈ T, h[x.1]? = some (some x.2)) ∧ CallOk P C nm g as T e ∧ K T e
def lawAt {P : Program} (g : FuncId) : List (Law P) → Option (Law P)
  | [] => none
  | s :: r => match Nat.beq s.g g with | true => some s | false => lawAt g r
theorem lawAt_g {P : Program} {g : FuncId} : ∀ {l : List (Law P)} {s : Law P}, lawAt g l = some s → s.g = g
  | [], s, h => by simp [lawAt] at h
  | x :: r, s, h => by
    simp only [lawAt] at h
    split at h
    · rename_i e; cases h; exact Nat.eq_of_beq_eq_true e
    · exact lawAt_g h
/-- The law that a call has. -/
def lawOf {P : Program} (laws : List (Law P)) (ev : Operand → Option SV) (o : Oper) : Option (Law P × List SV) :=
  match calleeS ev o with
  | some (.fn g as) =>
    match lawAt g laws, callable P g with
    | some s, some _ => some (s, as)
    | _, _ => none
  | _ => none
theorem law_move {laws : List (Law P)} {s : SF} {ss : List SF} {h : SHeap} {ops : Array Oper} {i : Nat} {rest : List Nat} {k : List Item} {o : Oper} {S : Law P} {as : List SV} {T : List (Nat × SO)} {e : Eff} (hr : s.ret = false) (hh : s.hd = none) (htd : s.todo = .inRegion ops (i :: rest) :: k) (ho : ops[i]? = some o)
    (hw : ∀ ρ tmps, TRep h ρ s.tmps tmps → Region.wanted o (yielded ops tmps) = true) (hc : lawOf laws (sev s.tmps) o = some (S, as)) (hT : ∀ x ∈ T, h[x.1]? = some (some x.2)) (hok : CallOk P C h.length S.g as T e)
    (hR : Run P C f R ⟨{ s with tmps := putS s.tmps o.dst e.out, todo := .inRegion ops rest :: k } :: ss, applyE h e⟩) : Run P C f R ⟨s :: ss, h⟩ := by
  unfold lawOf at hc
  split at hc
  · rename_i g as' hcal
    split at hc
    · rename_i s' fn hs' hcb
      cases hc
      refine Run.of ?_ hR
      intro ρ w fr frs hF hW cs
      obtain ⟨tmps, rfl, hts, hn, hss⟩ := hF.top
      have al := alk_pad h e.news.length
      have sbp : Sub h (h ++ List.replicate e.news.length none) := al.sub
      obtain ⟨xs, hrun, hxs⟩ := calleeS_run (P := P) (TRep.erep (a := ⟨tmps, s.dfs.map (markD ρ)⟩) hts) hcal w fn hcb
      have hxs' : AsRep (h ++ List.replicate e.news.length none) ρ as xs.toList := fun ρ' ha => hxs ρ' (ha.sub sbp)
      obtain ⟨en, w', fr', ⟨ρ', x, rfl, hag, hvr, hW'⟩, hcomes, hfr, hleave⟩ := hok _ ρ w xs (fun y hy => (al _ _).1 (hT y hy)) (free_pad h _) (hW.alk al) hxs' (mkF ρ s tmps :: (frs ++ cs))
      have sb : Sub h (applyE h e) := sbp.trans (Eff.app_sub _ _ _)
      have hag' : Ag h ρ ρ' := hag.sub sbp
      refine ⟨ρ', w', _, frs, ⟨⟨(Act.put ⟨tmps, s.dfs.map (markD ρ)⟩ o.dst x).tmps, rfl, (hts.later sb hag').put hvr _, NamesOk.later (h := h) hn sb⟩, hss.later sb hag'⟩, hW', ?_⟩
      have h1 := mkF_ag (s := { s with tmps := putS s.tmps o.dst e.out, todo := .inRegion ops rest :: k }) (Act.put ⟨tmps, s.dfs.map (markD ρ)⟩ o.dst x).tmps hn hag'
      rw [h1, mkF_run ρ (s := { s with tmps := putS s.tmps o.dst e.out, todo := .inRegion ops rest :: k }) _ (by exact hr) (by exact hh), ← finish_in (k := k) (rest := rest) ho]
      have e0 : mkF ρ s tmps = (baseF s.fn (s.round.map fun k => (ρ k).b)).atR ⟨tmps, s.dfs.map (markD ρ)⟩ (.inRegion ops (i :: rest) :: k) := by rw [mkF_run ρ tmps hr hh, htd]
      rw [e0] at hcomes ⊢
      rw [lawAt_g hs'] at hcomes
      refine .head (step_enter ho (callee_not_defer hcal) (hw ρ tmps hts) hrun) (Steps.trans hcomes (.one ?_))
      exact step_leave_returned hleave
    · cases hc
  · cases hc
end
end Go.Sy
