/- A symbolic run, second making: results, returns, rounds, calls. -/
import Derived.Test.YtoeeilbpgckhlaaSy10
namespace Go.Sy
open Go

/-! ### what a function hands back -/
def resF (tmps : Array Value) (r : ResultVar) : Sem Value :=
  match r with
  | .tmp t => pure (tmps.getD t undef)
  | .cell a t => do loadVar t (← asAddr (tmps.getD a undef))
theorem results_eq (fn : Func) (tmps : Array Value) : results fn tmps = (do let vs ← fn.results.mapM (resF tmps); pure (if h : vs.size = 1 then vs[0] else .tuple vs)) := by
  unfold results
  congr 1
def res1 (P : Program) (h : SHeap) (ts : STmps) (r : ResultVar) : Option (SC ⊕ List SC) :=
  match r with
  | .tmp t =>
    match ts[t]? with
    | some (some (.c y)) => some (.inl y)
    | some (some (.a cs)) => some (.inr cs)
    | _ => none
  | .cell a ty =>
    match ts[a]?, isAggT P ty, sizeT P ty with
    | some (some (.c (.p k off))), some ag, some n =>
      match h[k]? with
      | some (some (.cells l _ _)) =>
        match ag with
        | true => match decide (off + n ≤ l.length) with | true => some (.inr ((l.drop off).take n)) | false => none
        | false => match l[off]? with | some y => some (.inl y) | none => none
      | _ => none
    | _, _, _ => none
def resL (P : Program) (h : SHeap) (ts : STmps) : List ResultVar → Option (List (SC ⊕ List SC))
  | [] => some []
  | r :: rs => match res1 P h ts r, resL P h ts rs with | some x, some xs => some (x :: xs) | _, _ => none
/-- The value that a frame hands back, by symbols. -/
def resS (P : Program) (h : SHeap) (ts : STmps) (fn : Func) : Option SV :=
  match fn.results.toList with
  | [.tmp t] => match ts[t]? with | some (some v) => some v | _ => none
  | rs =>
    match resL P h ts rs with
    | some [x] => some (one x)
    | some xs => some (.t xs)
    | none => none
theorem res1_run {P : Program} {C : Cfg} {h : SHeap} {ts : STmps} {ρ : Ren} {w : World} {fz : Nat → Prop} {tmps : Array Value} (hT : TRep h ρ ts tmps) (hW : WRepF C ρ h w fz) {r : ResultVar} {x : SC ⊕ List SC} (hr : res1 P h ts r = some x) :
    ∃ v, (resF tmps r).run P w = .ok v w ∧ VRep h ρ (one x) v := by
  cases r with
  | tmp t =>
    simp only [res1] at hr
    split at hr
    · rename_i y hy; cases hr
      obtain ⟨v, hv, hr⟩ := hT.2 _ _ hy
      exact ⟨v, by simp [resF, Array.getD_eq_getD_getElem?, hv], hr⟩
    · rename_i y hy; cases hr
      obtain ⟨v, hv, hr⟩ := hT.2 _ _ hy
      exact ⟨v, by simp [resF, Array.getD_eq_getD_getElem?, hv], hr⟩
    · cases hr
  | cell a ty =>
    simp only [res1] at hr
    split at hr
    · rename_i k off ag n ha hag hn
      obtain ⟨v, hv, hvr⟩ := hT.2 _ _ ha
      have hva : v = .pointer (some ⟨(ρ k).b, (ρ k).o + off, none⟩) := hvr.here
      have hg : tmps.getD a undef = .pointer (some ⟨(ρ k).b, (ρ k).o + off, none⟩) := by simp [Array.getD_eq_getD_getElem?, hv, hva]
      split at hr
      · rename_i l t0 m hk
        obtain ⟨h0, vs, tail, h1, _, h3⟩ := hW.cellsAt hk
        rw [h0, Nat.zero_add] at hg
        have hsz : vs.length = l.length := h3.here.length
        split at hr
        · split at hr
          · rename_i hle
            simp only [decide_eq_true_eq] at hle
            cases hr
            refine ⟨.agg ((vs.drop off).take n).toArray, ?_, fun ρ' ha => ⟨_, rfl, ((h3 ρ' ha).drop).take⟩⟩
            have hlen : ((vs.drop off).take n).length = n := by simp; omega
            have hl := run_loadCells_list (P := P) w ⟨(ρ k).b, off, none⟩ ((vs.drop off).take n) (fun j v hv => by
              rw [addr_add_own, h1.cell]
              rw [List.getElem?_take] at hv
              split at hv
              · simp only [List.getElem?_drop] at hv
                rw [List.getElem?_append_left (given_lt hv), hv]
              · cases hv)
            rw [hlen] at hl
            simp [resF, hg, asAddr, loadVar, run_isAgg hag, run_sizeOf hn, hl]
          · cases hr
        · split at hr
          · rename_i y hy
            cases hr
            obtain ⟨u, hu, _⟩ := h3.here.get hy
            refine ⟨u, ?_, fun ρ' ha => ?_⟩
            · have hl : w.cell? ⟨(ρ k).b, off, none⟩ = some u := by
                rw [h1.cell, List.getElem?_append_left (given_lt hu), hu]
              simp [resF, hg, asAddr, loadVar, run_isAgg hag, hl]
            · obtain ⟨u', hu', hr⟩ := (h3 ρ' ha).get hy
              rw [hu] at hu'; cases hu'
              exact hr
          · cases hr
      · cases hr
    · cases hr
theorem resL_run {P : Program} {C : Cfg} {h : SHeap} {ts : STmps} {ρ : Ren} {w : World} {fz : Nat → Prop} {tmps : Array Value} (hT : TRep h ρ ts tmps) (hW : WRepF C ρ h w fz) : ∀ {rs : List ResultVar} {xs : List (SC ⊕ List SC)}, resL P h ts rs = some xs →
    ∃ vs : List Value, (rs.mapM (resF tmps)).run P w = .ok vs w ∧ vs.length = xs.length ∧ ∀ ρ', Ag h ρ ρ' → TsR ρ' xs vs
  | [], xs, hr => by simp only [resL, Option.some.injEq] at hr; subst hr; exact ⟨[], by simp, rfl, fun _ _ => trivial⟩
  | r :: rs, xs, hr => by
    simp only [resL] at hr
    split at hr
    · rename_i x xs' h1 h2
      cases hr
      obtain ⟨v, hv, hvr⟩ := res1_run hT hW h1
      obtain ⟨vs, hvs, hl, hd⟩ := resL_run hT hW h2
      refine ⟨v :: vs, ?_, by simp [hl], fun ρ' ha => ⟨one_R.1 (hvr ρ' ha), hd ρ' ha⟩⟩
      rw [List.mapM_cons, Sem.run_bind, hv]
      simp [hvs]
    · cases hr
theorem resS_run {P : Program} {C : Cfg} {h : SHeap} {ts : STmps} {ρ : Ren} {w : World} {fz : Nat → Prop} {tmps : Array Value} {fn : Func} (hT : TRep h ρ ts tmps) (hW : WRepF C ρ h w fz) {v : SV} (hr : resS P h ts fn = some v) :
    ∃ x, (results fn tmps).run P w = .ok x w ∧ VRep h ρ v x := by
  unfold resS at hr
  have arr : ∀ {vs : List Value}, (fn.results.toList.mapM (resF tmps)).run P w = .ok vs w → (results fn tmps).run P w = .ok (if h : vs.toArray.size = 1 then vs.toArray[0] else .tuple vs.toArray) w := fun {vs} hvs => by
    rw [results_eq, Sem.run_bind]
    have : (fn.results.mapM (resF tmps)).run P w = .ok vs.toArray w := by
      rw [Array.mapM_eq_mapM_toList, map_eq_pure_bind, Sem.run_bind, hvs]
      rfl
    rw [this]
    rfl
  split at hr
  · rename_i t hrs
    split at hr
    · rename_i u hu
      cases hr
      obtain ⟨x, hx, hxr⟩ := hT.2 _ _ hu
      refine ⟨x, ?_, hxr⟩
      have := arr (vs := [x]) (by rw [hrs]; simp [resF, Array.getD_eq_getD_getElem?, hx])
      simpa using this
    · cases hr
  · have key : ∀ xs, resL P h ts fn.results.toList = some xs → ∃ vs : List Value, vs.length = xs.length ∧ (results fn tmps).run P w = .ok (if h : vs.toArray.size = 1 then vs.toArray[0] else .tuple vs.toArray) w ∧ ∀ ρ', Ag h ρ ρ' → TsR ρ' xs vs := fun xs hxs => by
      obtain ⟨vs, hvs, hl, hd⟩ := resL_run hT hW hxs
      exact ⟨vs, hl, arr hvs, hd⟩
    split at hr
    · rename_i x hx
      cases hr
      obtain ⟨vs, hl, hrun, hd⟩ := key _ hx
      match vs, hl with
      | [v], _ => exact ⟨v, by simpa using hrun, fun ρ' ha => one_R.2 (hd ρ' ha).1⟩
    · rename_i xs hne hxs
      cases hr
      obtain ⟨vs, hl, hrun, hd⟩ := key _ hxs
      have h1 : vs.length ≠ 1 := fun e => by
        rw [hl] at e
        match xs, e with
        | [y], _ => exact hne y rfl
      exact ⟨.tuple vs.toArray, by rw [hrun]; simp [h1], fun ρ' ha => ⟨vs, rfl, hd ρ' ha⟩⟩
    · cases hr

/-! ### loops over functions: their objects -/
theorem run_getLoop {P : Program} {w : World} {l : Nat} {r : Loop} (h : w.heap[l]? = some (.loop r)) : (Instr.getLoop l).run P w = .ok r w := by
  simp [Instr.getLoop, getObj, Sem.run, h]
def putO (w : World) (l : Nat) (o : Obj) : World := { w with heap := w.heap.setIfInBounds l o }
theorem run_setLoop {P : Program} {w : World} {l : Nat} {r : Loop} (h : w.heap[l]? = some (.loop r)) (o : Obj) : (setObj l o).run P w = .ok () (putO w l o) := by
  simp [setObj, Sem.run, h, putO]
theorem putO_same {w : World} {l : Nat} {o o' : Obj} (h : w.heap[l]? = some o) : (putO w l o').heap[l]? = some o' := by
  have := (Array.getElem?_eq_some_iff.1 h).1
  simp [putO, this]
theorem putO_other {w : World} {l b : Nat} {o : Obj} (h : b ≠ l) : (putO w l o).heap[b]? = w.heap[b]? := by
  simp [putO, Array.getElem?_setIfInBounds_ne (Ne.symm h)]
theorem putO_size {w : World} {l : Nat} {o : Obj} : (putO w l o).heap.size = w.heap.size := by simp [putO]
section
variable {C : Cfg} {ρ : Ren} {h : SHeap} {w : World} {fz : Nat → Prop}
theorem WRepF.loopAt {k : Nat} {l : SLoop} (r : WRepF C ρ h w fz) (e : h[k]? = some (some (.loop l))) :
    ∃ tmps, w.heap[(ρ k).b]? = some (.loop { state := l.state, pending := l.pending, fn := l.fn, tmps, params := l.params.toArray, assign := l.assign, body := l.body, defers := (ρ l.dn).b }) ∧ TRep h ρ l.tmps tmps ∧ ∃ q, h[l.dn]? = some (some q) := r.objs k _ e
/-- A loop's state and pending jump are set. -/
theorem WRepF.putLoop {k : Nat} {l : SLoop} (r : WRepF C ρ h w fz) (e : h[k]? = some (some (.loop l))) {tmps : Array Value}
    (h1 : w.heap[(ρ k).b]? = some (.loop { state := l.state, pending := l.pending, fn := l.fn, tmps, params := l.params.toArray, assign := l.assign, body := l.body, defers := (ρ l.dn).b })) (ht : TRep h ρ l.tmps tmps) (st : LoopState) (pe : Option Code) :
    WRepF C ρ (h.set k (some (.loop { l with state := st, pending := pe }))) (putO w (ρ k).b (.loop { state := st, pending := pe, fn := l.fn, tmps, params := l.params.toArray, assign := l.assign, body := l.body, defers := (ρ l.dn).b })) fz := by
  obtain ⟨_, _, _, hq⟩ := r.loopAt e
  exact r.set e trivial (fun b hb => putO_other hb) putO_size rfl rfl rfl ⟨tmps, putO_same h1, ht, hq⟩
end

section
variable {P : Program} {C : Cfg} {f : FuncId} {R : Ending → World → Prop}

/-- A frame that goes on its way out. -/
theorem ret_move {s : SF} {ss : List SF} {h : SHeap} (hr : s.ret = false) (hh : s.hd = none) (hro : s.round = none) (ht : s.todo = [] ∨ ∃ k, s.todo = .code .ret :: k)
    (hR : Run P C f R ⟨{ s with ret := true } :: ss, h⟩) : Run P C f R ⟨s :: ss, h⟩ := by
  refine Run.of ?_ hR
  intro ρ w fr frs hF hW cs
  obtain ⟨tmps, rfl, hts, hn, hss⟩ := hF.top
  refine ⟨ρ, w, mkF ρ { s with ret := true } tmps, frs, ⟨⟨tmps, rfl, hts, hn⟩, hss⟩, hW, .one ?_⟩
  have e1 : mkF ρ { s with ret := true } tmps = { (baseF s.fn none).atR ⟨tmps, s.dfs.map (markD ρ)⟩ s.todo with mode := .returning } := by simp [mkF, baseF, Frame.atR, hh, hro, hdItems]
  rw [e1, mkF_run ρ tmps hr hh, hro]
  rcases ht with ht | ⟨k, ht⟩
  · rw [ht]; exact stepR_end rfl
  · rw [ht]; exact stepR_ret rfl
/-- A mark among the deferred calls is taken away. -/
theorem dfs_move {s : SF} {ss : List SF} {h : SHeap} {d : Nat} {ds : List Nat} (hr : s.ret = true) (hd : s.dfs = d :: ds) (hk : h[d]? = some (some (.dfr true)))
    (hR : Run P C f R ⟨{ s with dfs := ds } :: ss, h.set d (some (.dfr false))⟩) : Run P C f R ⟨s :: ss, h⟩ := by
  refine Run.of ?_ hR
  intro ρ w fr frs hF hW cs
  obtain ⟨tmps, rfl, hts, hn, hss⟩ := hF.top
  obtain ⟨fz, hW⟩ := hW
  have hb : w.heap[(ρ d).b]? = some (.deferred (some [])) := hW.objs d _ hk
  have htake : (Instr.takeDeferred (ρ d).b).run P w = .ok [] (putO w (ρ d).b (.deferred none)) := by
    simp [Instr.takeDeferred, getObj, setObj, Sem.run, hb, putO]
  have sb : Sub h (h.set d (some (.dfr false))) := sub_set
  have hn' : NamesOk h ({ s with dfs := ds } : SF).names := fun k hk => hn k (by simp only [SF.names, hd] at hk ⊢; exact List.mem_cons_of_mem _ hk)
  refine ⟨ρ, putO w (ρ d).b (.deferred none), mkF ρ { s with dfs := ds } tmps, frs, ⟨⟨tmps, rfl, hts.later sb (Ag.refl _ _), hn'.later sb⟩, hss.later sb (Ag.refl _ _)⟩,
    ⟨fz, hW.set hk trivial (fun b hb => putO_other hb) putO_size rfl rfl rfl (show (putO w (ρ d).b (.deferred none)).heap[(ρ d).b]? = some (.deferred none) from putO_same hb)⟩, .one ?_⟩
  have := step_collected (P := P) (fr := mkF ρ s tmps) (cs := frs ++ cs) (d := markD ρ d) (r := (ρ d).b) (ds := ds.map (markD ρ)) (calls := []) (by simp [mkF, hr]) (by simp [mkF, hd]) rfl htake
  rw [this]
  simp [mkF, hr]

/-- What a frame hands back comes to its caller. -/
theorem pop_move {s c : SF} {ss : List SF} {h : SHeap} {fd : Func} {v : SV} (hr : s.ret = true) (hd : s.dfs = []) (hf : P.funcs[s.fn]? = some fd) (hv : resS P h s.tmps fd = some v) (hcr : c.ret = false)
    {c' : SF} (hc : (c.hd = none ∧ ∃ ops i rest k o, c.todo = .inRegion ops (i :: rest) :: k ∧ ops[i]? = some o ∧ c' = { c with tmps := putS c.tmps o.dst v, todo := .inRegion ops rest :: k }) ∨ (∃ l, c.hd = some (false, l) ∧ c' = { c with hd := some (true, l) }))
    (hR : Run P C f R ⟨c' :: ss, h⟩) : Run P C f R ⟨s :: c :: ss, h⟩ := by
  refine Run.of ?_ hR
  intro ρ w fr frs hF hW cs
  obtain ⟨tmps, rfl, hts, hn, hss⟩ := hF.top
  obtain ⟨fz, hW⟩ := hW
  cases frs with
  | nil => exact hss.elim
  | cons fr2 frs2 =>
    obtain ⟨tmps2, rfl, hts2, hn2, hss2⟩ := hss.top
    obtain ⟨x, hx, hvr⟩ := resS_run hts hW hv
    have hstep := step_leave_returned (P := P) (fr := mkF ρ s tmps) (c := mkF ρ c tmps2) (cs := frs2 ++ cs) (w := w) (v := x) ⟨by simp [mkF, hr], by simp [mkF, hd], rfl, fd, hf, hx⟩
    rcases hc with ⟨hch, ops, i, rest, k, o, hct, ho, rfl⟩ | ⟨l, hch, rfl⟩
    · refine ⟨ρ, w, _, frs2, ⟨⟨(Act.put ⟨tmps2, c.dfs.map (markD ρ)⟩ o.dst x).tmps, rfl, hts2.put hvr o.dst, hn2⟩, hss2⟩, ⟨fz, hW⟩, .one ?_⟩
      simp only [List.cons_append]
      rw [hstep, mkF_run ρ tmps2 hcr hch, hct, finish_in ho, mkF_run ρ _ (by exact hcr) (by exact hch)]
    · refine ⟨ρ, w, mkF ρ { c with hd := some (true, l) } tmps2, frs2, ⟨⟨tmps2, rfl, hts2, fun k hk => hn2 k (by simpa [SF.names, hch] using hk)⟩, hss2⟩, ⟨fz, hW⟩, .one ?_⟩
      simp only [List.cons_append]
      rw [hstep]
      simp [mkF, hch, hdItems, Frame.finish]
/-- The function that was ranged over is done. -/
theorem endRange_move {s : SF} {ss : List SF} {h : SHeap} {l : Nat} {L : SLoop} (hr : s.ret = false) (hh : s.hd = some (true, l)) (hl : h[l]? = some (some (.loop L))) (hb : L.state ≠ .busy)
    (hR : Run P C f R ⟨{ s with hd := none, todo := (L.pending.map Item.code).toList ++ s.todo } :: ss, h.set l (some (.loop { L with state := .exhausted }))⟩) : Run P C f R ⟨s :: ss, h⟩ := by
  refine Run.of ?_ hR
  intro ρ w fr frs hF hW cs
  obtain ⟨tmps, rfl, hts, hn, hss⟩ := hF.top
  obtain ⟨fz, hW⟩ := hW
  obtain ⟨tm, h1, h2, _⟩ := hW.loopAt hl
  have hW' := hW.putLoop hl h1 h2 .exhausted L.pending
  have sb : Sub h (h.set l (some (.loop { L with state := .exhausted }))) := sub_set
  have hrun : (Instr.endLoop (ρ l).b).run P w = .ok L.pending (putO w (ρ l).b (.loop { state := .exhausted, pending := L.pending, fn := L.fn, tmps := tm, params := L.params.toArray, assign := L.assign, body := L.body, defers := (ρ L.dn).b })) := by
    simp [Instr.endLoop, run_getLoop h1, run_setLoop h1, hb]
  have hn' : NamesOk h ({ s with hd := none, todo := (L.pending.map Item.code).toList ++ s.todo } : SF).names := fun k hk => hn k (by
    simp only [SF.names, hh, List.append_nil, List.mem_append] at hk ⊢
    rcases hk with hk | hk
    · exact .inl hk
    · exact .inr (.inl hk))
  refine ⟨ρ, _, mkF ρ { s with hd := none, todo := (L.pending.map Item.code).toList ++ s.todo } tmps, frs, ⟨⟨tmps, rfl, hts.later sb (Ag.refl _ _), hn'.later sb⟩, hss.later sb (Ag.refl _ _)⟩, ⟨fz, hW'⟩, .one ?_⟩
  have e1 : mkF ρ s tmps = (baseF s.fn (s.round.map fun k => (ρ k).b)).atR ⟨tmps, s.dfs.map (markD ρ)⟩ (.endRangeFunc (ρ l).b :: s.todo) := by simp [mkF, Frame.atR, baseF, hr, hh, hdItems]
  rw [e1, mkF_run ρ _ (by exact hr) rfl]
  exact stepR_endRangeFunc hrun

/-! ### rounds -/
theorem begin_move {s : SF} {ss : List SF} {h : SHeap} {l : Nat} {L : SLoop} {k : List Item} (hr : s.ret = false) (hh : s.hd = none) (hro : s.round = some l) (ht : s.todo = .beginRound :: k) (hl : h[l]? = some (some (.loop L))) (hb : L.state = .ready)
    (hR : Run P C f R ⟨{ s with todo := k } :: ss, h.set l (some (.loop { L with state := .busy }))⟩) : Run P C f R ⟨s :: ss, h⟩ := by
  refine Run.of ?_ hR
  intro ρ w fr frs hF hW cs
  obtain ⟨tmps, rfl, hts, hn, hss⟩ := hF.top
  obtain ⟨fz, hW⟩ := hW
  obtain ⟨tm, h1, h2, _⟩ := hW.loopAt hl
  have hW' := hW.putLoop hl h1 h2 .busy L.pending
  have sb : Sub h (h.set l (some (.loop { L with state := .busy }))) := sub_set
  have hrun : (Instr.beginRound (ρ l).b).run P w = .ok () (putO w (ρ l).b (.loop { state := .busy, pending := L.pending, fn := L.fn, tmps := tm, params := L.params.toArray, assign := L.assign, body := L.body, defers := (ρ L.dn).b })) := by
    simp [Instr.beginRound, run_getLoop h1, run_setLoop h1, hb]
  refine ⟨ρ, _, mkF ρ { s with todo := k } tmps, frs, ⟨⟨tmps, rfl, hts.later sb (Ag.refl _ _), NamesOk.later (h := h) hn sb⟩, hss.later sb (Ag.refl _ _)⟩, ⟨fz, hW'⟩, .one ?_⟩
  rw [mkF_run ρ tmps hr hh, mkF_run ρ _ (by exact hr) (by exact hh), ht]
  exact stepR_beginRound (l := (ρ l).b) (by simp [baseF, hro]) hrun

/-- How a round is left: not at all; with which jump. -/
def leaveJ : List Item → Option (Option Code)
  | [] => some none
  | .code .ret :: _ => some (some .ret)
  | .code (.exit id) :: k => match exitTo id k with | none => some (some (.exit id)) | some _ => none
  | .code (.goto l) :: k => match gotoIn l k with | none => some (some (.goto l)) | some _ => none
  | _ => none
theorem leave_move {s c : SF} {ss : List SF} {h : SHeap} {l : Nat} {L : SLoop} {jump : Option Code} {ops : Array Oper} {i : Nat} {rest : List Nat} {k : List Item} {o : Oper} (hr : s.ret = false) (hh : s.hd = none) (hro : s.round = some l) (ht : leaveJ s.todo = some jump)
    (hl : h[l]? = some (some (.loop L))) (hcr : c.ret = false) (hch : c.hd = none) (hct : c.todo = .inRegion ops (i :: rest) :: k) (ho : ops[i]? = some o)
    (hR : Run P C f R ⟨{ c with tmps := putS c.tmps o.dst (.c (.b jump.isNone)), todo := .inRegion ops rest :: k } :: ss, h.set l (some (.loop { L with state := if jump.isNone then .ready else .done, pending := jump }))⟩) : Run P C f R ⟨s :: c :: ss, h⟩ := by
  refine Run.of ?_ hR
  intro ρ w fr frs hF hW cs
  obtain ⟨tmps, rfl, hts, hn, hss⟩ := hF.top
  obtain ⟨fz, hW⟩ := hW
  cases frs with
  | nil => exact hss.elim
  | cons fr2 frs2 =>
    obtain ⟨tmps2, rfl, hts2, hn2, hss2⟩ := hss.top
    obtain ⟨tm, h1, h2, _⟩ := hW.loopAt hl
    have hW' := hW.putLoop hl h1 h2 (if jump.isNone then .ready else .done) jump
    have sb : Sub h (h.set l (some (.loop { L with state := if jump.isNone then .ready else .done, pending := jump }))) := sub_set
    have hrun : (Instr.endRound (ρ l).b jump).run P w = .ok (.bool jump.isNone) (putO w (ρ l).b (.loop { state := if jump.isNone then .ready else .done, pending := jump, fn := L.fn, tmps := tm, params := L.params.toArray, assign := L.assign, body := L.body, defers := (ρ L.dn).b })) := by
      simp [Instr.endRound, run_getLoop h1, run_setLoop h1]
    refine ⟨ρ, _, _, frs2, ⟨⟨(Act.put ⟨tmps2, c.dfs.map (markD ρ)⟩ o.dst (.bool jump.isNone)).tmps, rfl, (hts2.later sb (Ag.refl _ _)).put (v := .c (.b jump.isNone)) (fun _ _ => (rfl : _ = _)) o.dst, NamesOk.later (h := h) hn2 sb⟩, hss2.later sb (Ag.refl _ _)⟩, ⟨fz, hW'⟩, .one ?_⟩
    rw [mkF_run ρ tmps hr hh, mkF_run ρ tmps2 hcr hch, mkF_run ρ _ (by exact hcr) (by exact hch), hct, ← finish_in ho]
    have hbr : (baseF s.fn (s.round.map fun k => (ρ k).b)).roundOf = some (ρ l).b := by simp [baseF, hro]
    unfold leaveJ at ht
    split at ht
    · rename_i hs; cases ht; rw [hs]; exact stepR_round_end hbr rfl hrun
    · rename_i hs; cases ht; rw [hs]; exact stepR_round_ret hbr rfl hrun
    · rename_i hs
      split at ht
      · rename_i hx; cases ht; rw [hs]; exact stepR_round_exit hbr rfl hx hrun
      · cases ht
    · rename_i hs
      split at ht
      · rename_i hx; cases ht; rw [hs]; exact stepR_round_goto hbr rfl hx hrun
      · cases ht
    · cases ht
end
end Go.Sy
