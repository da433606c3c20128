/- A symbolic run, second making: the run, as one proposition; that it suffices. -/
import Derived.Test.YtoeeilbpgckhlaaSy16
namespace Go.Sy
open Go

/-- The first region of a loop's body: by it loops are told apart. -/
def firstId : Code → Option Nat
  | .region id _ _ => some id
  | .seq a b => match firstId a with | some i => some i | none => firstId b
  | .block _ b => firstId b
  | .scope b => firstId b
  | .loop b => firstId b
  | .cond _ a b => match firstId a with | some i => some i | none => firstId b
  | _ => none
def loopId : List Item → Nat
  | .code (.loop b) :: _ => match firstId b with | some i => i | none => 0
  | .inLoop b :: _ => match firstId b with | some i => i | none => 0
  | _ => 0
/-- Where a loop's head is held against a state of many: which function's, which loop; the state; its names. -/
structure CutAt where
  fn : FuncId
  id : Nat
  gen : St → St
  names : St → Nms := fun _ => []
def cutAt (fn : FuncId) (id : Nat) : List CutAt → Option CutAt
  | [] => none
  | c :: r => match Nat.beq c.fn fn && Nat.beq c.id id with | true => some c | false => cutAt fn id r

structure Job (P : Program) where
  C : Cfg
  f : FuncId
  R : Ending → World → Prop
  laws : List (Law P) := []
  L : Bool := false
  cuts : List CutAt := []
  fin : SHeap → SV → Prop
  hfin : ∀ h v, fin h v → ∀ ρ w x, WRep C ρ h w → VRep h ρ v x → R (.returned x) w

def popS (c : SF) (v : SV) : Option SF :=
  match c.ret, c.hd with
  | false, some (false, l) => some { c with hd := some (true, l) }
  | false, none =>
    match c.todo with
    | .inRegion ops (i :: rest) :: k => match ops[i]? with | some o => some { c with tmps := putS c.tmps o.dst v, todo := .inRegion ops rest :: k } | none => none
    | _ => none
  | _, _ => none
/-- Where a round's answer goes. -/
def answerS (c : SF) (v : SV) : Option SF :=
  match c.ret, c.hd, c.todo with
  | false, none, .inRegion ops (i :: rest) :: k => match ops[i]? with | some o => some { c with tmps := putS c.tmps o.dst v, todo := .inRegion ops rest :: k } | none => none
  | _, _, _ => none
def leftState : Option Code → LoopState
  | none => .ready
  | some _ => .done

/-- At a loop's head: held against the state of many. -/
def cutS {P : Program} (J : Job P) (c : CutAt) (s : St) : Prop := Covers J.C.n0 (c.names s) s (c.gen s) ∧ Run P J.C J.f J.R (c.gen s)
/-- An operation whose guard is met: done, by a law, or its function entered. -/
def goOp {P : Program} (J : Job P) (f : SF) (fs : List SF) (h : SHeap) (o : Oper) (ops : Array Oper) (rest : List Nat) (k : List Item) (K : St → Prop) (ts : STmps) : Prop :=
  match isCall o with
  | false => opS P J.L h.length h (sev ts) o fun _ e => Ck (!isDefer o) (K ⟨{ f with tmps := putS ts o.dst e.out, todo := .inRegion ops rest :: k } :: fs, applyE h e⟩)
  | true =>
    match lawOf J.laws (sev ts) o with
    | some (S, as) => S.eff h h.length as fun _ e => K ⟨{ f with tmps := putS ts o.dst e.out, todo := .inRegion ops rest :: k } :: fs, applyE h e⟩
    | none =>
      match calleeS (sev ts) o with
      | some (.fn g as) =>
        match callable P g with
        | some fn => K ⟨enterS g fn as :: { f with tmps := ts } :: fs, h⟩
        | none => False
      | some (.yield l as) =>
        match h[l]? with
        | some (some (.loop L)) => Ck (Nat.beq L.params.length as.length) (K ⟨roundS l L as :: { f with tmps := ts } :: fs, h⟩)
        | _ => False
      | none => False
def skipOp (f : SF) (fs : List SF) (h : SHeap) (o : Oper) (ops : Array Oper) (rest : List Nat) (k : List Item) (K : St → Prop) (ts : STmps) : Prop :=
  K ⟨{ f with tmps := putS ts o.dst (.t []), todo := .inRegion ops rest :: k } :: fs, h⟩

/-- One step; what comes behind it is 'K'. -/
def stepS {P : Program} (J : Job P) (K : St → Prop) (frs : List SF) (h : SHeap) : Prop :=
    match frs with
    | [] => False
    | f :: fs =>
      match f.hd with
      | some (true, l) =>
        match h[l]? with
        | some (some (.loop L)) =>
          match L.state, f.ret with
          | .busy, _ => False
          | _, true => False
          | _, false => K ⟨{ f with hd := none, todo := (L.pending.map Item.code).toList ++ f.todo } :: fs, h.set l (some (.loop { L with state := .exhausted }))⟩
        | _ => False
      | some (false, _) => False
      | none =>
        match f.ret with
        | true =>
          match f.dfs with
          | d :: ds =>
            match h[d]? with
            | some (some (.dfr true)) => K ⟨{ f with dfs := ds } :: fs, h.set d (some (.dfr false))⟩
            | _ => False
          | [] =>
            match P.funcs[f.fn]? with
            | some fd =>
              match resS P h f.tmps fd with
              | some v =>
                match fs with
                | [] => Ck (Nat.beq f.fn J.f) (J.fin h v)
                | c :: cs => match popS c v with | some c' => K ⟨c' :: cs, h⟩ | none => False
              | none => False
            | none => False
        | false =>
          match f.todo with
          | .code (.cond c x y) :: k =>
            match sev f.tmps c with
            | some (.c (.v (.bool b))) =>
              match J.L with
              | true => match b with | true => K ⟨{ f with todo := .code x :: k } :: fs, h⟩ | false => K ⟨{ f with todo := .code y :: k } :: fs, h⟩
              | false => (b = true → K ⟨{ f with todo := .code x :: k } :: fs, h⟩) ∧ (b = false → K ⟨{ f with todo := .code y :: k } :: fs, h⟩)
            | some (.c (.b b)) => match b with | true => K ⟨{ f with todo := .code x :: k } :: fs, h⟩ | false => K ⟨{ f with todo := .code y :: k } :: fs, h⟩
            | _ => False
          | .code (.rangeFunc fo ps assign body) :: k =>
            match sev f.tmps fo, rangeS f h ps.toList assign body with
            | some v, some (h', l, ds) =>
              match calV v [.c (.y l)] with
              | some (.fn g as) =>
                match callable P g with
                | some fn => K ⟨enterS g fn as :: { f with todo := k, hd := some (false, l), dfs := ds } :: fs, h'⟩
                | none => False
              | _ => False
            | _, _ => False
          | .beginRound :: k =>
            match f.round with
            | some l =>
              match h[l]? with
              | some (some (.loop L)) => match L.state with | .ready => K ⟨{ f with todo := k } :: fs, h.set l (some (.loop { L with state := .busy }))⟩ | _ => False
              | _ => False
            | none => False
          | .code (.region _ ops true) :: k => regS P J.laws J.L ops f.tmps h fun ts h' => K ⟨{ f with tmps := ts, todo := k } :: fs, h'⟩
          | .inRegion ops (i :: rest) :: k =>
            match ops[i]? with
            | none => False
            | some o =>
              match guardS ops f.tmps o with
              | some .yes => goOp J f fs h o ops rest k K f.tmps
              | some .no => skipOp f fs h o ops rest k K f.tmps
              | some (.ask b want d) =>
                match J.L with
                | true => match b == want with | true => goOp J f fs h o ops rest k K f.tmps | false => skipOp f fs h o ops rest k K f.tmps
                | false => (b = want → goOp J f fs h o ops rest k K (f.tmps.set d (some (.c (.b want))))) ∧ (b = !want → skipOp f fs h o ops rest k K (f.tmps.set d (some (.c (.b !want)))))
              | none => False
          | todo =>
            match loopC todo with
            | some todo' =>
              match cutAt f.fn (loopId todo) J.cuts with
              | some c => cutS J c ⟨{ f with todo := todo' } :: fs, h⟩
              | none => K ⟨{ f with todo := todo' } :: fs, h⟩
            | none =>
              match f.round with
              | none =>
                match todo with
                | [] => K ⟨{ f with ret := true } :: fs, h⟩
                | .code .ret :: _ => K ⟨{ f with ret := true } :: fs, h⟩
                | _ => match moveC todo with | some t => K ⟨{ f with todo := t } :: fs, h⟩ | none => False
              | some l =>
                match leaveJ todo with
                | some jump =>
                  match h[l]?, fs with
                  | some (some (.loop L)), c :: cs => match answerS c (.c (.b jump.isNone)) with | some c' => K ⟨c' :: cs, h.set l (some (.loop { L with state := leftState jump, pending := jump }))⟩ | none => False
                  | _, _ => False
                | none => match moveC todo with | some t => K ⟨{ f with todo := t } :: fs, h⟩ | none => False

def runS {P : Program} (J : Job P) : Nat → St → Prop
  | 0, _ => False
  | n + 1, s => stepS J (runS J n) s.frs s.heap
theorem popS_spec {c c' : SF} {v : SV} (h : popS c v = some c') : c.ret = false ∧ ((c.hd = none ∧ ∃ ops i rest k o, c.todo = .inRegion ops (i :: rest) :: k ∧ ops[i]? = some o ∧ c' = { c with tmps := putS c.tmps o.dst v, todo := .inRegion ops rest :: k }) ∨ (∃ l, c.hd = some (false, l) ∧ c' = { c with hd := some (true, l) })) := by
  unfold popS at h
  split at h
  · rename_i l h1 h2; cases h; exact ⟨h1, .inr ⟨l, h2, rfl⟩⟩
  · rename_i h1 h2
    split at h
    · rename_i ops i rest k h3
      split at h
      · rename_i o ho; cases h; exact ⟨h1, .inl ⟨h2, ops, i, rest, k, o, h3, ho, rfl⟩⟩
      · cases h
    · cases h
  · cases h
theorem answerS_spec {c c' : SF} {v : SV} (h : answerS c v = some c') : c.ret = false ∧ c.hd = none ∧ ∃ ops i rest k o, c.todo = .inRegion ops (i :: rest) :: k ∧ ops[i]? = some o ∧ c' = { c with tmps := putS c.tmps o.dst v, todo := .inRegion ops rest :: k } := by
  unfold answerS at h
  split at h
  · rename_i ops i rest k h1 h2 h3
    split at h
    · rename_i o ho; cases h; exact ⟨h1, h2, ops, i, rest, k, o, h3, ho, rfl⟩
    · cases h
  · cases h
theorem set_guard {ops : Array Oper} {ts : STmps} {o : Oper} {b want c : Bool} {d : Tmp} {h : SHeap} (hg : guardS ops ts o = some (.ask b want d)) (hd : d < ts.length) {ρ : Ren} {tmps : Array Value} (ht : TRep h ρ (ts.set d (some (.c (.b c)))) tmps) : Region.wanted o (yielded ops tmps) = (c == want) := by
  have hg' : guardS ops (ts.set d (some (.c (.b c)))) o = match c == want with | true => some .yes | false => some .no := by
    unfold guardS at hg ⊢
    cases hgd : o.guard with
    | none => simp [hgd] at hg
    | some jw =>
      obtain ⟨j, want'⟩ := jw
      simp only [hgd] at hg ⊢
      cases hoj : ops[j]? with
      | none => simp [hoj] at hg
      | some oj =>
        simp only [hoj] at hg ⊢
        cases hdst : oj.dst with
        | none => simp [hdst] at hg
        | some d' =>
          simp only [hdst] at hg ⊢
          have hdd : d' = d ∧ want' = want := by
            split at hg
            · cases hg; exact ⟨rfl, rfl⟩
            · split at hg <;> cases hg
            · cases hg
            · cases hg
          obtain ⟨rfl, rfl⟩ := hdd
          rw [List.getElem?_set_self hd]
          dsimp only
          cases c == want' <;> rfl
  cases hcw : c == want with
  | true => rw [hcw] at hg'; exact guardS_yes hg' ht
  | false => rw [hcw] at hg'; exact guardS_no hg' ht
theorem set_same {ts : STmps} {b c : Bool} {d : Tmp} {h : SHeap} {ρ : Ren} {tmps : Array Value} (hd : ts[d]? = some (some (.c (.v (.bool b))))) (ht : TRep h ρ ts tmps) (e : b = c) : TRep h ρ (ts.set d (some (.c (.b c)))) tmps := by
  subst e
  refine ⟨by simpa using ht.1, fun t u hu => ?_⟩
  by_cases htd : d = t
  · subst htd
    rw [List.getElem?_set_self (given_lt hd)] at hu
    cases hu
    obtain ⟨x, hx, hv⟩ := ht.2 _ _ hd
    exact ⟨x, hx, fun r hr => hv r hr⟩
  · rw [List.getElem?_set_ne htd] at hu
    exact ht.2 _ _ hu
theorem cond_move {P : Program} {C : Cfg} {f : FuncId} {R : Ending → World → Prop} {s : SF} {ss : List SF} {h : SHeap} {c : Operand} {x y : Code} {k : List Item} {v : SV} {b : Bool} (hr : s.ret = false) (hh : s.hd = none) (htd : s.todo = .code (.cond c x y) :: k)
    (hc : sev s.tmps c = some v) (hl : v.lit = some (.bool b)) (hx : b = true → Run P C f R ⟨{ s with todo := .code x :: k } :: ss, h⟩) (hy : b = false → Run P C f R ⟨{ s with todo := .code y :: k } :: ss, h⟩) : Run P C f R ⟨s :: ss, h⟩ := by
  have stp : ∀ (ρ : Ren) (tmps : Array Value) (cs : List Frame) (w : World), TRep h ρ s.tmps tmps → step P (lone (mkF ρ s tmps) cs w) = .next (lone (mkF ρ { s with todo := .code (if b then x else y) :: k } tmps) cs w) := fun ρ tmps cs w ht => by
    rw [mkF_run ρ tmps hr hh, mkF_run ρ (s := { s with todo := .code (if b then x else y) :: k }) _ (by exact hr) (by exact hh), htd]
    exact stepR_cond (VRep.of_lit hl ((TRep.erep (a := ⟨tmps, s.dfs.map (markD ρ)⟩) ht) c _ hc))
  cases b with
  | true =>
    refine Run.of ?_ (hx rfl)
    intro ρ w fr frs hF hW cs
    obtain ⟨tmps, rfl, hts, hn, hss⟩ := hF.top
    exact ⟨ρ, w, _, frs, ⟨⟨tmps, rfl, hts, hn⟩, hss⟩, hW, .one (stp ρ tmps _ w hts)⟩
  | false =>
    refine Run.of ?_ (hy rfl)
    intro ρ w fr frs hF hW cs
    obtain ⟨tmps, rfl, hts, hn, hss⟩ := hF.top
    exact ⟨ρ, w, _, frs, ⟨⟨tmps, rfl, hts, hn⟩, hss⟩, hW, .one (stp ρ tmps _ w hts)⟩
theorem fin_move {P : Program} {J : Job P} {s : SF} {h : SHeap} {fd : Func} {v : SV} (hr : s.ret = true) (hd : s.dfs = []) (hf : P.funcs[s.fn]? = some fd) (hv : resS P h s.tmps fd = some v) (he : s.fn = J.f) (hfin : J.fin h v) : Run P J.C J.f J.R ⟨[s], h⟩ := by
  intro ρ w fs hF hW cs
  cases fs with
  | nil => trivial
  | cons fr frs =>
    obtain ⟨tmps, rfl, hts, hn, hss⟩ := hF.top
    cases frs with
    | cons _ _ => exact hss.elim
    | nil =>
      obtain ⟨fz, hW'⟩ := hW
      obtain ⟨x, hx, hvr⟩ := resS_run hts hW' hv
      exact ⟨.returned x, w, mkF ρ s tmps, J.hfin h v hfin ρ w x ⟨fz, hW'⟩ hvr, Steps.refl _ _, he, by simp [mkF, hr], by simp [mkF, hd], rfl, fd, hf, hx⟩

theorem stepS_sound {P : Program} {J : Job P} {K : St → Prop} (hK : ∀ {s : St}, K s → Run P J.C J.f J.R s) : ∀ {frs : List SF} {hp : SHeap}, stepS J K frs hp → Run P J.C J.f J.R ⟨frs, hp⟩
  | frs, hp, h => by
    unfold stepS at h
    split at h
    · exact h.elim
    · rename_i f fs
      split at h
      · rename_i l hhd
        split at h
        · rename_i L hl
          split at h
          · exact h.elim
          · exact h.elim
          · rename_i hret hst
            exact endRange_move hret hhd hl hst (hK h)
        · exact h.elim
      · exact h.elim
      · rename_i hhd
        split at h
        · rename_i hret
          split at h
          · rename_i d ds hdf
            split at h
            · rename_i hk; exact dfs_move hret hdf hk (hK h)
            · exact h.elim
          · rename_i hdf
            split at h
            · rename_i fd hfd
              split at h
              · rename_i v hv
                split at h
                · obtain ⟨h1, h2⟩ := h.out
                  exact fin_move hret hdf hfd hv (Nat.eq_of_beq_eq_true h1) h2
                · rename_i c cs
                  split at h
                  · rename_i c' hc
                    obtain ⟨h1, h2⟩ := popS_spec hc
                    exact pop_move hret hdf hfd hv h1 h2 (hK h)
                  · exact h.elim
              · exact h.elim
            · exact h.elim
        · rename_i hret
          split at h
          · rename_i c x y k htd
            split at h
            · rename_i b hb
              split at h
              · split at h
                · exact cond_move hret hhd htd hb rfl (fun _ => hK h) (fun e => by cases e)
                · exact cond_move hret hhd htd hb rfl (fun e => by cases e) (fun _ => hK h)
              · exact cond_move hret hhd htd hb rfl (fun e => hK (h.1 e)) (fun e => hK (h.2 e))
            · rename_i b hb
              split at h
              · exact cond_move hret hhd htd hb rfl (fun _ => hK h) (fun e => by cases e)
              · exact cond_move hret hhd htd hb rfl (fun e => by cases e) (fun _ => hK h)
            · exact h.elim
          · rename_i fo ps assign body k htd
            split at h
            · rename_i v h' l ds hv hs
              split at h
              · rename_i g as hc
                split at h
                · rename_i fn hcb
                  exact range_move hret hhd htd hv hs hc hcb (hK h)
                · exact h.elim
              · exact h.elim
            · exact h.elim
          · rename_i k htd
            split at h
            · rename_i l hro
              split at h
              · rename_i L hl
                split at h
                · rename_i hst
                  exact begin_move hret hhd hro htd hl hst (hK h)
                · exact h.elim
              · exact h.elim
            · exact h.elim
          · rename_i id ops k htd
            exact regS_run hret hhd htd h fun ts' h' hh => hK hh
          · rename_i ops i rest k htd
            split at h
            · exact h.elim
            · rename_i o ho
              have hgo : ∀ ts' : STmps, goOp J f fs hp o ops rest k K ts' → (∀ ρ tmps, TRep hp ρ ts' tmps → Region.wanted o (yielded ops tmps) = true) →
                  Run P J.C J.f J.R ⟨{ f with tmps := ts' } :: fs, hp⟩ := fun ts' hg hw => by
                unfold goOp at hg
                split at hg
                · obtain ⟨T, e, hT, hok, he⟩ := opS_sound (C := J.C) hg
                  obtain ⟨hnd, he⟩ := he.out
                  exact op_move (s := { f with tmps := ts' }) hret hhd htd ho (by simpa using hnd) hw hT hok (hK he)
                · split at hg
                  · rename_i S as hc
                    obtain ⟨T, e, hT, hok, he⟩ := S.ok (C := J.C) hg
                    exact law_move (s := { f with tmps := ts' }) hret hhd htd ho hw hc hT hok (hK he)
                  · split at hg
                    · rename_i g as hc
                      split at hg
                      · rename_i fn hcb
                        exact enter_move (s := { f with tmps := ts' }) hret hhd htd ho hw hc hcb (hK hg)
                      · exact hg.elim
                    · rename_i l as hc
                      split at hg
                      · rename_i L hl
                        obtain ⟨h1, hg⟩ := hg.out
                        exact yield_move (s := { f with tmps := ts' }) hret hhd htd ho hw hc hl (Nat.eq_of_beq_eq_true h1) (hK hg)
                      · exact hg.elim
                    · exact hg.elim
              have hskip : ∀ ts' : STmps, skipOp f fs hp o ops rest k K ts' → (∀ ρ tmps, TRep hp ρ ts' tmps → Region.wanted o (yielded ops tmps) = false) →
                  Run P J.C J.f J.R ⟨{ f with tmps := ts' } :: fs, hp⟩ := fun ts' hg hw => skip_move (s := { f with tmps := ts' }) hret hhd htd ho hw (hK hg)
              split at h
              · rename_i hg
                exact hgo f.tmps h fun ρ tmps ht => guardS_yes hg ht
              · rename_i hg
                exact hskip f.tmps h fun ρ tmps ht => guardS_no hg ht
              · rename_i b want d hg
                split at h
                · split at h
                  · rename_i hbw
                    exact hgo f.tmps h fun ρ tmps ht => by rw [(guardS_ask hg ht).1, hbw]
                  · rename_i hbw
                    exact hskip f.tmps h fun ρ tmps ht => by rw [(guardS_ask hg ht).1, hbw]
                · obtain ⟨hy, hn⟩ := h
                  intro ρ w fr hF hW cs
                  cases fr with
                  | nil => trivial
                  | cons fr0 frs0 =>
                    obtain ⟨tmps, rfl, hts, hnm, hss⟩ := hF.top
                    have hd := (guardS_ask hg hts).2
                    by_cases hb : b = want
                    · exact hgo _ (hy hb) (fun ρ' tmps' ht' => by rw [set_guard hg (given_lt hd) ht']; simp) ρ w (mkF ρ f tmps :: frs0) ⟨⟨tmps, rfl, set_same hd hts hb, hnm⟩, hss⟩ hW cs
                    · have hb' : b = !want := by cases b <;> cases want <;> simp_all
                      exact hskip _ (hn hb') (fun ρ' tmps' ht' => by rw [set_guard hg (given_lt hd) ht']; cases want <;> rfl) ρ w (mkF ρ f tmps :: frs0) ⟨⟨tmps, rfl, set_same hd hts hb', hnm⟩, hss⟩ hW cs
              · exact h.elim
          · split at h
            · rename_i todo' hl
              split at h
              · rename_i c hc
                exact todo_move hret hhd (fun b a cs w => loopC_step hl) (covers_run h.1 h.2)
              · exact todo_move hret hhd (fun b a cs w => loopC_step hl) (hK h)
            · split at h
              · rename_i hro
                split at h
                · rename_i htd
                  exact ret_move hret hhd hro (.inl htd) (hK h)
                · rename_i htd
                  exact ret_move hret hhd hro (.inr ⟨_, htd⟩) (hK h)
                · split at h
                  · rename_i t ht
                    exact todo_move hret hhd (fun b a cs w => moveC_step ht) (hK h)
                  · exact h.elim
              · rename_i l hro
                split at h
                · rename_i jump hj
                  split at h
                  · rename_i L c cs hl
                    split at h
                    · rename_i c' hc
                      obtain ⟨h1, h2, ops, i, rest, k, o, h3, ho, rfl⟩ := answerS_spec hc
                      refine leave_move hret hhd hro hj hl h1 h2 h3 ho ?_
                      have := hK h
                      cases jump <;> exact this
                    · exact h.elim
                  · exact h.elim
                · split at h
                  · rename_i t ht
                    exact todo_move hret hhd (fun b a cs w => moveC_step ht) (hK h)
                  · exact h.elim
theorem runS_sound {P : Program} {J : Job P} : ∀ (n : Nat) {s : St}, runS J n s → Run P J.C J.f J.R s
  | 0, _, h => h.elim
  | n + 1, _, h => stepS_sound (fun hs => runS_sound n hs) h
end Go.Sy
