/- A symbolic run: one proposition to be shown, 'check', and what it gives: the call's contract. -/
import Derived.Test.YtoeeilbpgckhlaaSx9
import Derived.Below
namespace Go.Sx
open Go

/-! ### to forget -/
def givenB (h : SHeap) (k : Nat) : Bool := match h[k]? with | some (some _) => true | _ => false
theorem givenB_spec {h : SHeap} {k : Nat} (e : givenB h k = true) : ∃ q, h[k]? = some (some q) := by
  unfold givenB at e
  split at e
  · rename_i q hq; exact ⟨q, hq⟩
  · cases e
def capsB (h : SHeap) : List (Nat × Nat) → Bool
  | [] => true
  | (k, _) :: r => givenB h k && capsB h r
def onlyC (h : SHeap) : SC → Bool
  | .v _ => true
  | .b _ => true
  | .p k _ => givenB h k
  | .s k _ _ _ => givenB h k
  | .f _ caps => capsB h caps
def onlyL (h : SHeap) : List SC → Bool
  | [] => true
  | c :: r => onlyC h c && onlyL h r
def onlyT (h : SHeap) : List (SC ⊕ List SC) → Bool
  | [] => true
  | .inl c :: r => onlyC h c && onlyT h r
  | .inr cs :: r => onlyL h cs && onlyT h r
def onlyV (h : SHeap) : SV → Bool
  | .c x => onlyC h x
  | .a cs => onlyL h cs
  | .t vs => onlyT h vs
def onlyO (h : SHeap) : SO → Bool
  | .cells l _ => onlyL h l
  | .gone => true

section
variable {h : SHeap} {ρ ρ' : Ren} (ha : Ag h ρ ρ')
include ha
theorem onlyC_den {c : SC} (e : onlyC h c = true) : c.den ρ' = c.den ρ := by
  cases c with
  | v x => rfl
  | b x => rfl
  | p k o => obtain ⟨q, hq⟩ := givenB_spec e; simp [SC.den, ha k q hq]
  | s k o l c => obtain ⟨q, hq⟩ := givenB_spec e; simp [SC.den, ha k q hq]
  | f fn caps =>
    have : ∀ l, capsB h l = true → (l.map fun (k, o) => Value.pointer (some ⟨ρ' k, o, none⟩)) = l.map fun (k, o) => Value.pointer (some ⟨ρ k, o, none⟩) := by
      intro l
      induction l with
      | nil => intro _; rfl
      | cons c r ih =>
        intro e
        simp only [capsB, Bool.and_eq_true] at e
        obtain ⟨q, hq⟩ := givenB_spec e.1
        simp [ih e.2, ha _ q hq]
    simp only [SC.den]
    rw [this caps e]
theorem onlyL_den {cs : List SC} (e : onlyL h cs = true) : dens ρ' cs = dens ρ cs := by
  have : cs.map (SC.den ρ') = cs.map (SC.den ρ) := by
    induction cs with
    | nil => rfl
    | cons c r ih =>
      simp only [onlyL, Bool.and_eq_true] at e
      simp [ih e.2, onlyC_den ha e.1]
  simp [dens, this]
theorem onlyV_den {v : SV} (e : onlyV h v = true) : v.den ρ' = v.den ρ := by
  cases v with
  | c x => exact onlyC_den ha e
  | a cs => simp [SV.den, onlyL_den ha e]
  | t vs =>
    have : vs.map (den1 ρ') = vs.map (den1 ρ) := by
      simp only [onlyV] at e
      induction vs with
      | nil => rfl
      | cons c r ih =>
        cases c with
        | inl c =>
          simp only [onlyT, Bool.and_eq_true] at e
          simp [ih e.2, den1, onlyC_den ha e.1]
        | inr cs =>
          simp only [onlyT, Bool.and_eq_true] at e
          simp [ih e.2, den1, onlyL_den ha e.1]
    simp [SV.den, this]
end

/-- One way to write a known Bool. -/
def SC.norm : SC → SC
  | .b z => .v (.bool z)
  | x => x
def norms : List SC → List SC
  | [] => []
  | c :: r => c.norm :: norms r
def SV.norm : SV → SV
  | .c x => .c x.norm
  | .a cs => .a (norms cs)
  | .t vs => .t vs
def SO.norm : SO → SO
  | .cells l t => .cells (norms l) t
  | .gone => .gone
theorem SC.norm_den (c : SC) (ρ : Ren) : c.norm.den ρ = c.den ρ := by cases c <;> rfl
theorem norms_den : ∀ (l : List SC) (ρ : Ren), dens ρ (norms l) = dens ρ l
  | [], _ => rfl
  | c :: r, ρ => by
    have := congrArg Array.toList (norms_den r ρ)
    simp only [dens] at this ⊢
    rw [← Array.toList_inj]
    simp only [norms, List.map_cons, SC.norm_den]
    exact congrArg _ this
theorem SV.norm_den (v : SV) (ρ : Ren) : v.norm.den ρ = v.den ρ := by
  cases v with
  | c x => exact SC.norm_den x ρ
  | a cs => simp [SV.norm, SV.den, norms_den]
  | t vs => rfl
theorem SV.same {v u : SV} (h : v.norm = u.norm) (ρ : Ren) : v.den ρ = u.den ρ := by rw [← SV.norm_den v, h, SV.norm_den]
def coverT (h : SHeap) : STmps → STmps → Prop
  | [], [] => True
  | _ :: as, none :: bs => coverT h as bs
  | some v :: as, some u :: bs => Ck (onlyV h u) (v.norm = u.norm ∧ coverT h as bs)
  | _, _ => False
def coverF (h : SHeap) : List SF → List SF → Prop
  | [], [] => True
  | f :: fs, g :: gs => (f.fn = g.fn ∧ f.todo = g.todo ∧ f.ret = g.ret) ∧ coverT h f.tmps g.tmps ∧ coverF h fs gs
  | _, _ => False
def coverH (h : SHeap) : SHeap → SHeap → Prop
  | _, [] => True
  | _ :: as, none :: bs => coverH h as bs
  | some q :: as, some r :: bs => Ck (onlyO h r) (q.norm = r.norm ∧ coverH h as bs)
  | _, _ => False
def allGiven (h : SHeap) : Nat → Bool
  | 0 => true
  | n + 1 => givenB h n && allGiven h n
theorem allGiven_spec {h : SHeap} : ∀ {n : Nat}, allGiven h n = true → ∀ k, k < n → givenB h k = true
  | 0, _, k, hk => absurd hk (Nat.not_lt_zero _)
  | n + 1, e, k, hk => by
    simp only [allGiven, Bool.and_eq_true] at e
    rcases Nat.lt_succ_iff_lt_or_eq.1 hk with h1 | rfl
    · exact allGiven_spec e.2 k h1
    · exact e.1
/-- The state 's' is one of those that 'g' speaks of ('none': whatever). -/
def Covers (C : Cfg) (s g : St) : Prop := Ck (allGiven g.heap C.n0) (coverF g.heap s.frs g.frs ∧ coverH g.heap s.heap g.heap)

theorem coverT_rep {h g : SHeap} {ρ : Ren} {tmps : Array Value} : ∀ {as bs : STmps} (n : Nat), coverT g as bs → (∀ t v, as[t]? = some (some v) → ∃ x, tmps[n + t]? = some x ∧ VRep h ρ v x) →
    as.length = bs.length ∧ ∀ t v, bs[t]? = some (some v) → ∃ x, tmps[n + t]? = some x ∧ VRep g ρ v x
  | [], [], n, _, _ => ⟨rfl, by simp⟩
  | a :: as, b :: bs, n, hc, hr => by
    have tl : ∀ t v, as[t]? = some (some v) → ∃ x, tmps[n + 1 + t]? = some x ∧ VRep h ρ v x := fun t v hv => by
      have := hr (t + 1) v (by simpa using hv)
      rwa [show n + (t + 1) = n + 1 + t from by omega] at this
    cases b with
    | none =>
      have hc' : coverT g as bs := by cases a <;> exact hc
      obtain ⟨h1, h2⟩ := coverT_rep (n + 1) hc' tl
      refine ⟨by simp [h1], fun t v hv => ?_⟩
      cases t with
      | zero => simp at hv
      | succ t => have := h2 t v (by simpa using hv); rwa [show n + 1 + t = n + (t + 1) from by omega] at this
    | some u =>
      cases a with
      | none => exact hc.elim
      | some v0 =>
        obtain ⟨ho, hn, hc'⟩ := Ck.out hc
        obtain ⟨h1, h2⟩ := coverT_rep (n + 1) hc' tl
        refine ⟨by simp [h1], fun t v hv => ?_⟩
        cases t with
        | zero =>
          simp only [List.getElem?_cons_zero, Option.some.injEq] at hv
          subst hv
          obtain ⟨x, hx, hvr⟩ := hr 0 _ rfl
          exact ⟨x, hx, fun ρ' ha => by rw [onlyV_den ha ho, ← SV.same hn]; exact hvr.here⟩
        | succ t => have := h2 t v (by simpa using hv); rwa [show n + 1 + t = n + (t + 1) from by omega] at this
  | [], _ :: _, _, hc, _ => hc.elim
  | _ :: _, [], _, hc, _ => hc.elim

theorem coverF_rep {h g : SHeap} {ρ : Ren} : ∀ {as bs : List SF} {fs : List Frame}, coverF g as bs → FsRep h ρ as fs → FsRep g ρ bs fs
  | [], [], [], _, _ => trivial
  | a :: as, b :: bs, f :: fs, ⟨⟨h1, h2, h3⟩, ht, hc⟩, ⟨⟨tmps, hf, hl, hr⟩, hs⟩ => by
    refine ⟨⟨tmps, by rw [hf, h1, h2, h3], ?_⟩, coverF_rep hc hs⟩
    obtain ⟨e1, e2⟩ := coverT_rep (tmps := tmps) 0 ht (fun t v hv => by simpa using hr t v hv)
    exact ⟨by rw [hl, e1], fun t v hv => by simpa using e2 t v hv⟩
  | [], [], _ :: _, _, h => h.elim
  | _ :: _, _ :: _, [], _, h => h.elim
  | [], _ :: _, _, h, _ => h.elim
  | _ :: _, [], _, h, _ => h.elim

theorem coverH_get {g : SHeap} : ∀ {as bs : SHeap}, coverH g as bs → ∀ (k : Nat) (q : SO), bs[k]? = some (some q) → ∃ q', as[k]? = some (some q') ∧ q'.norm = q.norm ∧ onlyO g q = true
  | _, [], _, k, q, e => by simp at e
  | a :: as, b :: bs, hc, k, q, e => by
    cases b with
    | none =>
      have hc' : coverH g as bs := by cases a <;> exact hc
      cases k with
      | zero => simp at e
      | succ k => simpa using coverH_get hc' k q (by simpa using e)
    | some r =>
      cases a with
      | none => exact (hc : False).elim
      | some q0 =>
        obtain ⟨ho, hn, hc'⟩ := Ck.out hc
        cases k with
        | zero => simp only [List.getElem?_cons_zero, Option.some.injEq] at e; subst e; exact ⟨q0, rfl, hn, ho⟩
        | succ k => simpa using coverH_get hc' k q (by simpa using e)
  | [], b :: _, hc, _, _, _ => by cases b <;> exact (hc : False).elim
theorem SO.norm_cells {q : SO} {l : List SC} {t : TypeId} (h : q.norm = (SO.cells l t).norm) : ∃ l', q = .cells l' t ∧ ∀ ρ, dens ρ l' = dens ρ l := by
  cases q with
  | cells l' t' =>
    simp only [SO.norm, SO.cells.injEq] at h
    obtain ⟨h1, rfl⟩ := h
    exact ⟨l', rfl, fun ρ => by rw [← norms_den l', h1, norms_den]⟩
  | gone => simp [SO.norm] at h

theorem covers_run {J : Job} {s g : St} (hc : Covers J.C s g) (hr : Run J g) : Run J s := by
  obtain ⟨hp, hf, hh⟩ := Ck.out hc
  have back : ∀ (k : Nat) l t, g.heap[k]? = some (some (.cells l t)) → ∃ l', s.heap[k]? = some (some (.cells l' t)) ∧ (∀ ρ, dens ρ l' = dens ρ l) ∧ onlyO g.heap (.cells l t) = true := fun k l t e => by
    obtain ⟨q', e', hn, ho⟩ := coverH_get hh k _ e
    obtain ⟨l', rfl, hd⟩ := SO.norm_cells hn
    exact ⟨l', e', hd, ho⟩
  intro ρ w fs hF hW cs
  refine hr ρ w fs (coverF_rep hf hF) ⟨fun k hk => ⟨(hW.pre k hk).1, givenB_spec (allGiven_spec hp k hk)⟩, ?_, ?_, ?_, hW.block, hW.size, hW.os, hW.tape, hW.output⟩ cs
  · intro k l t e
    obtain ⟨l', e', hd, ho⟩ := back k l t e
    obtain ⟨cells, h1, h2⟩ := hW.objs k l' t e'
    exact ⟨cells, h1, fun ρ' ha => by rw [onlyL_den ha ho, ← hd]; exact h2.here⟩
  · intro j k _ _ _ _ e1 e2
    obtain ⟨_, g1, _⟩ := back j _ _ e1
    obtain ⟨_, g2, _⟩ := back k _ _ e2
    exact hW.inj j k _ _ _ _ g1 g2
  · intro k _ _ e
    obtain ⟨_, g1, _⟩ := back k _ _ e
    exact hW.new k _ _ g1

/-! ### what a state holds: its numbers and Bools, for the states that a loop's head is held against -/
def cellT (s : St) (t : Nat) : SC := match s.frs with | f :: _ => (match f.tmps[t]? with | some (some (.c x)) => x | _ => .b false) | [] => .b false
def intT (s : St) (t : Nat) : Int := match cellT s t with | .v (.int _ n) => n | _ => 0
def boolT (s : St) (t : Nat) : Bool := match cellT s t with | .v (.bool b) => b | .b b => b | _ => false
def cellH (s : St) (k i : Nat) : SC := match s.heap[k]? with | some (some (.cells l _)) => (match l[i]? with | some x => x | none => .b false) | _ => .b false
def intH (s : St) (k i : Nat) : Int := match cellH s k i with | .v (.int _ n) => n | _ => 0
def boolH (s : St) (k i : Nat) : Bool := match cellH s k i with | .v (.bool b) => b | .b b => b | _ => false

/-- What is still to be done at the heads of a function's loops. -/
def loopsIn : Code → List Item → List (List Item)
  | .seq a b, k => loopsIn a (.code b :: k) ++ loopsIn b k
  | .block id b, k => loopsIn b (.inBlock id :: k)
  | .scope b, k => loopsIn b (.inScope b :: k)
  | .cond _ x y, k => loopsIn x k ++ loopsIn y k
  | .loop b, k => (.code b :: .inLoop b :: k) :: loopsIn b (.inLoop b :: k)
  | _, _ => []
def loopTodo (f : Func) (n : Nat) : List Item := (loopsIn (f.body.getD (.refuse "")) []).getD n []
/-- A function's slots: those that are named hold what they hold, of the others nothing is said. -/
def slots (n : Nat) (l : List (Nat × SV)) : STmps := (List.range n).map fun i => l.lookup i

/-! ### where the run stops -/
def condS (s : St) : Option ((Bool ⊕ Bool) × St × St) :=
  match s.frs with
  | f :: fs =>
    match f.ret, f.todo with
    | false, .code (.cond c x y) :: k =>
      match sev f.tmps c with
      | some (.c (.v (.bool b))) => some (.inl b, ⟨⟨f.fn, f.tmps, .code x :: k, false⟩ :: fs, s.heap⟩, ⟨⟨f.fn, f.tmps, .code y :: k, false⟩ :: fs, s.heap⟩)
      | some (.c (.b b)) => some (.inr b, ⟨⟨f.fn, f.tmps, .code x :: k, false⟩ :: fs, s.heap⟩, ⟨⟨f.fn, f.tmps, .code y :: k, false⟩ :: fs, s.heap⟩)
      | _ => none
    | _, _ => none
  | [] => none
theorem condS_run {J : Job} {s x y : St} {b : Bool ⊕ Bool} (h : condS s = some (b, x, y)) (hx : b.elim id id = true → Run J x) (hy : b.elim id id = false → Run J y) : Run J s := by
  unfold condS at h
  obtain ⟨frs, hp⟩ := s
  dsimp only at h
  split at h
  · rename_i f fs
    obtain ⟨fn, ts, todo, ret⟩ := f
    dsimp only at h
    split at h
    · rename_i c cx cy k
      have key : ∀ (b' : Bool) (v : SV), sev ts c = some v → v.lit = some (.bool b') → (b' = true → Run J ⟨⟨fn, ts, .code cx :: k, false⟩ :: fs, hp⟩) → (b' = false → Run J ⟨⟨fn, ts, .code cy :: k, false⟩ :: fs, hp⟩) →
          Run J ⟨⟨fn, ts, .code (.cond c cx cy) :: k, false⟩ :: fs, hp⟩ := fun b' v hc hl hx hy => by
        have stp : ∀ (ρ : Ren) (tmps : Array Value) (cs : List Frame) (w : World), TRep hp ρ ts tmps → step J.C.P (lone (mkF fn tmps (.code (.cond c cx cy) :: k) false) cs w) = .next (lone (mkF fn tmps (.code (if b' then cx else cy) :: k) false) cs w) := fun ρ tmps cs w ht => by
          have he : (mkF fn tmps (.code (.cond c cx cy) :: k) false).eval c = .bool b' := by
            have h1 := (TRep.erep (a := ⟨tmps, []⟩) ht) c _ hc
            have h2 : Act.eval ⟨tmps, []⟩ c = .bool b' := VRep.of_lit hl h1
            cases c <;> exact h2
          exact step_lone_go (by simp [stepG, stepG.exec, mkF] at he ⊢; simp [he])
        cases b' with
        | true =>
          refine Run.of ?_ (hx rfl)
          intro ρ w fr frs hF hW cs
          obtain ⟨tmps, rfl, hts, hss⟩ := hF.top
          exact ⟨ρ, w, _, frs, ⟨⟨tmps, rfl, hts⟩, hss⟩, hW, .one (stp ρ tmps _ w hts)⟩
        | false =>
          refine Run.of ?_ (hy rfl)
          intro ρ w fr frs hF hW cs
          obtain ⟨tmps, rfl, hts, hss⟩ := hF.top
          exact ⟨ρ, w, _, frs, ⟨⟨tmps, rfl, hts⟩, hss⟩, hW, .one (stp ρ tmps _ w hts)⟩
      split at h
      · rename_i b' hc
        simp only [Option.some.injEq, Prod.mk.injEq] at h
        obtain ⟨rfl, rfl, rfl⟩ := h
        exact key b' _ hc rfl hx hy
      · rename_i b' hc
        simp only [Option.some.injEq, Prod.mk.injEq] at h
        obtain ⟨rfl, rfl, rfl⟩ := h
        exact key b' _ hc rfl hx hy
      · cases h
    · cases h
  · cases h

def loopS (s : St) : Option St :=
  match s.frs with
  | f :: fs =>
    match f.ret, loopC f.todo with
    | false, some t => some ⟨⟨f.fn, f.tmps, t, false⟩ :: fs, s.heap⟩
    | _, _ => none
  | [] => none
theorem loopS_run {J : Job} {s x : St} (h : loopS s = some x) (hx : Run J x) : Run J s := by
  unfold loopS at h
  obtain ⟨frs, hp⟩ := s
  dsimp only at h
  split at h
  · rename_i f fs
    obtain ⟨fn, ts, todo, ret⟩ := f
    dsimp only at h
    split at h
    · rename_i t hl
      cases h
      refine Run.of ?_ hx
      intro ρ w fr frs hF hW cs
      obtain ⟨tmps, rfl, hts, hss⟩ := hF.top
      exact ⟨ρ, w, _, frs, ⟨⟨tmps, rfl, hts⟩, hss⟩, hW, .one (loopC_step hl)⟩
    · cases h
  · cases h

def wantOk (ops : Array Oper) (ts : STmps) (o : Oper) : Bool :=
  match guardS ops ts o with
  | some .yes => true
  | some (.ask b want _) => b == want
  | _ => false
theorem wantOk_spec {ops : Array Oper} {ts : STmps} {o : Oper} {h : SHeap} {ρ : Ren} {tmps : Array Value} (e : wantOk ops ts o = true) (r : TRep h ρ ts tmps) : Region.wanted o (yielded ops tmps) = true := by
  unfold wantOk at e
  split at e
  · rename_i hg; exact guardS_yes hg r
  · rename_i b want d hg; rw [(guardS_ask hg r).1]; exact e
  · cases e

structure CallAt where
  g : FuncId
  as : List SV
  fn : Func
  enter : St
  back : SV → SHeap → St
def callS (P : Program) (s : St) : Option CallAt :=
  match s.frs with
  | f :: fs =>
    match f.ret, f.todo with
    | false, .inRegion ops (i :: rest) :: k =>
      match ops[i]? with
      | some o =>
        match wantOk ops f.tmps o, calleeS (sev f.tmps) o with
        | true, some (g, as) =>
          match callable P g with
          | some fn => some ⟨g, as, fn, ⟨enterS g fn as :: f :: fs, s.heap⟩, fun v h => ⟨⟨f.fn, putS f.tmps o.dst v, .inRegion ops rest :: k, false⟩ :: fs, h⟩⟩
          | none => none
        | _, _ => none
      | none => none
    | _, _ => none
  | [] => none

theorem callS_run {J : Job} {s : St} {c : CallAt} (h : callS J.C.P s = some c) :
    (Run J c.enter → Run J s) ∧ (∀ {α : Type} (h' : α → SHeap) (out : α → SV), CallOk J.C s.heap c.g c.as h' out → (∀ a, Sub s.heap (h' a)) → (∀ a, Run J (c.back (out a) (h' a))) → Run J s) := by
  unfold callS at h
  obtain ⟨frs, hp⟩ := s
  dsimp only at h
  split at h
  · rename_i f fs
    obtain ⟨fn, ts, todo, ret⟩ := f
    dsimp only at h
    split at h
    · rename_i ops i rest k
      split at h
      · rename_i o ho
        split at h
        · rename_i g as hw hc
          split at h
          · rename_i gf hcb
            cases h
            have hbody : gf.body.isSome = true := by
              unfold callable at hcb
              split at hcb
              · split at hcb
                · rename_i h1 _; cases hcb; exact h1
                · cases hcb
              · cases hcb
            refine ⟨fun hr => Run.of ?_ hr, fun h' out hok hsub hr => ?_⟩
            · intro ρ w fr frs hF hW cs
              obtain ⟨tmps, rfl, hts, hss⟩ := hF.top
              obtain ⟨args, hrun, hfn, hargs⟩ := calleeS_run (C := J.C) (TRep.erep (a := ⟨tmps, []⟩) hts) hc hcb w
              exact ⟨ρ, w, Frame.enter J.C.P g args .normal, mkF fn tmps (.inRegion ops (i :: rest) :: k) false :: frs, ⟨enterS_rep hfn hbody hargs, ⟨tmps, rfl, hts⟩, hss⟩, hW, .one (step_enter ho (wantOk_spec hw hts) hrun)⟩
            · intro ρ w fs0 hF hW cs
              cases fs0 with
              | nil => trivial
              | cons fr frs =>
                obtain ⟨tmps, rfl, hts, hss⟩ := hF.top
                obtain ⟨args, hrun, hfn, hargs⟩ := calleeS_run (C := J.C) (TRep.erep (a := ⟨tmps, []⟩) hts) hc hcb w
                have hcall := hok ρ w hW
                rw [hargs ρ (Ag.refl _ _)] at hcall
                obtain ⟨e, w', fr', ⟨a, ρ', x, rfl, hag, hvr, hW'⟩, hcomes, hfr, hleave⟩ := hcall (mkF fn tmps (.inRegion ops (i :: rest) :: k) false :: (frs ++ cs))
                have h1 : Steps J.C.P (lone (mkF fn tmps (.inRegion ops (i :: rest) :: k) false) (frs ++ cs) w) (lone (mkF fn (Act.put ⟨tmps, []⟩ o.dst x).tmps (.inRegion ops rest :: k) false) (frs ++ cs) w') := by
                  refine .head (step_enter ho (wantOk_spec hw hts) hrun) (Steps.trans hcomes (.one ?_))
                  have := step_leave_returned (c := mkF fn tmps (.inRegion ops (i :: rest) :: k) false) (cs := frs ++ cs) hleave
                  rw [finish_mkF ho] at this
                  exact this
                have h2 := hr a ρ' w' (mkF fn (Act.put ⟨tmps, []⟩ o.dst x).tmps (.inRegion ops rest :: k) false :: frs) ⟨⟨_, rfl, (hts.later (hsub a) hag).put hvr o.dst⟩, hss.later (hsub a) hag⟩ hW' cs
                exact Ends.steps h1 h2
          · cases h
        · cases h
      · cases h
    · cases h
  · cases h

/-- At the end: what the call hands back. -/
def finS (J : Job) (s : St) : Prop :=
  match s.frs with
  | [f] =>
    match f.ret, J.C.P.funcs[f.fn]? with
    | true, some fn =>
      match resS J.C s.heap f.tmps fn with
      | some v => Ck (f.fn == J.f) (J.Q s.heap v)
      | none => False
    | _, _ => False
  | _ => False
theorem finS_run {J : Job} {s : St} (h : finS J s) : Run J s := by
  unfold finS at h
  obtain ⟨frs, hp⟩ := s
  dsimp only at h
  split at h
  · rename_i f
    obtain ⟨fn, ts, todo, ret⟩ := f
    dsimp only at h
    split at h
    · rename_i fd hfn
      split at h
      · rename_i v hv
        obtain ⟨hf, hR⟩ := h.out
        obtain rfl : fn = J.f := by simpa using hf
        intro ρ w fs hF hW cs
        cases fs with
        | nil => trivial
        | cons fr frs =>
          obtain ⟨tmps, rfl, hts, hss⟩ := hF.top
          cases frs with
          | cons _ _ => exact hss.elim
          | nil =>
            obtain ⟨x, hx, hvr⟩ := resS_run hts hW hv
            refine ⟨.returned x, w, mkF J.f tmps todo true, ?_, Steps.refl _ _, rfl, rfl, rfl, rfl, fd, hfn, hx⟩
            rw [← hvr.here]
            exact J.hQ _ _ hR ρ w hW
      · exact h.elim
    · exact h.elim
  · exact h.elim

/-- On and on: both sides of every branch, into every call; 'K' where there is something else. -/
def autoS (J : Job) (lit : Bool) (N : Nat) : Nat → St → (St → Prop) → Prop
  | 0, _, _ => False
  | n + 1, s, K => exec J lit N s fun s' =>
    match condS s' with
    | some (.inl c, x, y) =>
      match lit with
      | true => (match c with | true => autoS J lit N n x K | false => autoS J lit N n y K)
      | false => (c = true → autoS J lit N n x K) ∧ (c = false → autoS J lit N n y K)
    | some (.inr true, x, _) => autoS J lit N n x K
    | some (.inr false, _, y) => autoS J lit N n y K
    | none =>
      match callS J.C.P s' with
      | some c => autoS J lit N n c.enter K
      | none =>
        match s'.frs with
        | [f] => (match f.ret with | true => finS J s' | false => K s')
        | _ => K s'
theorem autoS_run {J : Job} {lit : Bool} {N : Nat} : ∀ (n : Nat) {s : St} {K : St → Prop}, autoS J lit N n s K → (∀ s', K s' → Run J s') → Run J s
  | 0, _, _, h, _ => h.elim
  | n + 1, s, K, h, hK => exec_sound N h fun s' h' => by
    split at h'
    · rename_i c x y hc
      split at h'
      · cases c with
        | true => exact condS_run hc (fun _ => autoS_run n h' hK) (fun e => by cases e)
        | false => exact condS_run hc (fun e => by cases e) (fun _ => autoS_run n h' hK)
      · exact condS_run hc (fun e => autoS_run n (h'.1 e) hK) (fun e => autoS_run n (h'.2 e) hK)
    · rename_i x y hc; exact condS_run hc (fun _ => autoS_run n h' hK) (fun e => by cases e)
    · rename_i x y hc; exact condS_run hc (fun e => by cases e) (fun _ => autoS_run n h' hK)
    · split at h'
      · rename_i c hc; exact (callS_run hc).1 (autoS_run n h' hK)
      · split at h'
        · split at h'
          · exact finS_run h'
          · exact hK _ h'
        · exact hK _ h'

/-! ### the proposition -/
def check (J : Job) (lit : Bool) (N : Nat) : T → St → Prop
  | .sp b t e, s => (b = true → check J lit N t s) ∧ (b = false → check J lit N e s)
  | .br a b, s => exec J lit N s fun s' => match condS s' with
      | some (.inl c, x, y) => (c = true → check J lit N a x) ∧ (c = false → check J lit N b y)
      | some (.inr true, x, _) => check J lit N a x
      | some (.inr false, _, y) => check J lit N b y
      | none => False
  | .ct a, s => exec J lit N s fun s' => match condS s' with
      | some (.inl c, x, y) => (match c with | true => check J lit N a x | false => check J lit N a y)
      | some (.inr c, x, y) => (match c with | true => check J lit N a x | false => check J lit N a y)
      | none => False
  | .lp a, s => exec J lit N s fun s' => match loopS s' with | some x => check J lit N a x | none => False
  | .en a, s => exec J lit N s fun s' => match callS J.C.P s' with | some c => check J lit N a c.enter | none => False
  | .ca _ hp out t, s => exec J lit N s fun s' => match callS J.C.P s' with
      | some c => CallOk J.C s'.heap c.g c.as (fun a => hp a s'.heap) out ∧ (∀ a, Sub s'.heap (hp a s'.heap)) ∧ ∀ a, check J lit N (t a) (c.back (out a) (hp a s'.heap))
      | none => False
  | .fin, s => exec J lit N s fun s' => finS J s'
  | .cut mk, s => Covers J.C s (mk s) ∧ Run J (mk s)
  | .au n f, s => autoS J lit N n s fun s' => check J lit N (f s') s'

theorem check_run {J : Job} {lit : Bool} {N : Nat} : ∀ (t : T) {s : St}, check J lit N t s → Run J s
  | .sp b t e, s, h => by
    cases b with
    | true => exact check_run t (h.1 rfl)
    | false => exact check_run e (h.2 rfl)
  | .br a b, s, h => exec_sound N h fun s' h' => by
    split at h'
    · rename_i c x y hc
      exact condS_run hc (fun e => check_run a (h'.1 e)) (fun e => check_run b (h'.2 e))
    · rename_i x y hc; exact condS_run hc (fun _ => check_run a h') (fun e => by cases e)
    · rename_i x y hc; exact condS_run hc (fun e => by cases e) (fun _ => check_run b h')
    · exact h'.elim
  | .ct a, s, h => exec_sound N h fun s' h' => by
    split at h'
    · rename_i c x y hc
      cases c with
      | true => exact condS_run hc (fun _ => check_run a h') (fun e => by cases e)
      | false => exact condS_run hc (fun e => by cases e) (fun _ => check_run a h')
    · rename_i c x y hc
      cases c with
      | true => exact condS_run hc (fun _ => check_run a h') (fun e => by cases e)
      | false => exact condS_run hc (fun e => by cases e) (fun _ => check_run a h')
    · exact h'.elim
  | .lp a, s, h => exec_sound N h fun s' h' => by
    split at h'
    · rename_i x hx; exact loopS_run hx (check_run a h')
    · exact h'.elim
  | .en a, s, h => exec_sound N h fun s' h' => by
    split at h'
    · rename_i c hc; exact (callS_run hc).1 (check_run a h')
    · exact h'.elim
  | .ca α hp out t, s, h => by
    unfold check at h
    refine exec_sound N h fun s' h' => ?_
    split at h'
    · rename_i c hc; exact (callS_run hc).2 _ _ h'.1 h'.2.1 fun a => check_run (t a) (h'.2.2 a)
    · exact h'.elim
  | .fin, s, h => exec_sound N h fun s' h' => finS_run h'
  | .cut mk, s, h => covers_run h.1 h.2
  | .au n f, s, h => autoS_run n h fun s' h' => check_run (f s') h'

/-- **FROM THE RUN TO THE CONTRACT.** -/
theorem calls_of_run {J : Job} {fn : Func} {h : SHeap} {xs : List SV} {args : Array Value} (hcb : callable J.C.P J.f = some fn) (hW : WRep J.C J.C.ρ0 h J.C.w0)
    (ha : ∀ ρ', Ag h J.C.ρ0 ρ' → (xs.map (SV.den ρ')).toArray = args) (hr : Run J ⟨[enterS J.f fn xs], h⟩) : Calls J.C.P J.f args J.C.w0 J.R := by
  have hfn : J.C.P.funcs[J.f]? = some fn ∧ fn.body.isSome = true := by
    unfold callable at hcb
    split at hcb
    · rename_i fn' hfn
      split at hcb
      · rename_i h1 _; cases hcb; exact ⟨hfn, h1⟩
      · cases hcb
    · cases hcb
  intro cs
  exact hr J.C.ρ0 J.C.w0 [Frame.enter J.C.P J.f args .normal] ⟨enterS_rep hfn.1 hfn.2 ha, trivial⟩ hW cs
theorem WRep.start (P : Program) (w : World) : WRep ⟨P, w, 0, id⟩ id [] w :=
  ⟨fun k hk => absurd hk (Nat.not_lt_zero k), fun k l t e => by simp at e, fun j k _ _ _ _ e => by simp at e, fun k _ _ e => by simp at e, fun _ _ _ => rfl, Nat.le_refl _, rfl, rfl, rfl⟩
theorem WRep.below {P : Program} {w w' : World} {ρ : Ren} {h : SHeap} (r : WRep ⟨P, w, 0, id⟩ ρ h w') : RowKit.Below w.heap.size w w' :=
  ⟨r.os, r.tape, r.output, r.size, fun k hk => r.block k hk (fun j hj => absurd hj (Nat.not_lt_zero j))⟩

/-- A call that starts with no block of ours, and whose answer is a value of no name: the job. -/
def plainJob (P : Program) (specs : List (FnLaw P)) (f : FuncId) (w : World) (A : Value → Prop) : Job where
  C := ⟨P, w, 0, id⟩
  f := f
  specs := specs
  R := fun e w' => ∃ x, e = .returned x ∧ A x ∧ RowKit.Below w.heap.size w w'
  Q := fun _ v => ∀ _ρ, A (v.den _ρ)
  hQ := fun _ _ hv ρ _ hW => ⟨_, rfl, hv ρ, hW.below⟩
/-- Arguments of no name. -/
def litS : Value → SV
  | .agg cs => .a (cs.toList.map .v)
  | v => .c (.v v)
theorem litS_den (v : Value) (ρ : Ren) : (litS v).den ρ = v := by
  cases v <;> simp [litS, SV.den, SC.den, dens_v]
/-- A proposition that no tactic looks into. -/
structure Holds (p : Prop) : Prop where
  out : p
theorem chk {p VC : Prop} (h : VC) (e : p = VC) : Holds p := ⟨e ▸ h⟩
theorem run_chk {J : Job} {s : St} (lit : Bool) (N : Nat) (t : T) (h : Holds (check J lit N t s)) : Run J s := check_run t h.out
/-- **THE CONTRACT OF A CALL WHOSE ARGUMENTS AND ANSWER USE NO NAME.** -/
theorem plain_calls {P : Program} {f : FuncId} {w : World} {A : Value → Prop} {fn : Func} {args : Array Value} (hcb : callable P f = some fn) (specs : List (FnLaw P)) (lit : Bool) (N : Nat) (t : T)
    (h : Holds (check (plainJob P specs f w A) lit N t ⟨[enterS f fn (args.toList.map litS)], []⟩)) : Calls P f args w fun e w' => ∃ x, e = .returned x ∧ A x ∧ RowKit.Below w.heap.size w w' :=
  calls_of_run (J := plainJob P specs f w A) hcb (WRep.start P w) (fun ρ _ => by rw [← Array.toList_inj]; simp [Function.comp_def, litS_den]) (check_run t h.out)
end Go.Sx
