/- A symbolic run: calls. -/
import Derived.Test.YtoeeilbpgckhlaaSx8
namespace Go.Sx
open Go

/-! ### calls -/
def argsS (ev : Operand → Option SV) : List Operand → Option (List SV)
  | [] => some []
  | x :: r => match ev x, argsS ev r with | some v, some l => some (v :: l) | _, _ => none
theorem argsS_den {g : SHeap} {ρ ρ' : Ren} {ev : Operand → Option SV} {f : Operand → Value} (hE : ERep g ρ ev f) (ha : Ag g ρ ρ') : ∀ {xs : List Operand} {l : List SV}, argsS ev xs = some l → l.map (SV.den ρ') = xs.map f
  | [], l, h => by simp only [argsS, Option.some.injEq] at h; subst h; rfl
  | x :: r, l, h => by
    simp only [argsS] at h
    split at h
    · rename_i v l' hx hr
      cases h
      simp [argsS_den hE ha hr, (hE x v hx) ρ' ha]
    · cases h

/-- Which function is called, with what. -/
def calleeS (ev : Operand → Option SV) (o : Oper) : Option (FuncId × List SV) :=
  match o.op with
  | .call c =>
    match c.callee with
    | .value fo =>
      match ev fo, argsS ev c.args.toList with
      | some (.c (.v (.func (.func g) first captured))), some as =>
        match first.toList, captured.toList with
        | [], [] => some (g, as)
        | _, _ => none
      | some (.c (.f g caps)), some as => some (g, as ++ caps.map fun (k, o) => .c (.p k o))
      | _, _ => none
    | _ => none
  | _ => none
def callable (P : Program) (g : FuncId) : Option Func :=
  match P.funcs[g]? with
  | some fn => match fn.body.isSome, fn.name == "runtime.NumGoroutine" with | true, false => some fn | _, _ => none
  | none => none

theorem calleeS_run {C : Cfg} {h : SHeap} {ρ : Ren} {ev : Operand → Option SV} {f : Operand → Value} {o : Oper} {g : FuncId} {as : List SV} {fn : Func} (hE : ERep h ρ ev f) (hc : calleeS ev o = some (g, as)) (hcb : callable C.P g = some fn) (w : World) :
    ∃ args : Array Value, (execOp f o).run C.P w = .ok (.enter g args) w ∧ C.P.funcs[g]? = some fn ∧ ∀ ρ', Ag h ρ ρ' → (as.map (SV.den ρ')).toArray = args := by
  have hf : C.P.funcs[g]? = some fn ∧ fn.body.isSome = true ∧ (fn.name == "runtime.NumGoroutine") = false := by
    unfold callable at hcb
    split at hcb
    · rename_i fn' hfn
      split at hcb
      · rename_i h1 h2; cases hcb; exact ⟨hfn, h1, h2⟩
      · cases hcb
    · cases hcb
  obtain ⟨hfn, hb, hn⟩ := hf
  have hcf : ∀ args, (callFunc g args).run C.P w = .ok (.enter g args) w := fun args => by
    have hb' : ¬ fn.body = none := fun e => by simp [e] at hb
    simp at hn
    simp [callFunc, hfn, hb', hn]
  unfold calleeS at hc
  split at hc
  · rename_i c ho
    split at hc
    · rename_i fo hcl
      split at hc
      · rename_i g' first captured as' hfo has
        split at hc
        · rename_i h1 h2
          cases hc
          have e1 : first = #[] := by rw [← Array.toList_inj]; simpa using h1
          have e2 : captured = #[] := by rw [← Array.toList_inj]; simpa using h2
          subst e1; subst e2
          have hv : f fo = .func (.func g) #[] #[] := (hE fo _ hfo).here.symm
          refine ⟨c.args.map f, ?_, hfn, fun ρ' ha => ?_⟩
          · simp [execOp, ho, resolve, hcl, hv, Deferred.ofValue, invoke, hcf]
          · rw [argsS_den hE ha has, ← Array.toList_inj]; simp
        · cases hc
      · rename_i g' caps as' hfo has
        cases hc
        have hv : ∀ ρ', Ag h ρ ρ' → f fo = .func (.func g) #[] (caps.map fun (k, o) => Value.pointer (some ⟨ρ' k, o, none⟩)).toArray := fun ρ' ha => ((hE fo _ hfo) ρ' ha).symm
        refine ⟨c.args.map f ++ (caps.map fun (k, o) => Value.pointer (some ⟨ρ k, o, none⟩)).toArray, ?_, hfn, fun ρ' ha => ?_⟩
        · simp [execOp, ho, resolve, hcl, hv ρ (Ag.refl _ _), Deferred.ofValue, invoke, hcf]
        · have e1 := hv ρ' ha
          rw [hv ρ (Ag.refl _ _)] at e1
          simp only [Value.func.injEq, true_and] at e1
          rw [e1, List.map_append, argsS_den hE ha has, ← Array.toList_inj]
          simp [Function.comp_def, SV.den, SC.den]
      · cases hc
    · cases hc
  · cases hc

/-- A call's frame, by symbols. -/
def enterS (g : FuncId) (fn : Func) (as : List SV) : SF :=
  { fn := g, tmps := as.map some ++ List.replicate (fn.ntmps - as.length) (some (.t [])), todo := [.code (fn.body.getD (.refuse ""))] }

theorem enterS_rep {P : Program} {h : SHeap} {ρ : Ren} {g : FuncId} {fn : Func} {as : List SV} {args : Array Value} (hfn : P.funcs[g]? = some fn) (hb : fn.body.isSome = true) (ha : ∀ ρ', Ag h ρ ρ' → (as.map (SV.den ρ')).toArray = args) :
    FRep h ρ (enterS g fn as) (Frame.enter P g args .normal) := by
  have hl : args.size = as.length := by rw [← ha ρ (Ag.refl _ _)]; simp
  refine ⟨args ++ Array.replicate (fn.ntmps - args.size) undef, ?_, by simp [enterS, hl], ?_⟩
  · obtain ⟨c, hc⟩ := Option.isSome_iff_exists.1 hb
    simp [Frame.enter, enterS, mkF, hfn, hc]
  · intro t v hv
    simp only [enterS] at hv
    rcases Nat.lt_or_ge t as.length with ht | ht
    · rw [List.getElem?_append_left (by simpa using ht)] at hv
      simp only [List.getElem?_map, Option.map_eq_some_iff, Option.some.injEq, exists_eq_right] at hv
      refine ⟨args[t]'(by omega), by rw [Array.getElem?_append_left (by omega)]; simp, fun ρ' hag => ?_⟩
      have h2 : (as.map (SV.den ρ')).toArray[t]? = some (v.den ρ') := by simp [hv]
      rw [ha ρ' hag] at h2
      exact ((Array.getElem?_eq_some_iff.1 h2).2).symm
    · rw [List.getElem?_append_right (by simpa using ht)] at hv
      have hv2 := List.mem_of_getElem? hv
      simp only [List.mem_replicate, Option.some.injEq] at hv2
      obtain ⟨_, rfl⟩ := hv2
      have hlt := (List.getElem?_eq_some_iff.1 hv).1
      simp at hlt
      refine ⟨undef, ?_, fun _ _ => rfl⟩
      rw [Array.getElem?_append_right (by omega)]
      simp only [Array.getElem?_replicate]
      rw [if_pos (by omega)]

/-- What a contract says of a call: from whatever world this heap stands for it returns 'out', and the heap is then 'h''. -/
def CallOk (C : Cfg) (h : SHeap) (g : FuncId) (as : List SV) {α : Type} (h' : α → SHeap) (out : α → SV) : Prop :=
  ∀ ρ w, WRep C ρ h w → Calls C.P g (as.map (SV.den ρ)).toArray w fun e w' => ∃ a ρ' x, e = .returned x ∧ Ag h ρ ρ' ∧ VRep (h' a) ρ' (out a) x ∧ WRep C ρ' (h' a) w'

theorem given_lt'' {α : Type} {l : List α} {k : Nat} {q : α} (e : l[k]? = some q) : k < l.length := (List.getElem?_eq_some_iff.1 e).1


/-! ### functions of which a law is known -/
def litT : Value → SV
  | .agg cs => .a (cs.toList.map .v)
  | .tuple vs => .t (vs.toList.map fun | .agg cs => .inr (cs.toList.map .v) | v => .inl (.v v))
  | v => .c (.v v)
theorem litT_den (v : Value) (ρ : Ren) : (litT v).den ρ = v := by
  have hd : ∀ cs : Array Value, dens ρ (cs.toList.map .v) = cs := fun cs => by rw [← Array.toList_inj]; simp [dens, Function.comp_def, SC.den]
  cases v with
  | agg cs => simp [litT, SV.den, hd]
  | tuple vs =>
    simp only [litT, SV.den, Value.tuple.injEq]
    rw [← Array.toList_inj]
    simp only [List.map_map]
    have : ∀ l : List Value, l.map (den1 ρ ∘ fun | .agg cs => .inr (cs.toList.map SC.v) | v => .inl (SC.v v)) = l := fun l => by
      induction l with
      | nil => rfl
      | cons x r ih => simp only [List.map_cons, ih, Function.comp_apply]; cases x <;> simp [den1, SC.den, hd]
    exact this _
  | _ => rfl
def litsV : List SV → Option (List Value)
  | [] => some []
  | v :: r => match v.lit, litsV r with | some x, some l => some (x :: l) | _, _ => none
theorem litsV_den {ρ : Ren} : ∀ {as : List SV} {l : List Value}, litsV as = some l → as.map (SV.den ρ) = l
  | [], l, h => by cases h; rfl
  | v :: r, l, h => by
    simp only [litsV] at h
    split at h
    · rename_i x l' hx hr
      cases h
      simp [litsV_den hr, lit_den hx ρ]
    · cases h
def specAt {P : Program} (g : FuncId) : List (FnLaw P) → Option (FnLaw P)
  | [] => none
  | s :: r => match s.g == g with | true => some s | false => specAt g r
theorem specAt_g {P : Program} {g : FuncId} : ∀ {l : List (FnLaw P)} {s : FnLaw P}, specAt g l = some s → s.g = g
  | [], s, h => by simp [specAt] at h
  | x :: r, s, h => by
    simp only [specAt] at h
    split at h
    · rename_i e; cases h; simpa using e
    · exact specAt_g h
/-- A call of such a function: what is to be shown of its arguments, what it hands back. -/
def callV {P : Program} (specs : List (FnLaw P)) (ev : Operand → Option SV) (o : Oper) : Option (Prop × SV) :=
  match calleeS ev o with
  | some (g, as) =>
    match specAt g specs, litsV as, callable P g with
    | some s, some vs, some _ => some (s.dom vs, litT (s.out vs))
    | _, _, _ => none
  | none => none

theorem WRep.below' {C : Cfg} {h : SHeap} {ρ : Ren} {w w' : World} (r : WRep C ρ h w) (b : RowKit.Below w.heap.size w w') : WRep C ρ h w' := by
  obtain ⟨b1, b2, b3, b4, b5⟩ := b
  refine ⟨r.pre, fun k l t e => ?_, r.inj, r.new, fun k hk hn => ?_, Nat.le_trans r.size b4, by rw [b1, r.os], by rw [b2, r.tape], by rw [b3, r.output]⟩
  · obtain ⟨cs, h1, h2⟩ := r.objs k l t e
    exact ⟨cs, by rw [b5 _ (Array.getElem?_eq_some_iff.1 h1).1]; exact h1, h2⟩
  · rw [b5 k (Nat.lt_of_lt_of_le hk r.size)]
    exact r.block k hk hn
theorem callV_run {C : Cfg} {specs : List (FnLaw C.P)} {h : SHeap} {ρ : Ren} {ev : Operand → Option SV} {f : Operand → Value} {o : Oper} {d : Prop} {v : SV} {w : World} (hE : ERep h ρ ev f) (hW : WRep C ρ h w) (hc : callV specs ev o = some (d, v)) (hd : d) :
    ∃ g args, (execOp f o).run C.P w = .ok (.enter g args) w ∧ Calls C.P g args w fun e w' => ∃ x, e = .returned x ∧ VRep h ρ v x ∧ WRep C ρ h w' := by
  unfold callV at hc
  split at hc
  · rename_i g as hca
    split at hc
    · rename_i s vs fn hs hl hcb
      cases hc
      obtain ⟨args, hrun, _, hargs⟩ := calleeS_run (C := C) hE hca hcb w
      have ha : args = vs.toArray := by rw [← hargs ρ (Ag.refl _ _), litsV_den hl]
      subst ha
      have := s.ok vs w hd
      rw [specAt_g hs] at this
      exact ⟨g, _, hrun, Calls.mono this fun e w' ⟨x, he, hx, hb⟩ => ⟨x, he, fun ρ' _ => by rw [litT_den, hx], hW.below' hb⟩⟩
    · cases hc
  · cases hc
end Go.Sx
