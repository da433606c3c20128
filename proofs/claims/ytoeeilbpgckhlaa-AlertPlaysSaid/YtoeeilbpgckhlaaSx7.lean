/- A symbolic run: the whole of it, as one proposition to be shown ('check'), and that it suffices. -/
import Derived.Test.YtoeeilbpgckhlaaSx6
namespace Go.Sx
open Go

/-- 'len'. -/
def lenS (C : Cfg) (ev : Operand → Option SV) (c : Call) (K : KT) : Prop :=
  match c.callee, c.args.toList, c.argTypes.toList with
  | .builtin .len, [x], [t] =>
    match C.P.underlying t, ev x with
    | some (.slice _), some (.c (.s _ _ l _)) => K none { out := .c (.v (.int .i64 l)) }
    | some (.slice _), some (.c (.v (.slice _ l _))) => K none { out := .c (.v (.int .i64 l)) }
    | some .string, some (.c (.v (.string s))) => K none { out := .c (.v (.int .i64 s.size)) }
    | _, _ => False
  | _, _, _ => False
theorem lenS_sound {C : Cfg} {nm : Nat} {h : SHeap} {ev : Operand → Option SV} {o : Oper} {K : KT} {c : Call} (ho : o.op = .call c) (hs : lenS C ev c K) : Has C nm h ev o K := by
  unfold lenS at hs
  split at hs
  · rename_i x t hc ha ht
    have ha' : c.args = #[x] := by rw [← Array.toList_inj]; simpa using ha
    have ht' : c.argTypes = #[t] := by rw [← Array.toList_inj]; simpa using ht
    split at hs
    · rename_i e k off l cp hu hx
      refine has_pure hs fun g ρ f w hW hE => ⟨_, ?_, fun _ _ => rfl⟩
      have hf : f x = .slice (some ⟨ρ k, off, none⟩) l cp := (hE x _ hx).here.symm
      simp [execOp, ho, resolve, hc, ha', ht', invoke, builtin, Builtin.len_, run_underlying hu, hf, goInt]
    · rename_i e ad l cp hu hx
      refine has_pure hs fun g ρ f w hW hE => ⟨_, ?_, fun _ _ => rfl⟩
      have hf : f x = .slice ad l cp := (hE x _ hx).here.symm
      simp [execOp, ho, resolve, hc, ha', ht', invoke, builtin, Builtin.len_, run_underlying hu, hf, goInt]
    · rename_i s hu hx
      refine has_pure hs fun g ρ f w hW hE => ⟨_, ?_, fun _ _ => rfl⟩
      have hf : f x = .string s := (hE x _ hx).here.symm
      simp [execOp, ho, resolve, hc, ha', ht', invoke, builtin, Builtin.len_, run_underlying hu, hf, goInt]
    · exact hs.elim
  · exact hs.elim

/-- All operations but calls, by their kinds. -/
def opS (C : Cfg) (nm : Nat) (h : SHeap) (ev : Operand → Option SV) (o : Oper) (K : KT) : Prop :=
  match o.op with
  | .move x => moveS ev x K
  | .assign x => moveS ev x K
  | .pick c a b => pickS ev c a b K
  | .alloc t => allocS C nm t K
  | .box t x => boxS ev nm t x K
  | .build t ps => buildS C ev t ps K
  | .load t a => loadS C h ev t a K
  | .store t a x => storeS C h ev t a x K
  | .fieldAddr s x f => fieldAddrS C ev s x f K
  | .field t x f => fieldS C ev t x f K
  | .indexAddr t x ix => indexAddrS C ev t x ix K
  | .index t x ix => indexS C ev t x ix K
  | .binOp op t x y _ => binS C ev op t x y K
  | .unOp op _ x => unS C ev op x K
  | .convert s d x => convS C ev s d x K
  | .extract t i => extractS ev t i K
  | .nilCheck x => nilCheckS ev x K
  | .makeFunc fn first captured => makeFuncS ev fn first captured K
  | .call c => lenS C ev c K
  | _ => False
theorem opS_sound {C : Cfg} {nm : Nat} {h : SHeap} {ev : Operand → Option SV} {o : Oper} {K : KT} (hs : opS C nm h ev o K) : Has C nm h ev o K := by
  unfold opS at hs
  split at hs
  · rename_i ho; exact moveS_sound (.inl ho) hs
  · rename_i ho; exact moveS_sound (.inr ho) hs
  · rename_i ho; exact pickS_sound ho hs
  · rename_i ho; exact allocS_sound ho hs
  · rename_i ho; exact boxS_sound ho hs
  · rename_i ho; exact buildS_sound ho hs
  · rename_i ho; exact loadS_sound ho hs
  · rename_i ho; exact storeS_sound ho hs
  · rename_i ho; exact fieldAddrS_sound ho hs
  · rename_i ho; exact fieldS_sound ho hs
  · rename_i ho; exact indexAddrS_sound ho hs
  · rename_i ho; exact indexS_sound ho hs
  · rename_i ho; exact binS_sound ho hs
  · rename_i ho; exact unS_sound ho hs
  · rename_i ho; exact convS_sound ho hs
  · rename_i ho; exact extractS_sound ho hs
  · rename_i ho; exact nilCheckS_sound ho hs
  · rename_i ho; exact makeFuncS_sound ho hs
  · rename_i ho; exact lenS_sound ho hs
  · exact hs.elim

/-! ### a name more that is not given -/
theorem given_more {h : SHeap} {k : Nat} {q : SO} : (h ++ [none])[k]? = some (some q) ↔ h[k]? = some (some q) := by
  rcases Nat.lt_or_ge k h.length with hk | hk
  · rw [List.getElem?_append_left hk]
  · rw [List.getElem?_append_right hk]
    rcases Nat.eq_zero_or_pos (k - h.length) with h0 | h0
    · simp [h0, List.getElem?_eq_none hk]
    · rw [List.getElem?_eq_none (by simp; omega), List.getElem?_eq_none hk]
/-- Two heaps that give the same. -/
def Alk (h g : SHeap) : Prop := ∀ (k : Nat) (q : SO), h[k]? = some (some q) ↔ g[k]? = some (some q)
theorem Alk.sub {h g : SHeap} (a : Alk h g) : Sub h g := fun k q e => ⟨q, (a k q).1 e⟩
theorem Alk.symm {h g : SHeap} (a : Alk h g) : Alk g h := fun k q => (a k q).symm
theorem alk_more (h : SHeap) : Alk h (h ++ [none]) := fun _ _ => given_more.symm
theorem WRep.alk {C ρ h g w} (r : WRep C ρ h w) (a : Alk h g) : WRep C ρ g w :=
  ⟨fun k hk => ⟨(r.pre k hk).1, let ⟨q, hq⟩ := (r.pre k hk).2; ⟨q, (a k q).1 hq⟩⟩,
   fun k l t e => let ⟨cs, h1, h2⟩ := r.objs k l t ((a k _).2 e); ⟨cs, h1, h2.later a.sub (Ag.refl _ _)⟩,
   fun j k _ _ _ _ e1 e2 => r.inj j k _ _ _ _ ((a j _).2 e1) ((a k _).2 e2),
   fun k _ _ e => r.new k _ _ ((a k _).2 e), r.block, r.size, r.os, r.tape, r.output⟩
theorem VRep.alk {ρ h g v x} (r : VRep h ρ v x) (a : Alk h g) : VRep g ρ v x := r.later a.sub (Ag.refl _ _)
theorem ERep.alk {ρ h g ev f} (r : ERep h ρ ev f) (a : Alk h g) : ERep g ρ ev f := fun x v e => (r x v e).alk a

def applyE (h : SHeap) : HE → Option SHeap
  | .none => some h
  | .set k o => match h[k]? with | some (some _) => some (h.set k (some o)) | _ => none
  | .new o => some (h ++ [some o])

theorem applyE_alk {h h' : SHeap} {e : HE} (ha : applyE h e = some h') : Alk (e.run h.length (h ++ [none])) h' := by
  cases e with
  | none => cases ha; exact (alk_more h).symm
  | set k o =>
    simp only [applyE] at ha
    split at ha
    · rename_i q hq
      cases ha
      have hk := (List.getElem?_eq_some_iff.1 hq).1
      simp only [HE.run]
      rw [List.set_append_left _ _ hk]
      exact (alk_more _).symm
    · cases ha
  | new o =>
    cases ha
    intro k q
    simp only [HE.run]
    rw [List.set_append_right _ _ (Nat.le_refl _)]
    simp
theorem applyE_sub {h h' : SHeap} {e : HE} (ha : applyE h e = some h') : Sub h h' := by
  refine Sub.trans ?_ (applyE_alk ha).sub
  refine (alk_more h).sub.trans ?_
  cases e with
  | none => exact Sub.refl _
  | set k o => exact sub_set
  | new o => exact sub_set

/-- One operation in the machine: all that is asked of it, and what becomes of the frame and the heap. -/
theorem op_move {J : Job} {h h' : SHeap} {fn : FuncId} {ts : STmps} {ops : Array Oper} {i : Nat} {rest : List Nat} {k : List Item} {o : Oper} {T : Option (Nat × SO)} {e : Eff} {ss : List SF}
    (ho : ops[i]? = some o) (hw : ∀ ρ tmps, TRep h ρ ts tmps → Region.wanted o (yielded ops tmps) = true)
    (hT : ∀ k q, T = some (k, q) → h[k]? = some (some q)) (hok : OpOk J.C h.length o (sev ts) T e) (ha : applyE h e.he = some h')
    (hr : Run J ⟨⟨fn, putS ts o.dst e.out, .inRegion ops rest :: k, false⟩ :: ss, h'⟩) : Run J ⟨⟨fn, ts, .inRegion ops (i :: rest) :: k, false⟩ :: ss, h⟩ := by
  refine Run.of ?_ hr
  intro ρ w fr frs hF hW cs
  obtain ⟨tmps, rfl, hts, hss⟩ := hF.top
  obtain ⟨x, w', hrun, hx, hW'⟩ := hok (h ++ [none]) ρ (Act.eval ⟨tmps, []⟩) w (fun k q e' => given_more.2 (hT k q e')) (by simp) (hW.alk (alk_more h))
    (ERep.alk (TRep.erep (a := ⟨tmps, []⟩) hts) (alk_more h))
  have hag : Ag h ρ (e.he.ren h.length ρ w.heap.size) := by
    cases e.he with
    | new o => exact fun k q e' => upd_other ρ _ (Nat.ne_of_lt (given_lt e'))
    | _ => exact Ag.refl _ _
  refine ⟨e.he.ren h.length ρ w.heap.size, w', mkF fn (Act.put ⟨tmps, []⟩ o.dst x).tmps (.inRegion ops rest :: k) false, frs, ⟨⟨_, rfl, ?_⟩, hss.later (applyE_sub ha) hag⟩, hW'.alk (applyE_alk ha), .one (step_value ho (hw ρ tmps hts) hrun)⟩
  exact TRep.put (hts.later (applyE_sub ha) hag) (hx.alk (applyE_alk ha)) o.dst
end Go.Sx
