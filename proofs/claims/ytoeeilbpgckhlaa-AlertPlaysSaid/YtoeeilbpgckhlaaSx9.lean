/- A symbolic run: the machine's way from stop to stop. -/
import Derived.Test.YtoeeilbpgckhlaaSx13
namespace Go.Sx
open Go

/-! ### the run -/
/-- How the run goes on where it stops. -/
inductive T : Type 1
  | br (a b : T)
  | ct (a : T)
  | lp (a : T)
  | en (a : T)
  | ca (α : Type) (hp : α → SHeap → SHeap) (out : α → SV) (t : α → T)
  | fin
  | cut (mk : St → St)
  | sp (b : Bool) (t e : T)
  | au (n : Nat) (f : St → T)

/-- An operation at which the run stops: a call of a function. -/
def stopOp (o : Oper) : Bool :=
  match o.op with
  | .call c => match c.callee with | .builtin .len => false | _ => true
  | _ => false

def exec (J : Job) (lit : Bool) : Nat → St → (St → Prop) → Prop
  | 0, _, _ => False
  | n + 1, s, K =>
    match s.frs with
    | [] => False
    | f :: fs =>
      match f.ret with
      | true =>
        match fs with
        | [] => K s
        | c :: cs =>
          match c.todo, c.ret, J.C.P.funcs[f.fn]? with
          | .inRegion ops (i :: rest) :: k, false, some fn =>
            match ops[i]?, resS J.C s.heap f.tmps fn with
            | some o, some v => exec J lit n ⟨⟨c.fn, putS c.tmps o.dst v, .inRegion ops rest :: k, false⟩ :: cs, s.heap⟩ K
            | _, _ => False
          | _, _, _ => False
      | false =>
        match moveC f.todo with
        | some (todo, r) => exec J lit n ⟨⟨f.fn, f.tmps, todo, r⟩ :: fs, s.heap⟩ K
        | none =>
          match f.todo with
          | .inRegion ops (i :: rest) :: k =>
            match ops[i]? with
            | none => False
            | some o =>
              let go (ts : STmps) : Prop :=
                match stopOp o with
                | true =>
                  match callV J.specs (sev ts) o with
                  | some (d, v) => d ∧ exec J lit n ⟨⟨f.fn, putS ts o.dst v, .inRegion ops rest :: k, false⟩ :: fs, s.heap⟩ K
                  | none => K ⟨⟨f.fn, ts, .inRegion ops (i :: rest) :: k, false⟩ :: fs, s.heap⟩
                | false => opS J.C s.heap.length s.heap (sev ts) o fun _ e =>
                  match applyE s.heap e.he with
                  | some h' => exec J lit n ⟨⟨f.fn, putS ts o.dst e.out, .inRegion ops rest :: k, false⟩ :: fs, h'⟩ K
                  | none => False
              let skip (ts : STmps) : Prop := exec J lit n ⟨⟨f.fn, putS ts o.dst (.t []), .inRegion ops rest :: k, false⟩ :: fs, s.heap⟩ K
              match guardS ops f.tmps o with
              | some .yes => go f.tmps
              | some .no => skip f.tmps
              | some (.ask b want d) =>
                match lit with
                | true => match b == want with | true => go f.tmps | false => skip f.tmps
                | false => (b = want → go (f.tmps.set d (some (.c (.b want))))) ∧ (b = !want → skip (f.tmps.set d (some (.c (.b !want)))))
              | none => False
          | .code (.region _ ops true) :: k => regS J.C J.specs lit ops f.tmps s.heap fun ts h => exec J lit n ⟨⟨f.fn, ts, k, false⟩ :: fs, h⟩ K
          | _ => K s

theorem spec_move {J : Job} {h : SHeap} {fn : FuncId} {ts : STmps} {ops : Array Oper} {i : Nat} {rest : List Nat} {k : List Item} {o : Oper} {ss : List SF} {d : Prop} {v : SV}
    (ho : ops[i]? = some o) (hw : ∀ ρ tmps, TRep h ρ ts tmps → Region.wanted o (yielded ops tmps) = true) (hc : callV J.specs (sev ts) o = some (d, v)) (hd : d)
    (hr : Run J ⟨⟨fn, putS ts o.dst v, .inRegion ops rest :: k, false⟩ :: ss, h⟩) : Run J ⟨⟨fn, ts, .inRegion ops (i :: rest) :: k, false⟩ :: ss, h⟩ := by
  intro ρ w fs0 hF hW cs
  cases fs0 with
  | nil => trivial
  | cons fr frs =>
    obtain ⟨tmps, rfl, hts, hss⟩ := hF.top
    obtain ⟨g, args, hrun, hcall⟩ := callV_run (TRep.erep (a := ⟨tmps, []⟩) hts) hW hc hd
    obtain ⟨e, w', fr', ⟨x, rfl, hvr, hW'⟩, hcomes, hfr, hleave⟩ := hcall (mkF fn tmps (.inRegion ops (i :: rest) :: k) false :: (frs ++ cs))
    have h1 : Steps J.C.P (lone (mkF fn tmps (.inRegion ops (i :: rest) :: k) false) (frs ++ cs) w) (lone (mkF fn (Act.put ⟨tmps, []⟩ o.dst x).tmps (.inRegion ops rest :: k) false) (frs ++ cs) w') := by
      refine .head (step_enter ho (hw ρ tmps hts) hrun) (Steps.trans hcomes (.one ?_))
      have := step_leave_returned (c := mkF fn tmps (.inRegion ops (i :: rest) :: k) false) (cs := frs ++ cs) hleave
      rw [finish_mkF ho] at this
      exact this
    exact Ends.steps h1 (hr ρ w' (mkF fn (Act.put ⟨tmps, []⟩ o.dst x).tmps (.inRegion ops rest :: k) false :: frs) ⟨⟨_, rfl, hts.put hvr o.dst⟩, hss⟩ hW' cs)

theorem exec_sound {J : Job} {lit : Bool} : ∀ (n : Nat) {s : St} {K : St → Prop}, exec J lit n s K → (∀ s', K s' → Run J s') → Run J s
  | 0, _, _, h, _ => h.elim
  | n + 1, ⟨frs, hp⟩, K, h, hK => by
    simp only [exec] at h
    split at h
    · exact h.elim
    · rename_i f fs
      obtain ⟨fn, ts, todo, ret⟩ := f
      dsimp only at h
      split at h
      · split at h
        · exact hK _ h
        · rename_i c cs
          split at h
          · rename_i ops i rest k fd htodo hcr hfn
            split at h
            · rename_i o v ho hv
              obtain ⟨cfn, cts, ctodo, cret⟩ := c
              dsimp only at htodo hcr h
              subst htodo; subst hcr
              refine Run.of ?_ (exec_sound n h hK)
              intro ρ w fr frs hF hW cs'
              obtain ⟨tmps, rfl, hts, hss⟩ := hF.top
              cases frs with
              | nil => exact hss.elim
              | cons fr2 frs2 =>
                obtain ⟨tmps2, rfl, hts2, hss2⟩ := hss.top
                obtain ⟨x, hx, hvr⟩ := resS_run hts hW hv
                refine ⟨ρ, w, _, frs2, ⟨⟨_, rfl, hts2.put hvr o.dst⟩, hss2⟩, hW, .one ?_⟩
                have := step_leave_returned (P := J.C.P) (fr := mkF fn tmps todo true) (c := mkF cfn tmps2 (.inRegion ops (i :: rest) :: k) false) (cs := frs2 ++ cs') (w := w) (v := x) ⟨rfl, rfl, rfl, fd, hfn, hx⟩
                rw [finish_mkF ho] at this
                exact this
            · exact h.elim
          · exact h.elim
      · split at h
        · rename_i todo' r hm
          refine Run.of ?_ (exec_sound n h hK)
          intro ρ w fr frs hF hW cs
          obtain ⟨tmps, rfl, hts, hss⟩ := hF.top
          exact ⟨ρ, w, _, frs, ⟨⟨tmps, rfl, hts⟩, hss⟩, hW, .one (moveC_step hm)⟩
        · split at h
          · rename_i ops i rest k _
            split at h
            · exact h.elim
            · rename_i o ho
              have hgo : ∀ ts' : STmps, (match stopOp o with
                  | true =>
                    match callV J.specs (sev ts') o with
                    | some (d, v) => d ∧ exec J lit n ⟨⟨fn, putS ts' o.dst v, .inRegion ops rest :: k, false⟩ :: fs, hp⟩ K
                    | none => K ⟨⟨fn, ts', .inRegion ops (i :: rest) :: k, false⟩ :: fs, hp⟩
                  | false => opS J.C hp.length hp (sev ts') o fun _ e =>
                    match applyE hp e.he with
                    | some h' => exec J lit n ⟨⟨fn, putS ts' o.dst e.out, .inRegion ops rest :: k, false⟩ :: fs, h'⟩ K
                    | none => False) → (∀ ρ tmps, TRep hp ρ ts' tmps → Region.wanted o (yielded ops tmps) = true) →
                  Run J ⟨⟨fn, ts', .inRegion ops (i :: rest) :: k, false⟩ :: fs, hp⟩ := fun ts' hg hw => by
                split at hg
                · split at hg
                  · rename_i d v hc
                    exact spec_move ho hw hc hg.1 (exec_sound n hg.2 hK)
                  · exact hK _ hg
                · obtain ⟨T, e, hT, hok, he⟩ := opS_sound hg
                  split at he
                  · rename_i h' ha
                    exact op_move ho hw hT hok ha (exec_sound n he hK)
                  · exact he.elim
              have hskip : ∀ ts' : STmps, exec J lit n ⟨⟨fn, putS ts' o.dst (.t []), .inRegion ops rest :: k, false⟩ :: fs, hp⟩ K → (∀ ρ tmps, TRep hp ρ ts' tmps → Region.wanted o (yielded ops tmps) = false) →
                  Run J ⟨⟨fn, ts', .inRegion ops (i :: rest) :: k, false⟩ :: fs, hp⟩ := fun ts' hg hw => by
                refine Run.of ?_ (exec_sound n hg hK)
                intro ρ w fr frs hF hW cs
                obtain ⟨tmps, rfl, hts, hss⟩ := hF.top
                exact ⟨ρ, w, _, frs, ⟨⟨_, rfl, hts.put (v := .t []) (x := undef) (fun _ _ => rfl) o.dst⟩, hss⟩, hW, .one (step_skipped ho (hw ρ tmps hts))⟩
              split at h
              · rename_i hg
                exact hgo ts h fun ρ tmps ht => guardS_yes hg ht
              · rename_i hg
                exact hskip ts h fun ρ tmps ht => guardS_no hg ht
              · rename_i b want d hg
                split at h
                · split at h
                  · rename_i hbw
                    exact hgo ts h fun ρ tmps ht => by rw [(guardS_ask hg ht).1, hbw]
                  · rename_i hbw
                    exact hskip ts h fun ρ tmps ht => by rw [(guardS_ask hg ht).1, hbw]
                · obtain ⟨hy, hn⟩ := h
                  intro ρ w fr hF hW cs
                  have setsame : ∀ {tmps : Array Value} {c : Bool}, TRep hp ρ ts tmps → b = c → TRep hp ρ (ts.set d (some (.c (.b c)))) tmps := fun ht e => by
                    subst e
                    refine ⟨by simpa using ht.1, fun t u hu => ?_⟩
                    have hd := (guardS_ask hg ht).2
                    by_cases htd : d = t
                    · subst htd
                      rw [List.getElem?_set_self (given_lt'' hd)] at hu
                      cases hu
                      obtain ⟨x, hx, hv⟩ := ht.2 _ _ hd
                      exact ⟨x, hx, fun r hr => hv r hr⟩
                    · rw [List.getElem?_set_ne htd] at hu
                      exact ht.2 _ _ hu
                  have wantd : ∀ {c : Bool} (ρ' : Ren) (tmps : Array Value), TRep hp ρ' (ts.set d (some (.c (.b c)))) tmps → d < ts.length → Region.wanted o (yielded ops tmps) = (c == want) := fun {c} ρ' tmps ht hd => by
                    have hg' : guardS ops (ts.set d (some (.c (.b c)))) o = match c == want with | true => some .yes | false => some .no := by
                      unfold guardS at hg ⊢
                      cases hgd : o.guard with
                      | none => simp [hgd] at hg
                      | some jw =>
                        obtain ⟨j, want'⟩ := jw
                        simp only [hgd] at hg ⊢
                        cases hoj : ops[j]? with
                        | none => simp [hoj] at hg
                        | some oj =>
                          simp only [hoj] at hg ⊢
                          cases hdst : oj.dst with
                          | none => simp [hdst] at hg
                          | some d' =>
                            simp only [hdst] at hg ⊢
                            have hdd : d' = d ∧ want' = want := by
                              split at hg
                              · cases hg; exact ⟨rfl, rfl⟩
                              · split at hg <;> cases hg
                              · cases hg
                              · cases hg
                            obtain ⟨rfl, rfl⟩ := hdd
                            rw [List.getElem?_set_self hd]
                            dsimp only
                            cases c == want' <;> rfl
                    cases hcw : c == want with
                    | true => rw [hcw] at hg'; exact guardS_yes hg' ht
                    | false => rw [hcw] at hg'; exact guardS_no hg' ht
                  cases fr with
                  | nil => trivial
                  | cons fr0 frs0 =>
                    obtain ⟨tmps, rfl, hts, hss⟩ := hF.top
                    have hd : d < ts.length := given_lt'' (guardS_ask hg hts).2
                    by_cases hb : b = want
                    · exact hgo _ (hy hb) (fun ρ' tmps' ht' => by rw [wantd ρ' tmps' ht' hd]; simp) ρ w (mkF fn tmps (.inRegion ops (i :: rest) :: k) false :: frs0) ⟨⟨tmps, rfl, setsame hts hb⟩, hss⟩ hW cs
                    · have hb' : b = !want := by cases b <;> cases want <;> simp_all
                      exact hskip _ (hn hb') (fun ρ' tmps' ht' => by rw [wantd ρ' tmps' ht' hd]; cases want <;> rfl) ρ w (mkF fn tmps (.inRegion ops (i :: rest) :: k) false :: frs0) ⟨⟨tmps, rfl, setsame hts hb'⟩, hss⟩ hW cs
              · exact h.elim
          · exact regS_run h fun ts' h' hh => exec_sound n hh hK
          · exact hK _ h
end Go.Sx
