/- A symbolic run: the whole of it, as one proposition to be shown ('check'), and that it suffices. -/
import Derived.Test.YtoeeilbpgckhlaaSx7
namespace Go.Sx
open Go

/-! ### results -/
def res1 (C : Cfg) (h : SHeap) (ts : STmps) : ResultVar → Option (SC ⊕ List SC)
  | .tmp t =>
    match ts[t]? with
    | some (some (.c x)) => some (.inl x)
    | some (some (.a cs)) => some (.inr cs)
    | _ => none
  | .cell a ty =>
    match ts[a]?, isAggT C.P ty, sizeT C.P ty with
    | some (some (.c (.p k off))), some ag, some n =>
      match h[k]? with
      | some (some (.cells l _)) =>
        match ag with
        | true => match decide (off + n ≤ l.length) with | true => some (.inr ((l.drop off).take n)) | false => none
        | false => match l[off]? with | some y => some (.inl y) | none => none
      | _ => none
    | _, _, _ => none
def resL (C : Cfg) (h : SHeap) (ts : STmps) : List ResultVar → Option (List (SC ⊕ List SC))
  | [] => some []
  | r :: rs => match res1 C h ts r, resL C h ts rs with | some x, some xs => some (x :: xs) | _, _ => none
def one : SC ⊕ List SC → SV
  | .inl x => .c x
  | .inr cs => .a cs
def resS (C : Cfg) (h : SHeap) (ts : STmps) (fn : Func) : Option SV :=
  match resL C h ts fn.results.toList with
  | some [x] => some (one x)
  | some xs => some (.t xs)
  | none => none

def resF (tmps : Array Value) : ResultVar → Sem Value
  | .tmp t => pure (tmps.getD t undef)
  | .cell a t => do loadVar t (← asAddr (tmps.getD a undef))
theorem results_eq (fn : Func) (tmps : Array Value) : results fn tmps = (do let vs ← fn.results.mapM (resF tmps); pure (if h : vs.size = 1 then vs[0] else .tuple vs)) := by
  unfold results
  congr 1

theorem one_den (ρ : Ren) (x : SC ⊕ List SC) : (one x).den ρ = den1 ρ x := by cases x <;> rfl

theorem res1_run {C : Cfg} {h : SHeap} {ts : STmps} {ρ : Ren} {w : World} {tmps : Array Value} (hT : TRep h ρ ts tmps) (hW : WRep C ρ h w) {r : ResultVar} {x : SC ⊕ List SC} (hr : res1 C h ts r = some x) :
    ∃ v, (resF tmps r).run C.P w = .ok v w ∧ VRep h ρ (one x) v := by
  unfold resF
  cases r with
  | tmp t =>
    simp only [res1] at hr
    split at hr
    · rename_i y hy; cases hr
      obtain ⟨v, hv, hr⟩ := hT.2 _ _ hy
      exact ⟨v, by simp [Array.getD_eq_getD_getElem?, hv], hr⟩
    · rename_i y hy; cases hr
      obtain ⟨v, hv, hr⟩ := hT.2 _ _ hy
      exact ⟨v, by simp [Array.getD_eq_getD_getElem?, hv], hr⟩
    · cases hr
  | cell a ty =>
    simp only [res1] at hr
    split at hr
    · rename_i k off ag n ha hag hn
      obtain ⟨v, hv, hvr⟩ := hT.2 _ _ ha
      have hva : v = .pointer (some ⟨ρ k, off, none⟩) := hvr.here.symm
      have hg : tmps.getD a undef = .pointer (some ⟨ρ k, off, none⟩) := by simp [Array.getD_eq_getD_getElem?, hv, hva]
      split at hr
      · rename_i l t0 hk
        obtain ⟨cs, hcs, hcr⟩ := hW.objs k l t0 hk
        have hsz : cs.size = l.length := by rw [← hcr.here, dens_length]
        split at hr
        · split at hr
          · rename_i hle
            simp only [decide_eq_true_eq] at hle
            cases hr
            refine ⟨.agg (cs.extract off (off + n)), ?_, ?_⟩
            · have hlen : ((cs.extract off (off + n)).toList).length = n := by simp; omega
              have hl := run_loadCells_list (P := C.P) w ⟨ρ k, off, none⟩ (cs.extract off (off + n)).toList (fun j v hv => by
                rw [addr_add_own, cell_of_row w (ρ k) (off + j) cs t0 (0, 0) hcs]
                simp only [Array.toList_extract, List.extract_eq_take_drop] at hv
                rw [List.getElem?_take] at hv
                split at hv
                · simpa using hv
                · cases hv)
              rw [hlen] at hl
              simp [hg, asAddr, loadVar, run_isAgg hag, run_sizeOf hn, hl]
              rw [← Array.toList_inj]
              simp [List.extract_eq_take_drop]
            · intro ρ' hag'
              have hd : dens ρ' l = cs := hcr ρ' hag'
              rw [← hd]
              simp [one, SV.den, dens, List.map_take, List.map_drop]
          · cases hr
        · split at hr
          · rename_i y hy
            cases hr
            have hlt : off < cs.size := by rw [hsz]; exact (List.getElem?_eq_some_iff.1 hy).1
            refine ⟨cs[off], ?_, ?_⟩
            · have hl : w.cell? ⟨ρ k, off, none⟩ = some cs[off] := by rw [cell_of_row w (ρ k) off cs t0 (0, 0) hcs]; simp [hlt]
              simp [hg, asAddr, loadVar, run_isAgg hag, hl]
            · intro ρ' hag'
              have hd : dens ρ' l = cs := hcr ρ' hag'
              subst hd
              have hy2 := (List.getElem?_eq_some_iff.1 hy).2
              simp [one, SV.den, dens, hy2]
          · cases hr
      · cases hr
    · cases hr

theorem resL_run {C : Cfg} {h : SHeap} {ts : STmps} {ρ : Ren} {w : World} {tmps : Array Value} (hT : TRep h ρ ts tmps) (hW : WRep C ρ h w) : ∀ {rs : List ResultVar} {xs : List (SC ⊕ List SC)}, resL C h ts rs = some xs →
    ∃ vs : List Value, (rs.mapM (resF tmps)).run C.P w = .ok vs w ∧ vs.length = xs.length ∧
      ∀ ρ', Ag h ρ ρ' → xs.map (den1 ρ') = vs
  | [], xs, hr => by simp only [resL, Option.some.injEq] at hr; subst hr; exact ⟨[], by simp, rfl, fun _ _ => rfl⟩
  | r :: rs, xs, hr => by
    simp only [resL] at hr
    split at hr
    · rename_i x xs' h1 h2
      cases hr
      obtain ⟨v, hv, hvr⟩ := res1_run hT hW h1
      obtain ⟨vs, hvs, hl, hd⟩ := resL_run hT hW h2
      refine ⟨v :: vs, ?_, by simp [hl], ?_⟩
      · rw [List.mapM_cons, Sem.run_bind, hv]
        simp [hvs]
      · intro ρ' ha
        have := hvr ρ' ha
        rw [one_den] at this
        simp [hd ρ' ha, this]
    · cases hr

theorem resS_run {C : Cfg} {h : SHeap} {ts : STmps} {ρ : Ren} {w : World} {tmps : Array Value} {fn : Func} (hT : TRep h ρ ts tmps) (hW : WRep C ρ h w) {v : SV} (hr : resS C h ts fn = some v) :
    ∃ x, (results fn tmps).run C.P w = .ok x w ∧ VRep h ρ v x := by
  unfold resS at hr
  have key : ∀ xs, resL C h ts fn.results.toList = some xs → ∃ vs : List Value, vs.length = xs.length ∧ (results fn tmps).run C.P w = .ok (if h : vs.toArray.size = 1 then vs.toArray[0] else .tuple vs.toArray) w ∧ ∀ ρ', Ag h ρ ρ' → xs.map (den1 ρ') = vs := fun xs hxs => by
    obtain ⟨vs, hvs, hl, hd⟩ := resL_run hT hW hxs
    refine ⟨vs, hl, ?_, hd⟩
    rw [results_eq, Sem.run_bind]
    have : (fn.results.mapM (resF tmps)).run C.P w = .ok vs.toArray w := by
      rw [Array.mapM_eq_mapM_toList, map_eq_pure_bind, Sem.run_bind, hvs]
      rfl
    rw [this]
    rfl
  split at hr
  · rename_i x hx
    cases hr
    obtain ⟨vs, hl, hrun, hd⟩ := key _ hx
    match vs, hl with
    | [v], _ =>
      refine ⟨v, by simpa using hrun, fun ρ' ha => ?_⟩
      have := hd ρ' ha
      rw [one_den]
      simpa using this
  · rename_i xs hne hxs
    cases hr
    obtain ⟨vs, hl, hrun, hd⟩ := key _ hxs
    have h1 : vs.length ≠ 1 := fun e => by
      rw [hl] at e
      match xs, e with
      | [y], _ => exact hne y rfl
    refine ⟨.tuple vs.toArray, by rw [hrun]; simp [h1], fun ρ' ha => ?_⟩
    simp [SV.den, hd ρ' ha]
  · cases hr
end Go.Sx
