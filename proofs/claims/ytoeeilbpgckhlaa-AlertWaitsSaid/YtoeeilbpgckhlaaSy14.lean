/- A symbolic run, second making: regions that draw their order, second part: the one run in the text's order that speaks for them all. -/
import Derived.Test.YtoeeilbpgckhlaaSy13
namespace Go.Sy
open Go

section
variable {P : Program} {C : Cfg} {ops : Array Oper} {rows : List Row} {ts0 : STmps} {hx : SHeap}

theorem rows_get (hrows : rows.map (·.o) = ops.toList) {i : Nat} {o : Oper} (ho : ops[i]? = some o) : ∃ r, rows[i]? = some r ∧ r.o = o := by
  have h1 : (rows.map (·.o))[i]? = some o := by rw [hrows]; simpa using ho
  simp only [List.getElem?_map, Option.map_eq_some_iff] at h1
  exact h1

/-- A state of such a region's run: who is listed; every listed one's effect is there, of the others nothing. -/
structure Inv (C : Cfg) (ops : Array Oper) (rows : List Row) (ts0 : STmps) (hx : SHeap) (ρ0 : Ren) (listed : Array Bool) (tmps : Array Value) (w : World) : Prop where
  size : listed.size = ops.size
  closed : Closed ops.toList fun j => listed.getD j false
  rep : ∃ ρ, Ag hx ρ0 ρ ∧ TRep (hF (fun j => listed.getD j false) 0 rows hx) ρ (tsF (fun j => listed.getD j false) 0 rows ts0) tmps ∧ WRep C ρ (hF (fun j => listed.getD j false) 0 rows hx) w

theorem hF_sub (p : Nat → Bool) : ∀ (rs : List Row) (i : Nat) (h : SHeap), Sub h (hF p i rs h)
  | [], _, h => Sub.refl h
  | r :: rs, i, h => by
    simp only [hF]
    refine Sub.trans ?_ (hF_sub p rs (i + 1) _)
    split
    · exact Eff.app_sub _ _ _
    · exact Sub.refl _

theorem Inv.step {ρ0 : Ren} {listed : Array Bool} {tmps : Array Value} {ds : List Deferred} {w : World} (hrows : rows.map (·.o) = ops.toList) (hf : Facts P C ops rows ts0 hx) (hok : drawOk ops rows = true)
    (hI : Inv C ops rows ts0 hx ρ0 listed tmps w) {i : Nat} (hi : i ∈ Region.ready .any ops listed) (b : Frame) (rest : List Nat) (k : List Item) (cs : List Frame) :
    ∃ tmps' w', Inv C ops rows ts0 hx ρ0 (listed.setIfInBounds i true) tmps' w' ∧ Steps P (lone (b.atR ⟨tmps, ds⟩ (.inRegion ops (i :: rest) :: k)) cs w) (lone (b.atR ⟨tmps', ds⟩ (.inRegion ops rest :: k)) cs w') := by
  simp only [drawOk, Bool.and_eq_true] at hok
  obtain ⟨_, _, hord⟩ := hok
  rw [mem_ready] at hi
  obtain ⟨hun, o, ho, hdeps⟩ := hi
  obtain ⟨r, hr, rfl⟩ := rows_get hrows ho
  have hlt : i < listed.size := by
    rw [hI.size]; exact (Array.getElem?_eq_some_iff.1 ho).1
  have hunl : listed.getD i false = false := by simpa [hlt] using hun
  have hlen : rows.length = ops.size := by have := congrArg List.length hrows; simpa using this
  have hms := ancsGo_ok ops.toList ops.toList [] (by simp) (by intro p _ i hi; simp at hi)
  generalize hmsd : ancsGo ops.toList [] = ms at hord hms
  -- listing i keeps the set closed
  have hget' : ∀ j, (listed.setIfInBounds i true).getD j false = (listed.getD j false || j == i) := fun j => by
    by_cases hj : j = i
    · subst hj; simp [hlt]
    · rw [getD_set_ne false (fun e => hj e.symm)]; simp [hj]
  have hdir : ∀ j ∈ direct r.o, listed.getD j false = true := fun j hj => by
    simp only [direct, List.mem_filterMap] at hj
    obtain ⟨e, he, hej⟩ := hj
    split at hej
    · rename_i hb; cases hej; exact hdeps e (by simpa using he) hb
    · cases hej
  have hclosed' : Closed ops.toList fun j => (listed.setIfInBounds i true).getD j false := fun k o' hk hp j hj => by
    simp only [hget', Bool.or_eq_true, beq_iff_eq] at hp ⊢
    rcases hp with hp | rfl
    · exact .inl (hI.closed k o' hk hp j hj)
    · have : o' = r.o := by
        have h1 : ops[k]? = some o' := by simpa using hk
        rw [ho] at h1; exact (Option.some.inj h1).symm
      subst this
      exact .inl (hdir j hj)
  -- those that i's mask names are listed; those whose masks name i are not
  have hanc : ∀ j, (ms.getD i 0).testBit j = true → j ≠ i → listed.getD j false = true := fun j hj hne => by
    have := hms _ hclosed' i (by simp [← hI.size, hlt]) (by simp [hget']) j hj
    simpa [hget', hne] using this
  have hdesc : ∀ j, (ms.getD j 0).testBit i = true → j < rows.length → listed.getD j false = false := fun j hj hjl => by
    cases hl : listed.getD j false with
    | false => rfl
    | true =>
      have := hms _ hI.closed j (by simp; omega) hl i hj
      rw [hunl] at this; cases this
  have hrow := allI_spec hord i r hr
  simp only [Nat.zero_add, rowOrd, Bool.and_eq_true] at hrow
  obtain ⟨hT, hR, hN, hS⟩ := hrow
  have ordered : ∀ (j : Nat) q, rows[j]? = some q → j ≠ i → ordB ms i j = true → listed.getD j false = decide (j < i) := fun j q hj hne hob => by
    unfold ordB at hob
    split at hob
    · rename_i hd; rw [hd]; exact hanc j hob hne
    · rename_i hd; rw [hd]; exact hdesc j hob (List.getElem?_eq_some_iff.1 hj).1
  have ordT : ∀ t ∈ touchT ops r.o, ∀ (j : Nat) q, rows[j]? = some q → q.o.dst = some t → j ≠ i → listed.getD j false = decide (j < i) := fun t ht j q hj hd hne => by
    have := allI_spec (List.all_eq_true.1 hT t ht) j q hj
    simp only [Nat.zero_add, Bool.or_eq_true, beq_iff_eq, Bool.not_eq_true', beq_eq_false_iff_ne] at this
    rcases this with h | h | h
    · exact absurd h hne
    · exact absurd hd h
    · exact ordered j q hj hne h
  have ordR : ∀ x ∈ r.R, ∀ (j : Nat) q, rows[j]? = some q → q.wr x.1 = true → j ≠ i → listed.getD j false = decide (j < i) := fun x hx j q hj hd hne => by
    have := allI_spec (List.all_eq_true.1 hR x hx) j q hj
    simp only [Nat.zero_add, Bool.or_eq_true, beq_iff_eq, Bool.not_eq_true'] at this
    rcases this with h | h | h
    · exact absurd h hne
    · rw [hd] at h; cases h
    · exact ordered j q hj hne h
  have ordN : ∀ tt, tt < r.e.news.length → ∀ (j : Nat) q, rows[j]? = some q → q.wr (r.nm + tt) = true → j ≠ i → listed.getD j false = decide (j < i) := fun tt htt j q hj hd hne => by
    have := allI_spec (allNames_spec hN tt htt) j q hj
    simp only [Nat.zero_add, Bool.or_eq_true, beq_iff_eq, Bool.not_eq_true', Bool.and_eq_true, decide_eq_true_eq] at this
    rcases this with h | h | ⟨h1, h2⟩
    · exact absurd h hne
    · rw [hd] at h; cases h
    · rw [hdesc j h2 (List.getElem?_eq_some_iff.1 hj).1]; simp; omega
  obtain ⟨ρ, hag0, hts, hW⟩ := hI.rep
  have hpre := Facts.at (n := 0) hf i r hr
  -- what the text's order has at i is what is there now
  have tsAt : ∀ t ∈ touchT ops r.o, (tsF (fun j => listed.getD j false) 0 rows ts0)[t]? = (tsF all 0 (rows.take i) ts0)[t]? := fun t ht => by
    rw [← tsF_take i rows 0 ts0]
    refine tsF_get (fun j q hj hd => ?_) rfl rfl
    by_cases hne : j = i
    · subst hne; simpa using hunl
    · simpa using ordT t ht j q hj hd hne
  have hAt : ∀ k : Nat, (∀ (j : Nat) q, rows[j]? = some q → q.wr k = true → j ≠ i → listed.getD j false = decide (j < i)) → (hF (fun j => listed.getD j false) 0 rows hx)[k]? = (hF all 0 (rows.take i) hx)[k]? := fun k hk => by
    rw [← hF_take i rows 0 hx]
    refine hF_get (fun j q hj hd => ?_) rfl rfl
    by_cases hne : j = i
    · subst hne; simpa using hunl
    · simpa using hk j q hj hd hne
  have hguard : guardS ops (tsF all 0 (rows.take i) ts0) r.o = guardS ops (tsF (fun j => listed.getD j false) 0 rows ts0) r.o :=
    guardS_congr fun t ht => (tsAt t (by simp [touchT, ht])).symm
  -- behind it
  have after : ∀ (x : Value) (ρ' : Ren) (w' : World), Ag (hF (fun j => listed.getD j false) 0 rows hx) ρ ρ' → VRep (r.e.app r.nm (hF (fun j => listed.getD j false) 0 rows hx)) ρ' r.e.out x →
      WRep C ρ' (r.e.app r.nm (hF (fun j => listed.getD j false) 0 rows hx)) w' → Inv C ops rows ts0 hx ρ0 (listed.setIfInBounds i true) (Act.put ⟨tmps, ds⟩ r.o.dst x).tmps w' := fun x ρ' w' hag hvr hW' => by
    have hsub : Sub (hF (fun j => listed.getD j false) 0 rows hx) (r.e.app r.nm (hF (fun j => listed.getD j false) 0 rows hx)) := Eff.app_sub _ _ _
    have hg2 : ∀ j, (listed.setIfInBounds i true).getD j false = (listed.getD j false || j == i) := hget'
    have tsNew : ∀ t : Nat, (putS (tsF (fun j => listed.getD j false) 0 rows ts0) r.o.dst r.e.out)[t]? = (tsF (fun j => (listed.setIfInBounds i true).getD j false) 0 rows ts0)[t]? := fun t => by
      by_cases hd : r.o.dst = some t
      · have e1 : (tsF (fun j => (listed.setIfInBounds i true).getD j false) 0 rows ts0)[t]? = (tsF all 0 (rows.take (i + 1)) ts0)[t]? := by
          rw [← tsF_take (i + 1) rows 0 ts0]
          refine tsF_get (fun j q hj hdq => ?_) rfl rfl
          simp only [hg2, Nat.zero_add]
          by_cases hne : j = i
          · subst hne; simp
          · rw [ordT t (by simp [touchT, hd]) j q hj hdq hne]
            have : (j == i) = false := by simpa using hne
            rw [this, Bool.or_false]
            congr 1
            simp; omega
        rw [e1, tsF_snoc hr]
        exact putS_get (tsAt t (by simp [touchT, hd])) (by rw [tsF_length, tsF_length])
      · rw [putS_other hd]
        refine tsF_get (fun j q hj hdq => ?_) rfl rfl
        simp only [hg2, Nat.zero_add]
        have hne : j ≠ i := fun e => by subst e; rw [hr] at hj; cases hj; exact hd hdq
        have : (j == i) = false := by simpa using hne
        rw [this, Bool.or_false]
    have hNew : ∀ k : Nat, (r.e.app r.nm (hF (fun j => listed.getD j false) 0 rows hx))[k]? = (hF (fun j => (listed.setIfInBounds i true).getD j false) 0 rows hx)[k]? := fun k => by
      cases hd : r.wr k with
      | true =>
        have hord2 : ∀ (j : Nat) q, rows[j]? = some q → q.wr k = true → j ≠ i → listed.getD j false = decide (j < i) := by
          simp only [Row.wr, Bool.or_eq_true, Bool.and_eq_true] at hd
          rcases hd with hd | ⟨hd1, hd2⟩
          · obtain ⟨y, hy, hyk⟩ := anyAt_true hd
            obtain ⟨x, hx', hk'⟩ := anyAt_true (List.all_eq_true.1 hS y hy)
            intro j q hj hw hne
            exact ordR x hx' j q hj (by rw [hk', hyk]; exact hw) hne
          · have h1 := Nat.le_of_ble_eq_true hd1
            have h2 := Nat.le_of_ble_eq_true hd2
            intro j q hj hw hne
            exact ordN (k - r.nm) (by omega) j q hj (by rwa [show r.nm + (k - r.nm) = k from by omega]) hne
        have e1 : (hF (fun j => (listed.setIfInBounds i true).getD j false) 0 rows hx)[k]? = (hF all 0 (rows.take (i + 1)) hx)[k]? := by
          rw [← hF_take (i + 1) rows 0 hx]
          refine hF_get (fun j q hj hdq => ?_) rfl rfl
          simp only [hg2, Nat.zero_add]
          by_cases hne : j = i
          · subst hne; simp
          · rw [hord2 j q hj hdq hne]
            have : (j == i) = false := by simpa using hne
            rw [this, Bool.or_false]
            congr 1
            simp; omega
        rw [e1, hF_snoc hr]
        exact app_get (hAt k hord2) (by rw [hF_length, hF_length])
      | false =>
        rw [app_other hd]
        refine hF_get (fun j q hj hdq => ?_) rfl rfl
        simp only [hg2, Nat.zero_add]
        have hne : j ≠ i := fun e => by subst e; rw [hr] at hj; cases hj; rw [hd] at hdq; cases hdq
        have : (j == i) = false := by simpa using hne
        rw [this, Bool.or_false]
    have alk := alk_of_get hNew
    refine ⟨by simpa using hI.size, hclosed', ⟨ρ', hag0.trans (hag.sub (hF_sub _ rows 0 hx)), ?_, hW'.alk alk⟩⟩
    have h1 := TRep.put (ds := ds) (hts.later hsub hag) hvr r.o.dst
    exact TRep.congr (h1.later alk.sub (Ag.refl _ _)) (by rw [putS_length, tsF_length, tsF_length]) tsNew
  obtain ⟨hRf, hnm, hcase⟩ := hpre
  have hnm' : Free (hF (fun j => listed.getD j false) 0 rows hx) r.nm r.e.news.length := fun tt htt => by rw [hAt (r.nm + tt) (ordN tt htt)]; exact hnm tt htt
  rcases hcase with ⟨hg, hrok⟩ | ⟨hg, he⟩
  · have hw : Region.wanted r.o (yielded ops tmps) = true := guardS_yes (by rw [← hguard]; exact hg) hts
    obtain ⟨ρ', x, w', h1, h2, h3, h4⟩ := hrok _ ρ tmps ds w b ops i rest k cs (fun x hx' => by rw [hAt x.1 (ordR x hx')]; exact hRf x hx') hnm' hW (by
      intro x v hv
      cases x with
      | tmp t =>
        simp only [sevO] at hv
        split at hv
        · rename_i hc
          have ht : t ∈ touchT ops r.o := by simp only [touchT, List.mem_append]; exact .inl (by simpa using hc)
          have : sev (tsF (fun j => listed.getD j false) 0 rows ts0) (.tmp t) = some v := by
            simp only [sev] at hv ⊢
            rw [tsAt t ht]; exact hv
          exact (TRep.erep (a := ⟨tmps, ds⟩) hts) _ v this
        · cases hv
      | const u => exact (TRep.erep (a := ⟨tmps, ds⟩) hts) _ v hv
      | global g => exact (TRep.erep (a := ⟨tmps, ds⟩) hts) _ v hv
      | func g => exact (TRep.erep (a := ⟨tmps, ds⟩) hts) _ v hv) ho hw
    exact ⟨_, w', after x ρ' w' h1 h2 h3, h4⟩
  · have hw : Region.wanted r.o (yielded ops tmps) = false := guardS_no (by rw [← hguard]; exact hg) hts
    refine ⟨_, w, after undef ρ w (Ag.refl _ _) ?_ ?_, .one (step_skipped ho hw)⟩
    · rw [he]; exact fun _ _ => ⟨[], rfl, trivial⟩
    · rw [he]; exact hW
end
end Go.Sy
