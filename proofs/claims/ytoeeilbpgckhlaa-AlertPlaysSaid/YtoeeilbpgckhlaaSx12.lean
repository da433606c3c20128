/- A symbolic run: regions that draw their order, second part: every order comes to what the text's order comes to. -/
import Derived.Test.YtoeeilbpgckhlaaSx11
namespace Go.Sx
open Go

def tmpsOf (l : List Operand) : List Tmp := l.filterMap fun | .tmp t => some t | _ => none
def opTmps (o : Oper) : List Tmp := tmpsOf o.op.operands.toList
def guardSlot (ops : Array Oper) (o : Oper) : List Tmp :=
  match o.guard with
  | some (j, _) => match ops[j]? with | some oj => oj.dst.toList | none => []
  | none => []
def touchT (ops : Array Oper) (o : Oper) : List Tmp := opTmps o ++ (guardSlot ops o ++ o.dst.toList)
/-- The symbols of an operation's own operands alone. -/
def sevO (o : Oper) (ts : STmps) (x : Operand) : Option SV :=
  match x with
  | .tmp t => match (opTmps o).contains t with | true => sev ts (.tmp t) | false => none
  | x => sev ts x

def allI (f : Nat → Row → Bool) : Nat → List Row → Bool
  | _, [] => true
  | i, r :: rs => f i r && allI f (i + 1) rs
theorem allI_spec {f : Nat → Row → Bool} : ∀ {rs : List Row} {i : Nat}, allI f i rs = true → ∀ (j : Nat) r, rs[j]? = some r → f (i + j) r = true
  | [], _, _, j, r, h => by simp at h
  | x :: rs, i, h, j, r, hj => by
    simp only [allI, Bool.and_eq_true] at h
    cases j with
    | zero => simp only [List.getElem?_cons_zero, Option.some.injEq] at hj; subst hj; exact h.1
    | succ j => have := allI_spec h.2 j r (by simpa using hj); rwa [show i + 1 + j = i + (j + 1) from by omega] at this

def ordB (ms : List Nat) (i j : Nat) : Bool := match decide (j < i) with | true => (ms.getD i 0).testBit j | false => (ms.getD j 0).testBit i
def rowOrd (ops : Array Oper) (ms : List Nat) (rows : List Row) (i : Nat) (r : Row) : Bool :=
  (touchT ops r.o).all (fun t => allI (fun j q => j == i || (!(q.o.dst == some t) || ordB ms i j)) 0 rows) &&
  (r.R.all (fun x => allI (fun j q => j == i || (!q.wr x.1 || ordB ms i j)) 0 rows) &&
  (allI (fun j q => j == i || (!q.wr r.nm || (decide (i < j) && (ms.getD j 0).testBit i))) 0 rows &&
  (match r.e.he with | .set k _ => r.R.any (fun x => x.1 == k) | _ => true)))
def drawOk (ops : Array Oper) (rows : List Row) : Bool :=
  (rows.all fun _ => true) && (allI (fun i r => (direct r.o).all fun j => decide (j < i)) 0 rows && allI (rowOrd ops (ancsGo ops.toList []) rows) 0 rows)

/-- What is known of a row where the text's order comes to it. -/
def Fact (C : Cfg) (ops : Array Oper) (ts : STmps) (h : SHeap) (r : Row) : Prop :=
  (∀ x ∈ r.R, h[x.1]? = some (some x.2)) ∧ h[r.nm]? = some none ∧
    ((guardS ops ts r.o = some .yes ∧ RowOk C r.nm r.o (sevO r.o ts) r.R r.e) ∨ (guardS ops ts r.o = some .no ∧ r.e = { out := .t [] }))
def Facts (C : Cfg) (ops : Array Oper) : List Row → STmps → SHeap → Prop
  | [], _, _ => True
  | r :: rs, ts, h => Fact C ops ts h r ∧ Facts C ops rs (putS ts r.o.dst r.e.out) (r.e.he.run r.nm h)
theorem Facts.at {C : Cfg} {ops : Array Oper} : ∀ {rs : List Row} {ts : STmps} {h : SHeap} {n : Nat}, Facts C ops rs ts h → ∀ (i : Nat) r, rs[i]? = some r → Fact C ops (tsF all n (rs.take i) ts) (hF all n (rs.take i) h) r
  | [], _, _, _, _, i, r, h => by simp at h
  | x :: rs, ts, h, n, hf, i, r, hi => by
    cases i with
    | zero => simp only [List.getElem?_cons_zero, Option.some.injEq] at hi; subst hi; exact hf.1
    | succ i => exact Facts.at (n := n + 1) hf.2 i r (by simpa using hi)

theorem guardS_congr {ops : Array Oper} {o : Oper} {ts ts' : STmps} (h : ∀ t ∈ guardSlot ops o, ts[t]? = ts'[t]?) : guardS ops ts o = guardS ops ts' o := by
  unfold guardS
  unfold guardSlot at h
  split
  · rfl
  · rename_i j want hg
    simp only [hg] at h
    split
    · rename_i oj hj
      simp only [hj] at h
      split
      · rename_i d hd
        rw [h d (by simp [hd])]
      · rfl
    · rfl

theorem TRep.congr {h : SHeap} {ρ : Ren} {ts ts' : STmps} {tmps : Array Value} (r : TRep h ρ ts tmps) (hl : ts.length = ts'.length) (hg : ∀ t : Nat, ts[t]? = ts'[t]?) : TRep h ρ ts' tmps :=
  ⟨by rw [r.1, hl], fun t v hv => r.2 t v (by rw [hg]; exact hv)⟩
theorem alk_of_get {h g : SHeap} (e : ∀ k : Nat, h[k]? = g[k]?) : Alk h g := fun k q => by rw [e]

theorem tsF_snoc {rs : List Row} {i : Nat} {ts : STmps} {r : Row} : ∀ {n : Nat}, rs[i]? = some r → tsF all n (rs.take (i + 1)) ts = putS (tsF all n (rs.take i) ts) r.o.dst r.e.out := by
  induction rs generalizing i ts with
  | nil => intro n h; simp at h
  | cons x rs ih =>
    intro n h
    cases i with
    | zero => simp only [List.getElem?_cons_zero, Option.some.injEq] at h; subst h; rfl
    | succ i =>
      simp only [List.take_succ_cons, tsF, all]
      exact ih (n := n + 1) (by simpa using h)
theorem hF_snoc {rs : List Row} {i : Nat} {g : SHeap} {r : Row} : ∀ {n : Nat}, rs[i]? = some r → hF all n (rs.take (i + 1)) g = r.e.he.run r.nm (hF all n (rs.take i) g) := by
  induction rs generalizing i g with
  | nil => intro n h; simp at h
  | cons x rs ih =>
    intro n h
    cases i with
    | zero => simp only [List.getElem?_cons_zero, Option.some.injEq] at h; subst h; rfl
    | succ i =>
      simp only [List.take_succ_cons, hF, all]
      exact ih (n := n + 1) (by simpa using h)

section
variable {C : Cfg} {ops : Array Oper} {rows : List Row} {ts0 : STmps} {hx : SHeap}

theorem rows_get (hrows : rows.map (·.o) = ops.toList) {i : Nat} {o : Oper} (ho : ops[i]? = some o) : ∃ r, rows[i]? = some r ∧ r.o = o := by
  have h1 : (rows.map (·.o))[i]? = some o := by rw [hrows]; simpa using ho
  simp only [List.getElem?_map, Option.map_eq_some_iff] at h1
  exact h1

/-- A state of such a region's run: who is listed; every listed one's effect is there, of the others nothing. -/
structure Inv (C : Cfg) (ops : Array Oper) (rows : List Row) (ts0 : STmps) (hx : SHeap) (ρ0 : Ren) (listed : Array Bool) (a : Act) (w : World) : Prop where
  size : listed.size = ops.size
  closed : Closed ops.toList fun j => listed.getD j false
  rep : ∃ ρ, Ag hx ρ0 ρ ∧ TRep (hF (fun j => listed.getD j false) 0 rows hx) ρ (tsF (fun j => listed.getD j false) 0 rows ts0) a.tmps ∧ WRep C ρ (hF (fun j => listed.getD j false) 0 rows hx) w
  defers : a.defers = []

theorem hF_sub (p : Nat → Bool) : ∀ (rs : List Row) (i : Nat) (h : SHeap), Sub h (hF p i rs h)
  | [], _, h => Sub.refl h
  | r :: rs, i, h => by
    simp only [hF]
    refine Sub.trans ?_ (hF_sub p rs (i + 1) _)
    split
    · cases r.e.he with
      | none => exact Sub.refl _
      | set k o => exact sub_set
      | new o => exact sub_set
    · exact Sub.refl _

theorem Inv.step {ρ0 : Ren} {listed : Array Bool} {a : Act} {w : World} {Q : Exit → Act → World → Prop} (hrows : rows.map (·.o) = ops.toList) (hf : Facts C ops rows ts0 hx) (hok : drawOk ops rows = true)
    (hI : Inv C ops rows ts0 hx ρ0 listed a w) {i : Nat} (hi : i ∈ Region.ready .any ops listed) : wpOp C.P ops Q i (Inv C ops rows ts0 hx ρ0 (listed.setIfInBounds i true)) a w := by
  simp only [drawOk, Bool.and_eq_true] at hok
  obtain ⟨_, _, hord⟩ := hok
  rw [mem_ready] at hi
  obtain ⟨hun, o, ho, hdeps⟩ := hi
  obtain ⟨r, hr, rfl⟩ := rows_get hrows ho
  have hlt : i < listed.size := by
    rw [hI.size]; exact (Array.getElem?_eq_some_iff.1 ho).1
  have hunl : listed.getD i false = false := by simpa [hlt] using hun
  have hlen : rows.length = ops.size := by have := congrArg List.length hrows; simpa using this
  have hms := ancsGo_ok ops.toList ops.toList [] (by simp) (by intro p _ i hi; simp at hi)
  generalize hmsd : ancsGo ops.toList [] = ms at hord hms
  -- listing i keeps the set closed
  have hget' : ∀ j, (listed.setIfInBounds i true).getD j false = (listed.getD j false || j == i) := fun j => by
    by_cases hj : j = i
    · subst hj; simp [hlt]
    · rw [getD_set_ne false (fun e => hj e.symm)]; simp [hj]
  have hdir : ∀ j ∈ direct r.o, listed.getD j false = true := fun j hj => by
    simp only [direct, List.mem_filterMap] at hj
    obtain ⟨e, he, hej⟩ := hj
    split at hej
    · rename_i hb; cases hej; exact hdeps e (by simpa using he) hb
    · cases hej
  have hclosed' : Closed ops.toList fun j => (listed.setIfInBounds i true).getD j false := fun k o' hk hp j hj => by
    simp only [hget', Bool.or_eq_true, beq_iff_eq] at hp ⊢
    rcases hp with hp | rfl
    · exact .inl (hI.closed k o' hk hp j hj)
    · have : o' = r.o := by
        have h1 : ops[k]? = some o' := by simpa using hk
        rw [ho] at h1; exact (Option.some.inj h1).symm
      subst this
      exact .inl (hdir j hj)
  -- those that i's mask names are listed; those whose masks name i are not
  have hanc : ∀ j, (ms.getD i 0).testBit j = true → j ≠ i → listed.getD j false = true := fun j hj hne => by
    have := hms _ hclosed' i (by simp [← hI.size, hlt]) (by simp [hget']) j hj
    simpa [hget', hne] using this
  have hdesc : ∀ j, (ms.getD j 0).testBit i = true → j < rows.length → listed.getD j false = false := fun j hj hjl => by
    cases hl : listed.getD j false with
    | false => rfl
    | true =>
      have := hms _ hI.closed j (by simp; omega) hl i hj
      rw [hunl] at this; cases this
  have hrow := allI_spec hord i r hr
  simp only [Nat.zero_add, rowOrd, Bool.and_eq_true] at hrow
  obtain ⟨hT, hR, hN, hS⟩ := hrow
  have ordered : ∀ (j : Nat) q, rows[j]? = some q → j ≠ i → ordB ms i j = true → listed.getD j false = decide (j < i) := fun j q hj hne hob => by
    unfold ordB at hob
    split at hob
    · rename_i hd; rw [hd]; exact hanc j hob hne
    · rename_i hd; rw [hd]; exact hdesc j hob (List.getElem?_eq_some_iff.1 hj).1
  have ordT : ∀ t ∈ touchT ops r.o, ∀ (j : Nat) q, rows[j]? = some q → q.o.dst = some t → j ≠ i → listed.getD j false = decide (j < i) := fun t ht j q hj hd hne => by
    have := allI_spec (List.all_eq_true.1 hT t ht) j q hj
    simp only [Nat.zero_add, Bool.or_eq_true, beq_iff_eq, Bool.not_eq_true', beq_eq_false_iff_ne] at this
    rcases this with h | h | h
    · exact absurd h hne
    · exact absurd hd h
    · exact ordered j q hj hne h
  have ordR : ∀ x ∈ r.R, ∀ (j : Nat) q, rows[j]? = some q → q.wr x.1 = true → j ≠ i → listed.getD j false = decide (j < i) := fun x hx j q hj hd hne => by
    have := allI_spec (List.all_eq_true.1 hR x hx) j q hj
    simp only [Nat.zero_add, Bool.or_eq_true, beq_iff_eq, Bool.not_eq_true'] at this
    rcases this with h | h | h
    · exact absurd h hne
    · rw [hd] at h; cases h
    · exact ordered j q hj hne h
  have ordN : ∀ (j : Nat) q, rows[j]? = some q → q.wr r.nm = true → j ≠ i → listed.getD j false = decide (j < i) := fun j q hj hd hne => by
    have := allI_spec hN j q hj
    simp only [Nat.zero_add, Bool.or_eq_true, beq_iff_eq, Bool.not_eq_true', Bool.and_eq_true, decide_eq_true_eq] at this
    rcases this with h | h | ⟨h1, h2⟩
    · exact absurd h hne
    · rw [hd] at h; cases h
    · rw [hdesc j h2 (List.getElem?_eq_some_iff.1 hj).1]; simp; omega
  obtain ⟨ρ, hag0, hts, hW⟩ := hI.rep
  have hpre := Facts.at (n := 0) hf i r hr
  -- what the text's order has at i is what is there now
  have tsAt : ∀ t ∈ touchT ops r.o, (tsF (fun j => listed.getD j false) 0 rows ts0)[t]? = (tsF all 0 (rows.take i) ts0)[t]? := fun t ht => by
    rw [← tsF_take i rows 0 ts0]
    refine tsF_get (fun j q hj hd => ?_) rfl rfl
    by_cases hne : j = i
    · subst hne; simpa using hunl
    · simpa using ordT t ht j q hj hd hne
  have hAt : ∀ k : Nat, (∀ (j : Nat) q, rows[j]? = some q → q.wr k = true → j ≠ i → listed.getD j false = decide (j < i)) → (hF (fun j => listed.getD j false) 0 rows hx)[k]? = (hF all 0 (rows.take i) hx)[k]? := fun k hk => by
    rw [← hF_take i rows 0 hx]
    refine hF_get (fun j q hj hd => ?_) rfl rfl
    by_cases hne : j = i
    · subst hne; simpa using hunl
    · simpa using hk j q hj hd hne
  have hguard : guardS ops (tsF all 0 (rows.take i) ts0) r.o = guardS ops (tsF (fun j => listed.getD j false) 0 rows ts0) r.o :=
    guardS_congr fun t ht => (tsAt t (by simp [touchT, ht])).symm
  -- behind it
  have after : ∀ (x : Value) (ρ' : Ren) (w' : World), Ag (hF (fun j => listed.getD j false) 0 rows hx) ρ ρ' → VRep (r.e.he.run r.nm (hF (fun j => listed.getD j false) 0 rows hx)) ρ' r.e.out x →
      WRep C ρ' (r.e.he.run r.nm (hF (fun j => listed.getD j false) 0 rows hx)) w' → Inv C ops rows ts0 hx ρ0 (listed.setIfInBounds i true) (a.put r.o.dst x) w' := fun x ρ' w' hag hvr hW' => by
    have hsub : Sub (hF (fun j => listed.getD j false) 0 rows hx) (r.e.he.run r.nm (hF (fun j => listed.getD j false) 0 rows hx)) := by
      cases r.e.he with
      | none => exact Sub.refl _
      | set k o => exact sub_set
      | new o => exact sub_set
    have hg2 : ∀ j, (listed.setIfInBounds i true).getD j false = (listed.getD j false || j == i) := hget'
    have tsNew : ∀ t : Nat, (putS (tsF (fun j => listed.getD j false) 0 rows ts0) r.o.dst r.e.out)[t]? = (tsF (fun j => (listed.setIfInBounds i true).getD j false) 0 rows ts0)[t]? := fun t => by
      by_cases hd : r.o.dst = some t
      · have e1 : (tsF (fun j => (listed.setIfInBounds i true).getD j false) 0 rows ts0)[t]? = (tsF all 0 (rows.take (i + 1)) ts0)[t]? := by
          rw [← tsF_take (i + 1) rows 0 ts0]
          refine tsF_get (fun j q hj hdq => ?_) rfl rfl
          simp only [hg2, Nat.zero_add]
          by_cases hne : j = i
          · subst hne; simp
          · rw [ordT t (by simp [touchT, hd]) j q hj hdq hne]
            have : (j == i) = false := by simpa using hne
            rw [this, Bool.or_false]
            congr 1
            simp; omega
        rw [e1, tsF_snoc hr]
        exact putS_get (tsAt t (by simp [touchT, hd])) (by rw [tsF_length, tsF_length])
      · rw [putS_other hd]
        refine tsF_get (fun j q hj hdq => ?_) rfl rfl
        simp only [hg2, Nat.zero_add]
        have hne : j ≠ i := fun e => by subst e; rw [hr] at hj; cases hj; exact hd hdq
        have : (j == i) = false := by simpa using hne
        rw [this, Bool.or_false]
    have hNew : ∀ k : Nat, (r.e.he.run r.nm (hF (fun j => listed.getD j false) 0 rows hx))[k]? = (hF (fun j => (listed.setIfInBounds i true).getD j false) 0 rows hx)[k]? := fun k => by
      cases hd : r.wr k with
      | true =>
        have hord2 : ∀ (j : Nat) q, rows[j]? = some q → q.wr k = true → j ≠ i → listed.getD j false = decide (j < i) := by
          unfold Row.wr at hd
          split at hd
          · cases hd
          · rename_i k' so he
            rw [he] at hS
            simp only [List.any_eq_true, beq_iff_eq] at hS
            obtain ⟨x, hx', hk'⟩ := hS
            simp only [beq_iff_eq] at hd
            subst hd
            intro j q hj hw hne
            exact ordR x hx' j q hj (by rw [hk']; exact hw) hne
          · simp only [beq_iff_eq] at hd
            subst hd
            exact ordN
        have e1 : (hF (fun j => (listed.setIfInBounds i true).getD j false) 0 rows hx)[k]? = (hF all 0 (rows.take (i + 1)) hx)[k]? := by
          rw [← hF_take (i + 1) rows 0 hx]
          refine hF_get (fun j q hj hdq => ?_) rfl rfl
          simp only [hg2, Nat.zero_add]
          by_cases hne : j = i
          · subst hne; simp
          · rw [hord2 j q hj hdq hne]
            have : (j == i) = false := by simpa using hne
            rw [this, Bool.or_false]
            congr 1
            simp; omega
        rw [e1, hF_snoc hr]
        exact run_get (hAt k hord2) (by rw [hF_length, hF_length])
      | false =>
        rw [run_other hd]
        refine hF_get (fun j q hj hdq => ?_) rfl rfl
        simp only [hg2, Nat.zero_add]
        have hne : j ≠ i := fun e => by subst e; rw [hr] at hj; cases hj; rw [hd] at hdq; cases hdq
        have : (j == i) = false := by simpa using hne
        rw [this, Bool.or_false]
    have alk := alk_of_get hNew
    refine ⟨by simpa using hI.size, hclosed', ⟨ρ', hag0.trans (hag.sub (hF_sub _ rows 0 hx)), ?_, hW'.alk alk⟩, ?_⟩
    · have h1 := TRep.put (hts.later hsub hag) hvr r.o.dst
      have h2 : (Act.put ⟨a.tmps, []⟩ r.o.dst x).tmps = (a.put r.o.dst x).tmps := by cases r.o.dst <;> rfl
      rw [h2] at h1
      exact TRep.congr (h1.later alk.sub (Ag.refl _ _)) (by rw [putS_length, tsF_length, tsF_length]) tsNew
    · have : (a.put r.o.dst x).defers = a.defers := by cases r.o.dst <;> rfl
      rw [this]; exact hI.defers
  unfold wpOp
  simp only [ho]
  obtain ⟨hRf, hnm, hcase⟩ := hpre
  have hnm' : (hF (fun j => listed.getD j false) 0 rows hx)[r.nm]? = some none := by rw [hAt r.nm ordN]; exact hnm
  rcases hcase with ⟨hg, hrok⟩ | ⟨hg, he⟩
  · have hw : Region.wanted r.o (yielded ops a.tmps) = true := guardS_yes (by rw [← hguard]; exact hg) hts
    rw [if_pos hw]
    refine .inl (hrok _ ρ a w _ _ (fun x hx' => by rw [hAt x.1 (ordR x hx')]; exact hRf x hx') hnm' hW ?_ (fun ρ' x w' h1 h2 h3 => after x ρ' w' h1 h2 h3))
    intro x v hv
    cases x with
    | tmp t =>
      simp only [sevO] at hv
      split at hv
      · rename_i hc
        have ht : t ∈ touchT ops r.o := by simp only [touchT, List.mem_append]; exact .inl (by simpa using hc)
        have : sev (tsF (fun j => listed.getD j false) 0 rows ts0) (.tmp t) = some v := by
          simp only [sev] at hv ⊢
          rw [tsAt t ht]; exact hv
        exact (TRep.erep hts) _ v this
      · cases hv
    | const u => exact (TRep.erep hts) _ v hv
    | global g => exact (TRep.erep hts) _ v hv
    | func g => exact (TRep.erep hts) _ v hv
  · have hw : Region.wanted r.o (yielded ops a.tmps) = false := guardS_no (by rw [← hguard]; exact hg) hts
    rw [if_neg (by rw [hw]; simp)]
    refine after undef ρ w (Ag.refl _ _) ?_ ?_
    · rw [he]; exact fun _ _ => rfl
    · rw [he]; exact hW
end
end Go.Sx
