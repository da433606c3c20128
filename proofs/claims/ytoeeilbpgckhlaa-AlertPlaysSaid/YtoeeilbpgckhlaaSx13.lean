/- A symbolic run: regions that draw their order, third part: the one run in the text's order that speaks for them all. -/
import Derived.Test.YtoeeilbpgckhlaaSx12
namespace Go.Sx
open Go

def mayNew (o : Oper) : Bool := match o.op with | .alloc _ => true | .box _ _ => true | _ => false
def isCall (o : Oper) : Bool :=
  match o.op with
  | .call c => match c.callee with | .builtin _ => false | _ => true
  | _ => false
/-- Does one wait for the answer of number i? -/
def guardOf (ops : List Oper) (i : Nat) : Bool := ops.any fun o => match o.guard with | some (j, _) => j == i | none => false
/-- A Bool on which others wait is told apart at once. -/
def splitB (lit need : Bool) (v : SV) (K : SV → Prop) : Prop :=
  match need with
  | false => K v
  | true =>
    match v with
    | .c (.v (.bool b)) =>
      match lit with
      | true => match b with | true => K (.c (.b true)) | false => K (.c (.b false))
      | false => (b = true → K (.c (.b true))) ∧ (b = false → K (.c (.b false)))
    | v => K v
theorem splitB_spec {lit need : Bool} {v : SV} {K : SV → Prop} (h : splitB lit need v K) : ∃ v', (∀ ρ, v'.den ρ = v.den ρ) ∧ K v' := by
  unfold splitB at h
  split at h
  · exact ⟨v, fun _ => rfl, h⟩
  · split at h
    · rename_i b
      split at h
      · split at h
        · exact ⟨.c (.b true), fun _ => rfl, h⟩
        · exact ⟨.c (.b false), fun _ => rfl, h⟩
      · cases b with
        | true => exact ⟨.c (.b true), fun _ => rfl, h.1 rfl⟩
        | false => exact ⟨.c (.b false), fun _ => rfl, h.2 rfl⟩
    · exact ⟨_, fun _ => rfl, h⟩

def freeB (h : SHeap) (k : Nat) : Bool := match h[k]? with | some none => true | _ => false
theorem freeB_spec {h : SHeap} {k : Nat} (e : freeB h k = true) : h[k]? = some none := by
  unfold freeB at e
  split at e
  · assumption
  · cases e

def drS (C : Cfg) (specs : List (FnLaw C.P)) (lit : Bool) (ops : Array Oper) (spare : Nat) : List Oper → Nat → Nat → STmps → SHeap → (List Row → STmps → SHeap → Prop) → Prop
  | [], _, _, ts, h, K => K [] ts h
  | o :: rest, i, nm, ts, h, K =>
    let a := match mayNew o with | true => nm | false => spare
    let nm' := match mayNew o with | true => nm + 1 | false => nm
    Ck (freeB h a) <|
    match guardS ops ts o with
    | some .yes =>
      match isCall o with
      | true =>
        match callV specs (sevO o ts) o with
        | some (d, v) => d ∧ splitB lit (guardOf ops.toList i) v fun v => drS C specs lit ops spare rest (i + 1) nm' (putS ts o.dst v) h fun rows => K (⟨o, a, [], { out := v }⟩ :: rows)
        | none => False
      | false => opS C a h (sevO o ts) o fun T e => splitB lit (guardOf ops.toList i) e.out fun v =>
          drS C specs lit ops spare rest (i + 1) nm' (putS ts o.dst v) (e.he.run a h) fun rows => K (⟨o, a, T.toList, ⟨v, e.he⟩⟩ :: rows)
    | some .no => drS C specs lit ops spare rest (i + 1) nm' (putS ts o.dst (.t [])) h fun rows => K (⟨o, a, [], { out := .t [] }⟩ :: rows)
    | _ => False

theorem RowOk.out {C : Cfg} {nm : Nat} {o : Oper} {ev : Operand → Option SV} {R : List (Nat × SO)} {e : Eff} {v : SV} (h : RowOk C nm o ev R e) (hv : ∀ ρ, v.den ρ = e.out.den ρ) : RowOk C nm o ev R ⟨v, e.he⟩ :=
  fun h1 ρ a w K Q hR hn hW hE hK => h h1 ρ a w K Q hR hn hW hE fun ρ' x w' p q r => hK ρ' x w' p (fun ρ2 h2 => by rw [hv]; exact q ρ2 h2) r
theorem callV_row {C : Cfg} {specs : List (FnLaw C.P)} {ev : Operand → Option SV} {o : Oper} {d : Prop} {v : SV} {nm : Nat} (hc : callV specs ev o = some (d, v)) (hd : d) : RowOk C nm o ev [] { out := v } := by
  intro h ρ a w K Q _ _ hW hE hK
  obtain ⟨g, args, hrun, hcall⟩ := callV_run hE hW hc hd
  unfold Oper.wp
  rw [hrun]
  rw [Oper.upon_enter]
  exact Calls.mono hcall fun e w' ⟨x, he, hx, hW'⟩ => by subst he; exact hK ρ x w' (Ag.refl _ _) hx hW'

theorem drS_sound {C : Cfg} {specs : List (FnLaw C.P)} {lit : Bool} {ops : Array Oper} {spare : Nat} : ∀ {rest : List Oper} {i nm : Nat} {ts : STmps} {h : SHeap} {K : List Row → STmps → SHeap → Prop} (n : Nat), drS C specs lit ops spare rest i nm ts h K →
    ∃ rows, rows.map (·.o) = rest ∧ Facts C ops rows ts h ∧ K rows (tsF all n rows ts) (hF all n rows h)
  | [], _, _, ts, h, K, n, hh => ⟨[], rfl, trivial, hh⟩
  | o :: rest, i, nm, ts, h, K, n, hh => by
    simp only [drS] at hh
    generalize hA : (match mayNew o with | true => nm | false => spare) = a at hh
    generalize hN : (match mayNew o with | true => nm + 1 | false => nm) = nm' at hh
    obtain ⟨hfree, hh⟩ := hh.out
    have hfree := freeB_spec hfree
    split at hh
    · rename_i hg
      split at hh
      · split at hh
        · rename_i d v hc
          obtain ⟨hd, hh⟩ := hh
          obtain ⟨v', hv', hh⟩ := splitB_spec hh
          obtain ⟨rows, h1, h2, h3⟩ := drS_sound (n + 1) hh
          refine ⟨⟨o, a, [], { out := v' }⟩ :: rows, by simp [h1], ⟨⟨by simp, hfree, .inl ⟨hg, ?_⟩⟩, h2⟩, h3⟩
          exact (callV_row hc hd).out hv'
        · exact hh.elim
      · obtain ⟨T, e, hT, hok, hh⟩ := opS_sound hh
        obtain ⟨v', hv', hh⟩ := splitB_spec hh
        obtain ⟨rows, h1, h2, h3⟩ := drS_sound (n + 1) hh
        refine ⟨⟨o, a, T.toList, ⟨v', e.he⟩⟩ :: rows, by simp [h1], ⟨⟨?_, hfree, .inl ⟨hg, ?_⟩⟩, h2⟩, h3⟩
        · intro x hx
          cases T with
          | none => simp at hx
          | some t => simp only [Option.toList, List.mem_cons, List.not_mem_nil, or_false] at hx; subst hx; exact hT _ _ rfl
        · exact hok.row.out hv'
    · rename_i hg
      obtain ⟨rows, h1, h2, h3⟩ := drS_sound (n + 1) hh
      exact ⟨⟨o, a, [], { out := .t [] }⟩ :: rows, by simp [h1], ⟨⟨by simp, hfree, .inr ⟨hg, rfl⟩⟩, h2⟩, h3⟩
    · exact hh.elim

/-! ### every order -/
theorem tsF_all {p : Nat → Bool} : ∀ {rs : List Row} {i : Nat} {ts : STmps}, (∀ j, i ≤ j → j < i + rs.length → p j = true) → tsF p i rs ts = tsF all i rs ts
  | [], _, _, _ => rfl
  | r :: rs, i, ts, h => by
    simp only [tsF, h i (Nat.le_refl _) (by simp), all]
    exact tsF_all fun j h1 h2 => h j (by omega) (by simp at h2 ⊢; omega)
theorem hF_all {p : Nat → Bool} : ∀ {rs : List Row} {i : Nat} {g : SHeap}, (∀ j, i ≤ j → j < i + rs.length → p j = true) → hF p i rs g = hF all i rs g
  | [], _, _, _ => rfl
  | r :: rs, i, g, h => by
    simp only [hF, h i (Nat.le_refl _) (by simp), all]
    exact hF_all fun j h1 h2 => h j (by omega) (by simp at h2 ⊢; omega)

def left (n : Nat) (p : Nat → Bool) : Nat := (List.range n).countP fun j => !p j
theorem left_succ (n : Nat) (p : Nat → Bool) : left (n + 1) p = left n p + (if p n = true then 0 else 1) := by
  unfold left
  rw [List.range_succ, List.countP_append]
  cases h : p n <;> simp [h]
theorem left_zero {n : Nat} {p : Nat → Bool} (h : left n p = 0) : ∀ j, j < n → p j = true := by
  unfold left at h
  rw [List.countP_eq_zero] at h
  intro j hj
  have := h j (by simpa using hj)
  simpa using this
theorem left_set {p q : Nat → Bool} {i : Nat} (hi : p i = false) (hqi : q i = true) (hq : ∀ j, j ≠ i → q j = p j) : ∀ n, i < n → left n q + 1 = left n p
  | 0, h => absurd h (Nat.not_lt_zero _)
  | n + 1, h => by
    rw [left_succ, left_succ]
    by_cases hn : i = n
    · subst hn
      have : ∀ m, m ≤ i → left m q = left m p := fun m => by
        induction m with
        | zero => intro _; rfl
        | succ m ih => intro hm; rw [left_succ, left_succ, ih (by omega), hq m (by omega)]
      rw [this i (Nat.le_refl _)]
      simp [hi, hqi]
    · have := left_set hi hqi hq n (by omega)
      rw [hq n (fun e => hn e.symm)]
      omega

section
variable {C : Cfg} {ops : Array Oper} {rows : List Row} {ts0 : STmps} {hx : SHeap}

/-- The edges point back: where none is ready all are listed. -/
theorem all_listed (hrows : rows.map (·.o) = ops.toList) (hok : drawOk ops rows = true) {listed : Array Bool} (hs : listed.size = ops.size) (hr : Region.ready .any ops listed = []) : ∀ j, j < ops.size → listed.getD j false = true := by
  simp only [drawOk, Bool.and_eq_true] at hok
  obtain ⟨_, hback, _⟩ := hok
  intro j
  induction j using Nat.strongRecOn with
  | _ j ih =>
    intro hj
    cases hl : listed.getD j false with
    | true => rfl
    | false =>
      have hmem : j ∈ Region.ready .any ops listed := by
        rw [mem_ready]
        refine ⟨?_, ops[j], by simp [hj], ?_⟩
        · have : j < listed.size := by omega
          simpa [this] using hl
        · intro e he hb
          obtain ⟨r, hr', hro⟩ := rows_get hrows (i := j) (o := ops[j]) (by simp [hj])
          have h1 := allI_spec hback j r hr'
          simp only [Nat.zero_add, List.all_eq_true, decide_eq_true_eq] at h1
          have h2 := h1 e.on (by
            rw [hro]
            simp only [direct, List.mem_filterMap]
            exact ⟨e, by simpa using he, by simp [hb]⟩)
          exact ih e.on h2 (by omega)
      rw [hr] at hmem
      cases hmem

theorem any_of_inv {ρ0 : Ren} (hrows : rows.map (·.o) = ops.toList) (hf : Facts C ops rows ts0 hx) (hok : drawOk ops rows = true) : ∀ (fuel : Nat) (listed : Array Bool) (a : Act) (w : World), left ops.size (fun j => listed.getD j false) = fuel →
    Inv C ops rows ts0 hx ρ0 listed a w →
    wpAny C.P .any ops (fun e a w => e = .normal ∧ a.defers = [] ∧ ∃ ρ, Ag hx ρ0 ρ ∧ TRep (hF all 0 rows hx) ρ (tsF all 0 rows ts0) a.tmps ∧ WRep C ρ (hF all 0 rows hx) w) fuel listed a w := by
  have hlen : rows.length = ops.size := by have := congrArg List.length hrows; simpa using this
  have fin : ∀ (listed : Array Bool) (a : Act) (w : World), (∀ j, j < ops.size → listed.getD j false = true) → Inv C ops rows ts0 hx ρ0 listed a w →
      (a.defers = [] ∧ ∃ ρ, Ag hx ρ0 ρ ∧ TRep (hF all 0 rows hx) ρ (tsF all 0 rows ts0) a.tmps ∧ WRep C ρ (hF all 0 rows hx) w) := fun listed a w hall hI => by
    obtain ⟨ρ, h1, h2, h3⟩ := hI.rep
    rw [tsF_all (fun j _ hj => hall j (by omega)), hF_all (fun j _ hj => hall j (by omega))] at h2
    rw [hF_all (fun j _ hj => hall j (by omega))] at h3
    exact ⟨hI.defers, ρ, h1, h2, h3⟩
  intro fuel
  induction fuel with
  | zero =>
    intro listed a w hl hI
    have hall := left_zero hl
    refine ⟨?_, rfl, fin _ _ _ hall hI⟩
    cases hr : Region.ready .any ops listed with
    | nil => rfl
    | cons i r =>
      have hi : i ∈ Region.ready .any ops listed := by rw [hr]; simp
      rw [mem_ready] at hi
      obtain ⟨hun, o, ho, _⟩ := hi
      have hlt : i < ops.size := (Array.getElem?_eq_some_iff.1 ho).1
      have := hall i hlt
      have hlt' : i < listed.size := by rw [hI.size]; exact hlt
      simp [hlt'] at this hun
      rw [this] at hun; cases hun
  | succ fuel ih =>
    intro listed a w hl hI
    refine ⟨fun hr => ⟨rfl, fin _ _ _ (all_listed hrows hok hI.size hr) hI⟩, fun i hi => ?_⟩
    refine wpOp_mono (fun a' w' hI' => ih _ a' w' ?_ hI') (Inv.step hrows hf hok hI hi)
    rw [mem_ready] at hi
    obtain ⟨hun, o, ho, _⟩ := hi
    have hlt : i < ops.size := (Array.getElem?_eq_some_iff.1 ho).1
    have hlt' : i < listed.size := by rw [hI.size]; exact hlt
    have := left_set (p := fun j => listed.getD j false) (q := fun j => (listed.setIfInBounds i true).getD j false) (i := i) (by simpa [hlt'] using hun) (by simp [hlt'])
      (fun j hj => getD_set_ne false (fun e => hj e.symm)) ops.size hlt
    omega
end

/-- A region that draws its order. -/
def regS (C : Cfg) (specs : List (FnLaw C.P)) (lit : Bool) (ops : Array Oper) (ts : STmps) (h : SHeap) (K : STmps → SHeap → Prop) : Prop :=
  let m := (ops.toList.filter mayNew).length
  Ck (C.P.follows .mixedOrders) <|
    drS C specs lit ops (h.length + m) ops.toList 0 h.length ts (h ++ List.replicate (m + 1) none) fun rows ts' h' => Ck (drawOk ops rows) (K ts' h')

theorem alk_pad (h : SHeap) : ∀ n, Alk h (h ++ List.replicate n none)
  | n => fun k q => by
    rcases Nat.lt_or_ge k h.length with hk | hk
    · rw [List.getElem?_append_left hk]
    · rw [List.getElem?_append_right hk, List.getElem?_eq_none hk]
      simp only [List.getElem?_replicate]
      split <;> simp

theorem regS_run {J : Job} {lit : Bool} {ops : Array Oper} {id : Nat} {fn : FuncId} {ts : STmps} {k : List Item} {ss : List SF} {h : SHeap} {K : STmps → SHeap → Prop} (hr : regS J.C J.specs lit ops ts h K)
    (hK : ∀ ts' h', K ts' h' → Run J ⟨⟨fn, ts', k, false⟩ :: ss, h'⟩) : Run J ⟨⟨fn, ts, .code (.region id ops true) :: k, false⟩ :: ss, h⟩ := by
  obtain ⟨hm, hr⟩ := Ck.out hr
  obtain ⟨rows, hrows, hf, hr⟩ := drS_sound 0 hr
  obtain ⟨hok, hr⟩ := hr.out
  refine Run.of ?_ (hK _ _ hr)
  intro ρ w fr frs hF hW cs
  obtain ⟨tmps, rfl, hts, hss⟩ := hF.top
  generalize hhx : h ++ List.replicate ((ops.toList.filter mayNew).length + 1) none = hx at *
  have alk : Alk h hx := by rw [← hhx]; exact alk_pad h _
  have hno : ∀ j : Nat, (Array.replicate ops.size false).getD j false = false := fun j => by
    simp only [Array.getD_eq_getD_getElem?, Array.getElem?_replicate]
    split <;> rfl
  have hI : Inv J.C ops rows ts hx ρ (Array.replicate ops.size false) ⟨tmps, []⟩ w.drew := by
    refine ⟨by simp, fun i o _ hp => (by have hp : (Array.replicate ops.size false).getD i false = true := hp; rw [hno] at hp; cases hp), ⟨ρ, Ag.refl _ _, ?_, ?_⟩, rfl⟩
    · rw [tsF_none _ _ _ _ (fun j _ => hno j), hF_none _ _ _ _ (fun j _ => hno j)]
      exact hts.later alk.sub (Ag.refl _ _)
    · rw [hF_none _ _ _ _ (fun j _ => hno j)]
      exact (hW.alk alk).drew
  have hwp := any_of_inv hrows hf hok _ _ _ _ rfl hI
  have hfuel : left ops.size (fun j => (Array.replicate ops.size false).getD j false) = ops.size := by
    unfold left
    rw [List.countP_eq_length.2 (fun j _ => by simp [hno])]
    simp
  rw [hfuel] at hwp
  obtain ⟨e, a', w', ⟨rfl, hd, ρ', hag, hts', hW'⟩, harr⟩ := wp_region_any (id := id) hm hwp (mkF fn #[] [] false) k (frs ++ cs)
  obtain ⟨tmps', defers'⟩ := a'
  dsimp only at hd
  subst hd
  have hsub : Sub h (Sx.hF all 0 rows hx) := alk.sub.trans (hF_sub _ _ _ _)
  exact ⟨ρ', w', mkF fn tmps' k false, frs, ⟨⟨tmps', rfl, hts'⟩, hss.later hsub (hag.sub alk.sub)⟩, hW', harr⟩
end Go.Sx
