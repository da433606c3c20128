/- A symbolic run, second making: regions that draw their order, third part: the text's order, by symbols; the region's move. -/
import Derived.Test.YtoeeilbpgckhlaaSy14
namespace Go.Sy
open Go

/-! ### every order -/
theorem tsF_all {p : Nat → Bool} : ∀ {rs : List Row} {i : Nat} {ts : STmps}, (∀ j, i ≤ j → j < i + rs.length → p j = true) → tsF p i rs ts = tsF all i rs ts
  | [], _, _, _ => rfl
  | r :: rs, i, ts, h => by
    simp only [tsF, h i (Nat.le_refl _) (by simp), all]
    exact tsF_all fun j h1 h2 => h j (by omega) (by simp at h2 ⊢; omega)
theorem hF_all {p : Nat → Bool} : ∀ {rs : List Row} {i : Nat} {g : SHeap}, (∀ j, i ≤ j → j < i + rs.length → p j = true) → hF p i rs g = hF all i rs g
  | [], _, _, _ => rfl
  | r :: rs, i, g, h => by
    simp only [hF, h i (Nat.le_refl _) (by simp), all]
    exact hF_all fun j h1 h2 => h j (by omega) (by simp at h2 ⊢; omega)

def left (n : Nat) (p : Nat → Bool) : Nat := (List.range n).countP fun j => !p j
theorem left_succ (n : Nat) (p : Nat → Bool) : left (n + 1) p = left n p + (if p n = true then 0 else 1) := by
  unfold left
  rw [List.range_succ, List.countP_append]
  cases h : p n <;> simp [h]
theorem left_zero {n : Nat} {p : Nat → Bool} (h : left n p = 0) : ∀ j, j < n → p j = true := by
  unfold left at h
  rw [List.countP_eq_zero] at h
  intro j hj
  have := h j (by simpa using hj)
  simpa using this
theorem left_set {p q : Nat → Bool} {i : Nat} (hi : p i = false) (hqi : q i = true) (hq : ∀ j, j ≠ i → q j = p j) : ∀ n, i < n → left n q + 1 = left n p
  | 0, h => absurd h (Nat.not_lt_zero _)
  | n + 1, h => by
    rw [left_succ, left_succ]
    by_cases hn : i = n
    · subst hn
      have : ∀ m, m ≤ i → left m q = left m p := fun m => by
        induction m with
        | zero => intro _; rfl
        | succ m ih => intro hm; rw [left_succ, left_succ, ih (by omega), hq m (by omega)]
      rw [this i (Nat.le_refl _)]
      simp [hi, hqi]
    · have := left_set hi hqi hq n (by omega)
      rw [hq n (fun e => hn e.symm)]
      omega

section
variable {P : Program} {C : Cfg} {ops : Array Oper} {rows : List Row} {ts0 : STmps} {hx : SHeap}

/-- The edges point back: where none is ready all are listed. -/
theorem all_listed (hrows : rows.map (·.o) = ops.toList) (hok : drawOk ops rows = true) {listed : Array Bool} (hs : listed.size = ops.size) (hr : Region.ready .any ops listed = []) : ∀ j, j < ops.size → listed.getD j false = true := by
  simp only [drawOk, Bool.and_eq_true] at hok
  obtain ⟨_, hback, _⟩ := hok
  intro j
  induction j using Nat.strongRecOn with
  | _ j ih =>
    intro hj
    cases hl : listed.getD j false with
    | true => rfl
    | false =>
      have hmem : j ∈ Region.ready .any ops listed := by
        rw [mem_ready]
        refine ⟨?_, ops[j], by simp [hj], ?_⟩
        · have : j < listed.size := by omega
          simpa [this] using hl
        · intro e he hb
          obtain ⟨r, hr', hro⟩ := rows_get hrows (i := j) (o := ops[j]) (by simp [hj])
          have h1 := allI_spec hback j r hr'
          simp only [Nat.zero_add, List.all_eq_true, decide_eq_true_eq] at h1
          have h2 := h1 e.on (by
            rw [hro]
            simp only [direct, List.mem_filterMap]
            exact ⟨e, by simpa using he, by simp [hb]⟩)
          exact ih e.on h2 (by omega)
      rw [hr] at hmem
      cases hmem

theorem draw_go {ρ0 : Ren} {ds : List Deferred} {b : Frame} {k : List Item} {cs : List Frame} (hrows : rows.map (·.o) = ops.toList) (hf : Facts P C ops rows ts0 hx) (hok : drawOk ops rows = true) : ∀ (fuel t : Nat) (listed : Array Bool) (tmps : Array Value) (w : World),
    left ops.size (fun j => listed.getD j false) = fuel → Inv C ops rows ts0 hx ρ0 listed tmps w →
    ∃ listed' tmps' w', Inv C ops rows ts0 hx ρ0 listed' tmps' w' ∧ (∀ j, j < ops.size → listed'.getD j false = true) ∧
      Steps P (lone (b.atR ⟨tmps, ds⟩ (.inRegion ops (Region.linearise.go .any ops fuel t listed []) :: k)) cs w) (lone (b.atR ⟨tmps', ds⟩ (.inRegion ops [] :: k)) cs w') := by
  intro fuel
  induction fuel with
  | zero =>
    intro t listed tmps w hl hI
    exact ⟨listed, tmps, w, hI, left_zero hl, by simp only [Region.linearise.go, List.reverse_nil]; exact Steps.refl _ _⟩
  | succ fuel ih =>
    intro t listed tmps w hl hI
    simp only [Region.linearise.go]
    change ∃ listed' tmps' w', _ ∧ _ ∧ Steps P (lone (b.atR ⟨tmps, ds⟩ (.inRegion ops (match (Region.ready .any ops listed)[t % (Region.ready .any ops listed).length]? with
      | some i => Region.linearise.go .any ops fuel (t / (Region.ready .any ops listed).length) (listed.setIfInBounds i true) [i]
      | none => [].reverse) :: k)) cs w) _
    cases hi : (Region.ready .any ops listed)[t % (Region.ready .any ops listed).length]? with
    | none =>
      have hnil : Region.ready .any ops listed = [] := by
        cases hr : Region.ready .any ops listed with
        | nil => rfl
        | cons x xs =>
          rw [hr] at hi
          have hlt : t % (x :: xs).length < (x :: xs).length := Nat.mod_lt _ (by simp)
          simp at hi
          simp at hlt
          omega
      exact ⟨listed, tmps, w, hI, all_listed hrows hok hI.size hnil, Steps.refl _ _⟩
    | some i =>
      simp only []
      have hmem := List.mem_of_getElem? hi
      rw [linearise_go_acc, List.reverse_singleton, List.singleton_append]
      obtain ⟨tmps1, w1, hI1, hs1⟩ := hI.step (ds := ds) hrows hf hok hmem b (Region.linearise.go .any ops fuel (t / (Region.ready .any ops listed).length) (listed.setIfInBounds i true) []) k cs
      have hun := (mem_ready.1 hmem).1
      obtain ⟨o, ho, _⟩ := (mem_ready.1 hmem).2
      have hlt : i < ops.size := (Array.getElem?_eq_some_iff.1 ho).1
      have hlt' : i < listed.size := by rw [hI.size]; exact hlt
      have := left_set (p := fun j => listed.getD j false) (q := fun j => (listed.setIfInBounds i true).getD j false) (i := i) (by simpa [hlt'] using hun) (by simp [hlt'])
        (fun j hj => getD_set_ne false (fun e => hj e.symm)) ops.size hlt
      obtain ⟨l2, t2, w2, h1, h2, h3⟩ := ih (t / (Region.ready .any ops listed).length) (listed.setIfInBounds i true) tmps1 w1 (by omega) hI1
      exact ⟨l2, t2, w2, h1, h2, Steps.trans hs1 h3⟩
theorem draw_all {ρ : Ren} {w : World} {tmps : Array Value} {ds : List Deferred} {b : Frame} {k : List Item} {cs : List Frame} {id : Nat} (hm : P.follows .mixedOrders = true) (hrows : rows.map (·.o) = ops.toList) (hf : Facts P C ops rows ts0 hx) (hok : drawOk ops rows = true)
    (ht : TRep hx ρ ts0 tmps) (hW : WRep C ρ hx w) : ∃ ρ' tmps' w', Ag hx ρ ρ' ∧ TRep (hF all 0 rows hx) ρ' (tsF all 0 rows ts0) tmps' ∧ WRep C ρ' (hF all 0 rows hx) w' ∧
      Steps P (lone (b.atR ⟨tmps, ds⟩ (.code (.region id ops true) :: k)) cs w) (lone (b.atR ⟨tmps', ds⟩ k) cs w') := by
  have hlen : rows.length = ops.size := by have := congrArg List.length hrows; simpa using this
  have hno : ∀ j : Nat, (Array.replicate ops.size false).getD j false = false := fun j => by
    simp only [Array.getD_eq_getD_getElem?, Array.getElem?_replicate]
    split <;> rfl
  have hI : Inv C ops rows ts0 hx ρ (Array.replicate ops.size false) tmps { w with drawn := w.drawn + 1 } := by
    refine ⟨by simp, fun i o _ hp => (by have hp : (Array.replicate ops.size false).getD i false = true := hp; rw [hno] at hp; cases hp), ⟨ρ, Ag.refl _ _, ?_, ?_⟩⟩
    · rw [tsF_none _ _ _ _ (fun j _ => hno j), hF_none _ _ _ _ (fun j _ => hno j)]
      exact ht
    · rw [hF_none _ _ _ _ (fun j _ => hno j)]
      exact hW.drew
  have hfuel : left ops.size (fun j => (Array.replicate ops.size false).getD j false) = ops.size := by
    unfold left
    rw [List.countP_eq_length.2 (fun j _ => by simp [hno])]
    simp
  obtain ⟨l', t', w', hI', hall, hs⟩ := draw_go (ds := ds) (b := b) (k := k) (cs := cs) hrows hf hok _ (w.tape w.drawn (.order b.fn id)) _ _ _ hfuel hI
  obtain ⟨ρ', h1, h2, h3⟩ := hI'.rep
  rw [tsF_all (fun j _ hj => hall j (by omega)), hF_all (fun j _ hj => hall j (by omega))] at h2
  rw [hF_all (fun j _ hj => hall j (by omega))] at h3
  refine ⟨ρ', t', w', h1, h2, h3, .head stepR_region_draw ?_⟩
  simp only [Region.schedule, hm, Bool.true_or, if_true, Region.linearise]
  exact Steps.trans hs (.one stepR_region_end)
end

/-! ### the text's order -/
def isCall (o : Oper) : Bool :=
  match o.op with
  | .call c => match c.callee with | .builtin _ => false | _ => true
  | _ => false
/-- Does one wait for the answer of number i? -/
def guardOf (ops : List Oper) (i : Nat) : Bool := ops.any fun o => match o.guard with | some (j, _) => j == i | none => false
/-- A Bool on which others wait is told apart at once. -/
def splitB (L need : Bool) (v : SV) (K : SV → Prop) : Prop :=
  match need with
  | false => K v
  | true =>
    match v with
    | .c (.v (.bool b)) =>
      match L with
      | true => match b with | true => K (.c (.b true)) | false => K (.c (.b false))
      | false => (b = true → K (.c (.b true))) ∧ (b = false → K (.c (.b false)))
    | v => K v
theorem splitB_spec {L need : Bool} {v : SV} {K : SV → Prop} (h : splitB L need v K) : ∃ v', (∀ ρ u, v.R ρ u → v'.R ρ u) ∧ K v' := by
  unfold splitB at h
  split at h
  · exact ⟨v, fun _ _ h => h, h⟩
  · split at h
    · rename_i b
      split at h
      · split at h
        · exact ⟨.c (.b true), fun _ _ h => h, h⟩
        · exact ⟨.c (.b false), fun _ _ h => h, h⟩
      · cases b with
        | true => exact ⟨.c (.b true), fun _ _ h => h, h.1 rfl⟩
        | false => exact ⟨.c (.b false), fun _ _ h => h, h.2 rfl⟩
    · exact ⟨_, fun _ _ h => h, h⟩
def freeB (h : SHeap) (k : Nat) : Bool := match h[k]? with | some none => true | _ => false
theorem freeB_spec {h : SHeap} {k : Nat} (e : freeB h k = true) : h[k]? = some none := by
  unfold freeB at e
  split at e
  · assumption
  · cases e
def freeN (h : SHeap) (nm : Nat) : Nat → Bool
  | 0 => true
  | n + 1 => freeB h (nm + n) && freeN h nm n
theorem freeN_spec {h : SHeap} {nm : Nat} : ∀ {n : Nat}, freeN h nm n = true → Free h nm n
  | 0, _ => Free.zero h nm
  | n + 1, e => by
    simp only [freeN, Bool.and_eq_true] at e
    intro i hi
    rcases Nat.lt_succ_iff_lt_or_eq.1 hi with h1 | rfl
    · exact freeN_spec e.2 i h1
    · exact freeB_spec e.1
def drS (P : Program) (laws : List (Law P)) (L : Bool) (ops : Array Oper) : List Oper → Nat → Nat → STmps → SHeap → (List Row → STmps → SHeap → Prop) → Prop
  | [], _, _, ts, h, K => K [] ts h
  | o :: rest, i, nm, ts, h, K =>
    match guardS ops ts o with
    | some .yes =>
      let go (T : List (Nat × SO)) (e : Eff) : Prop :=
        Ck (freeN h nm e.news.length && !isDefer o) <| splitB L (guardOf ops.toList i) e.out fun v =>
          drS P laws L ops rest (i + 1) (nm + e.news.length) (putS ts o.dst v) (Eff.app { e with out := v } nm h) fun rows => K (⟨o, nm, T, { e with out := v }⟩ :: rows)
      match isCall o with
      | true =>
        match lawOf laws (sevO o ts) o with
        | some (S, as) => S.eff h nm as go
        | none => False
      | false => opS P L nm h (sevO o ts) o go
    | some .no => drS P laws L ops rest (i + 1) nm (putS ts o.dst (.t [])) h fun rows => K (⟨o, nm, [], { out := .t [] }⟩ :: rows)
    | _ => False
theorem drS_sound {P : Program} {C : Cfg} {laws : List (Law P)} {L : Bool} {ops : Array Oper} : ∀ {rest : List Oper} {i nm : Nat} {ts : STmps} {h : SHeap} {K : List Row → STmps → SHeap → Prop} (n : Nat), drS P laws L ops rest i nm ts h K →
    ∃ rows, rows.map (·.o) = rest ∧ Facts P C ops rows ts h ∧ K rows (tsF all n rows ts) (hF all n rows h)
  | [], _, _, ts, h, K, n, hh => ⟨[], rfl, trivial, hh⟩
  | o :: rest, i, nm, ts, h, K, n, hh => by
    simp only [drS] at hh
    split at hh
    · rename_i hg
      have go : ∀ {T : List (Nat × SO)} {e : Eff}, (∀ x ∈ T, h[x.1]? = some (some x.2)) → (isDefer o = false → RowOk P C nm o (sevO o ts) T e) →
          Ck (freeN h nm e.news.length && !isDefer o) (splitB L (guardOf ops.toList i) e.out fun v =>
            drS P laws L ops rest (i + 1) (nm + e.news.length) (putS ts o.dst v) (Eff.app { e with out := v } nm h) fun rows => K (⟨o, nm, T, { e with out := v }⟩ :: rows)) →
          ∃ rows, rows.map (·.o) = o :: rest ∧ Facts P C ops rows ts h ∧ K rows (tsF all n rows ts) (hF all n rows h) := fun {T e} hT hrow hh => by
        obtain ⟨hb, hh⟩ := hh.out
        simp only [Bool.and_eq_true, Bool.not_eq_true'] at hb
        obtain ⟨v', hv', hh⟩ := splitB_spec hh
        obtain ⟨rows, h1, h2, h3⟩ := drS_sound (C := C) (n + 1) hh
        exact ⟨⟨o, nm, T, { e with out := v' }⟩ :: rows, by simp [h1], ⟨⟨hT, freeN_spec hb.1, .inl ⟨hg, (hrow hb.2).out hv'⟩⟩, h2⟩, h3⟩
      split at hh
      · split at hh
        · rename_i S as hc
          obtain ⟨T, e, hT, hok, hh⟩ := S.ok (C := C) hh
          exact go hT (fun _ => law_row hc hok) hh
        · exact hh.elim
      · obtain ⟨T, e, hT, hok, hh⟩ := opS_sound (C := C) hh
        exact go hT (fun hd => hok.row hd) hh
    · rename_i hg
      obtain ⟨rows, h1, h2, h3⟩ := drS_sound (C := C) (n + 1) hh
      exact ⟨⟨o, nm, [], { out := .t [] }⟩ :: rows, by simp [h1], ⟨⟨by simp, Free.zero _ _, .inr ⟨hg, rfl⟩⟩, h2⟩, h3⟩
    · exact hh.elim

/-- Names at the end that are not given are let go. -/
def trim : SHeap → SHeap
  | [] => []
  | x :: r =>
    match trim r, x with
    | [], none => []
    | r', x => x :: r'
theorem trim_alk : ∀ h : SHeap, Alk h (trim h)
  | [] => Alk.refl _
  | x :: r => fun k q => by
    have ih := trim_alk r
    simp only [trim]
    split
    · rename_i hr
      cases k with
      | zero => simp
      | succ k =>
        have := ih k q
        rw [hr] at this
        simpa using this
    · cases k with
      | zero => simp
      | succ k => simpa using ih k q
/-- A region that draws its order. -/
def regS (P : Program) (laws : List (Law P)) (L : Bool) (ops : Array Oper) (ts : STmps) (h : SHeap) (K : STmps → SHeap → Prop) : Prop :=
  Ck (P.follows .mixedOrders) <|
    drS P laws L ops ops.toList 0 h.length ts (h ++ List.replicate 48 none) fun rows ts' h' => Ck (drawOk ops rows) (K ts' (trim h'))
theorem regS_run {P : Program} {C : Cfg} {f : FuncId} {R : Ending → World → Prop} {laws : List (Law P)} {L : Bool} {ops : Array Oper} {id : Nat} {s : SF} {k : List Item} {ss : List SF} {h : SHeap} {K : STmps → SHeap → Prop} (hsr : s.ret = false) (hsh : s.hd = none) (htd : s.todo = .code (.region id ops true) :: k)
    (hr : regS P laws L ops s.tmps h K) (hK : ∀ ts' h', K ts' h' → Run P C f R ⟨{ s with tmps := ts', todo := k } :: ss, h'⟩) : Run P C f R ⟨s :: ss, h⟩ := by
  obtain ⟨hm, hr⟩ := Ck.out hr
  obtain ⟨rows, hrows, hf, hr⟩ := drS_sound (C := C) 0 hr
  obtain ⟨hok, hr⟩ := hr.out
  refine Run.of ?_ (hK _ _ hr)
  intro ρ w fr frs hFr hW cs
  obtain ⟨tmps, rfl, hts, hn, hss⟩ := hFr.top
  generalize hhx : h ++ List.replicate 48 none = hx at *
  have alk : Alk h hx := by rw [← hhx]; exact alk_pad h _
  obtain ⟨ρ', tmps', w', hag, hts', hW', hst⟩ := draw_all (id := id) (b := baseF s.fn (s.round.map fun k => (ρ k).b)) (k := k) (cs := frs ++ cs) (ds := s.dfs.map (markD ρ)) hm hrows hf hok (hts.later alk.sub (Ag.refl _ _)) (hW.alk alk)
  have al2 := trim_alk (hF all 0 rows hx)
  have hsub : Sub h (trim (hF all 0 rows hx)) := (alk.sub.trans (hF_sub _ _ _ _)).trans al2.sub
  have hag' : Ag h ρ ρ' := hag.sub alk.sub
  refine ⟨ρ', w', mkF ρ' { s with tmps := tsF all 0 rows s.tmps, todo := k } tmps', frs, ⟨⟨tmps', rfl, hts'.later al2.sub (Ag.refl _ _), NamesOk.later (h := h) hn hsub⟩, hss.later hsub hag'⟩, hW'.alk al2, ?_⟩
  have h1 := mkF_ag (s := { s with tmps := tsF all 0 rows s.tmps, todo := k }) tmps' hn hag'
  rw [h1, mkF_run ρ tmps hsr hsh, mkF_run ρ (s := { s with tmps := tsF all 0 rows s.tmps, todo := k }) _ (by exact hsr) (by exact hsh), htd]
  exact hst
end Go.Sy
