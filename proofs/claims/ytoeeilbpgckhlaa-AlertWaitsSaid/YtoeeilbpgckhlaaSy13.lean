/- A symbolic run, second making: regions that draw their order: every order comes to what the text's order comes to. -/
import Derived.Test.YtoeeilbpgckhlaaSy12
namespace Go.Sy
open Go

/-- What an operation of such a region comes to: the first name that it may give, the blocks that it looks at, its effect. -/
structure Row where
  o : Oper
  nm : Nat
  R : List (Nat × SO)
  e : Eff

/-- An operation's word at the level of the machine. -/
def RowOk (P : Program) (C : Cfg) (nm : Nat) (o : Oper) (ev : Operand → Option SV) (R : List (Nat × SO)) (e : Eff) : Prop :=
  ∀ (h : SHeap) (ρ : Ren) (tmps : Array Value) (ds : List Deferred) (w : World) (b : Frame) (ops : Array Oper) (i : Nat) (rest : List Nat) (k : List Item) (cs : List Frame),
    (∀ x ∈ R, h[x.1]? = some (some x.2)) → Free h nm e.news.length → WRep C ρ h w → ERep h ρ ev (Act.eval ⟨tmps, ds⟩) → ops[i]? = some o → Region.wanted o (yielded ops tmps) = true →
    ∃ ρ' x w', Ag h ρ ρ' ∧ VRep (e.app nm h) ρ' e.out x ∧ WRep C ρ' (e.app nm h) w' ∧
      Steps P (lone (b.atR ⟨tmps, ds⟩ (.inRegion ops (i :: rest) :: k)) cs w) (lone (b.atR ⟨(Act.put ⟨tmps, ds⟩ o.dst x).tmps, ds⟩ (.inRegion ops rest :: k)) cs w')
theorem OpOk.row {P : Program} {C : Cfg} {nm : Nat} {o : Oper} {ev : Operand → Option SV} {T : List (Nat × SO)} {e : Eff} (hok : OpOk P C nm o ev T e) (hnd : isDefer o = false) : RowOk P C nm o ev T e := by
  intro h ρ tmps ds w b ops i rest k cs hR hn hW hE ho hw
  obtain ⟨ρ', x, w', hag, hrun, hx, hW'⟩ := hok h ρ _ w hR hn hW hE
  exact ⟨ρ', x, w', hag, hx, hW', .one (step_value ho hnd hw hrun)⟩
theorem law_row {P : Program} {C : Cfg} {nm : Nat} {o : Oper} {ev : Operand → Option SV} {laws : List (Law P)} {S : Law P} {as : List SV} {T : List (Nat × SO)} {e : Eff} (hc : lawOf laws ev o = some (S, as)) (hok : CallOk P C nm S.g as T e) : RowOk P C nm o ev T e := by
  intro h ρ tmps ds w b ops i rest k cs hR hn hW hE ho hw
  unfold lawOf at hc
  split at hc
  · rename_i g as' hcal
    split at hc
    · rename_i s' fn hs' hcb
      cases hc
      obtain ⟨xs, hrun, hxs⟩ := calleeS_run (P := P) hE hcal w fn hcb
      obtain ⟨en, w', fr', ⟨ρ', x, rfl, hag, hvr, hW'⟩, hcomes, hfr, hleave⟩ := hok h ρ w xs hR hn hW hxs (b.atR ⟨tmps, ds⟩ (.inRegion ops (i :: rest) :: k) :: cs)
      rw [lawAt_g hs'] at hcomes
      refine ⟨ρ', x, w', hag, hvr, hW', .head (step_enter ho (callee_not_defer hcal) hw hrun) (Steps.trans hcomes (.one ?_))⟩
      rw [← finish_in (k := k) (rest := rest) ho]
      exact step_leave_returned hleave
    · cases hc
  · cases hc
theorem RowOk.out {P : Program} {C : Cfg} {nm : Nat} {o : Oper} {ev : Operand → Option SV} {R : List (Nat × SO)} {e : Eff} {v : SV} (h : RowOk P C nm o ev R e) (hv : ∀ ρ u, e.out.R ρ u → v.R ρ u) : RowOk P C nm o ev R { e with out := v } :=
  fun h1 ρ tmps ds w b ops i rest k cs hR hn hW hE ho hw => let ⟨ρ', x, w', p, q, r, s⟩ := h h1 ρ tmps ds w b ops i rest k cs hR hn hW hE ho hw; ⟨ρ', x, w', p, fun ρ2 h2 => hv ρ2 x (q ρ2 h2), r, s⟩

def anyAt (l : List (Nat × SO)) (k : Nat) : Bool :=
  match l with
  | [] => false
  | (j, _) :: r => Nat.beq j k || anyAt r k
theorem anyAt_false {l : List (Nat × SO)} {k : Nat} (h : anyAt l k = false) : ∀ x ∈ l, x.1 ≠ k := by
  induction l with
  | nil => simp
  | cons x r ih =>
    obtain ⟨j, o⟩ := x
    simp only [anyAt, Bool.or_eq_false_iff] at h
    intro y hy
    rcases List.mem_cons.1 hy with rfl | hy
    · intro e; dsimp only at e; rw [e] at h; simp at h
    · exact ih h.2 y hy
theorem anyAt_true {l : List (Nat × SO)} {k : Nat} (h : anyAt l k = true) : ∃ x ∈ l, x.1 = k := by
  induction l with
  | nil => simp [anyAt] at h
  | cons x r ih =>
    obtain ⟨j, o⟩ := x
    simp only [anyAt, Bool.or_eq_true] at h
    rcases h with h | h
    · exact ⟨(j, o), by simp, Nat.eq_of_beq_eq_true h⟩
    · obtain ⟨y, hy, e⟩ := ih h; exact ⟨y, by simp [hy], e⟩
def Row.wr (r : Row) (k : Nat) : Bool := anyAt r.e.sets k || (Nat.ble r.nm k && Nat.ble (k + 1) (r.nm + r.e.news.length))

def tsF (p : Nat → Bool) : Nat → List Row → STmps → STmps
  | _, [], ts => ts
  | i, r :: rs, ts => tsF p (i + 1) rs (match p i with | true => putS ts r.o.dst r.e.out | false => ts)
def hF (p : Nat → Bool) : Nat → List Row → SHeap → SHeap
  | _, [], h => h
  | i, r :: rs, h => hF p (i + 1) rs (match p i with | true => r.e.app r.nm h | false => h)
def all (_ : Nat) : Bool := true

theorem set_get_same {α : Type} {l l' : List α} {k : Nat} {x : α} (hl : l.length = l'.length) : (l.set k x)[k]? = (l'.set k x)[k]? := by
  rcases Nat.lt_or_ge k l.length with h | h
  · rw [List.getElem?_set_self h, List.getElem?_set_self (by omega)]
  · rw [List.getElem?_eq_none (by simpa using h), List.getElem?_eq_none (by simp; omega)]
theorem putS_length (ts : STmps) (d : Option Tmp) (v : SV) : (putS ts d v).length = ts.length := by cases d <;> simp [putS]
theorem putS_get {ts ts' : STmps} {d : Option Tmp} {v : SV} {t : Nat} (h : ts[t]? = ts'[t]?) (hl : ts.length = ts'.length) : (putS ts d v)[t]? = (putS ts' d v)[t]? := by
  cases d with
  | none => exact h
  | some d =>
    simp only [putS]
    by_cases hd : d = t
    · subst hd; exact set_get_same hl
    · rw [List.getElem?_set_ne hd, List.getElem?_set_ne hd]; exact h
theorem putS_other {ts : STmps} {d : Option Tmp} {v : SV} {t : Nat} (h : d ≠ some t) : (putS ts d v)[t]? = ts[t]? := by
  cases d with
  | none => rfl
  | some d => simp only [putS]; rw [List.getElem?_set_ne (fun e => h (by rw [e]))]

theorem tsF_length (p : Nat → Bool) : ∀ (rs : List Row) (i : Nat) (ts : STmps), (tsF p i rs ts).length = ts.length
  | [], _, _ => rfl
  | r :: rs, i, ts => by
    simp only [tsF]
    rw [tsF_length p rs]
    split
    · exact putS_length _ _ _
    · rfl
theorem tsF_get {p p' : Nat → Bool} {t : Nat} : ∀ {rs : List Row} {i : Nat} {ts ts' : STmps}, (∀ (j : Nat) r, rs[j]? = some r → r.o.dst = some t → p (i + j) = p' (i + j)) → ts[t]? = ts'[t]? → ts.length = ts'.length →
    (tsF p i rs ts)[t]? = (tsF p' i rs ts')[t]?
  | [], _, _, _, _, h, _ => h
  | r :: rs, i, ts, ts', hag, h, hl => by
    simp only [tsF]
    refine tsF_get (fun j r' hj hd => by have := hag (j + 1) r' (by simpa using hj) hd; rwa [show i + (j + 1) = i + 1 + j from by omega] at this) ?_ (by split <;> split <;> simp [putS_length, hl])
    by_cases hd : r.o.dst = some t
    · have := hag 0 r rfl hd
      simp only [Nat.add_zero] at this
      rw [this]
      split
      · exact putS_get h hl
      · exact h
    · split <;> split <;> simp [putS_other hd, h]

theorem setAll_get {l : List (Nat × SO)} {k : Nat} : ∀ {h h' : SHeap}, h[k]? = h'[k]? → h.length = h'.length → (setAll l h)[k]? = (setAll l h')[k]? := by
  induction l with
  | nil => intro h h' e _; exact e
  | cons x r ih =>
    intro h h' e hl
    obtain ⟨j, o⟩ := x
    simp only [setAll]
    refine ih ?_ (by simp [hl])
    by_cases hd : j = k
    · subst hd; exact set_get_same hl
    · rw [List.getElem?_set_ne hd, List.getElem?_set_ne hd]; exact e
theorem setNew_get {l : List SO} {k : Nat} : ∀ {nm : Nat} {h h' : SHeap}, h[k]? = h'[k]? → h.length = h'.length → (setNew l nm h)[k]? = (setNew l nm h')[k]? := by
  induction l with
  | nil => intro nm h h' e _; exact e
  | cons x r ih =>
    intro nm h h' e hl
    simp only [setNew]
    refine ih ?_ (by simp [hl])
    by_cases hd : nm = k
    · subst hd; exact set_get_same hl
    · rw [List.getElem?_set_ne hd, List.getElem?_set_ne hd]; exact e
theorem app_get {e : Eff} {nm k : Nat} {h h' : SHeap} (hh : h[k]? = h'[k]?) (hl : h.length = h'.length) : (e.app nm h)[k]? = (e.app nm h')[k]? :=
  setNew_get (setAll_get hh hl) (by simp [setAll_length, hl])
theorem app_other {r : Row} {k : Nat} {h : SHeap} (hw : r.wr k = false) : (r.e.app r.nm h)[k]? = h[k]? := by
  simp only [Row.wr, Bool.or_eq_false_iff, Bool.and_eq_false_iff] at hw
  unfold Eff.app
  have h1 : (setAll r.e.sets h)[k]? = h[k]? := setAll_get_ne (anyAt_false hw.1)
  rcases hw.2 with h2 | h2
  · rw [setNew_get_before (by
      rcases Nat.lt_or_ge k r.nm with h3 | h3
      · exact h3
      · rw [Nat.ble_eq_true_of_le h3] at h2; cases h2), h1]
  · rw [setNew_get_behind (by
      rcases Nat.lt_or_ge k (r.nm + r.e.news.length) with h3 | h3
      · rw [Nat.ble_eq_true_of_le (by omega)] at h2; cases h2
      · exact h3), h1]
theorem hF_length (p : Nat → Bool) : ∀ (rs : List Row) (i : Nat) (h : SHeap), (hF p i rs h).length = h.length
  | [], _, _ => rfl
  | r :: rs, i, h => by
    simp only [hF]
    rw [hF_length p rs]
    split
    · exact Eff.app_length _ _ _
    · rfl
theorem hF_get {p p' : Nat → Bool} {k : Nat} : ∀ {rs : List Row} {i : Nat} {h h' : SHeap}, (∀ (j : Nat) r, rs[j]? = some r → r.wr k = true → p (i + j) = p' (i + j)) → h[k]? = h'[k]? → h.length = h'.length →
    (hF p i rs h)[k]? = (hF p' i rs h')[k]?
  | [], _, _, _, _, h, _ => h
  | r :: rs, i, h, h', hag, hh, hl => by
    simp only [hF]
    refine hF_get (fun j r' hj hd => by have := hag (j + 1) r' (by simpa using hj) hd; rwa [show i + (j + 1) = i + 1 + j from by omega] at this) ?_ (by split <;> split <;> simp [Eff.app_length, hl])
    cases hd : r.wr k with
    | true =>
      have := hag 0 r rfl hd
      simp only [Nat.add_zero] at this
      rw [this]
      split
      · exact app_get hh hl
      · exact hh
    | false => split <;> split <;> simp [app_other hd, hh]

/-- Those ahead of number i, all of them: the text's order. -/
theorem tsF_none (p : Nat → Bool) : ∀ (rs : List Row) (i : Nat) (ts : STmps), (∀ j, i ≤ j → p j = false) → tsF p i rs ts = ts
  | [], _, _, _ => rfl
  | r :: rs, i, ts, h => by simp only [tsF, h i (Nat.le_refl _)]; exact tsF_none p rs (i + 1) ts fun j hj => h j (by omega)
theorem hF_none (p : Nat → Bool) : ∀ (rs : List Row) (i : Nat) (g : SHeap), (∀ j, i ≤ j → p j = false) → hF p i rs g = g
  | [], _, _, _ => rfl
  | r :: rs, i, g, h => by simp only [hF, h i (Nat.le_refl _)]; exact hF_none p rs (i + 1) g fun j hj => h j (by omega)
theorem tsF_take (n : Nat) : ∀ (rs : List Row) (i : Nat) (ts : STmps), tsF (fun j => decide (j < i + n)) i rs ts = tsF all i (rs.take n) ts := by
  induction n with
  | zero => intro rs i ts; rw [List.take_zero]; exact tsF_none _ rs i ts fun j hj => by simp; omega
  | succ n ih =>
    intro rs i ts
    cases rs with
    | nil => rfl
    | cons r rs =>
      simp only [tsF, List.take_succ_cons, all]
      rw [show decide (i < i + (n + 1)) = true from by simp]
      rw [← ih rs (i + 1)]
      congr 1
      funext j
      rw [show i + (n + 1) = i + 1 + n from by omega]
theorem hF_take (n : Nat) : ∀ (rs : List Row) (i : Nat) (h : SHeap), hF (fun j => decide (j < i + n)) i rs h = hF all i (rs.take n) h := by
  induction n with
  | zero => intro rs i h; rw [List.take_zero]; exact hF_none _ rs i h fun j hj => by simp; omega
  | succ n ih =>
    intro rs i h
    cases rs with
    | nil => rfl
    | cons r rs =>
      simp only [hF, List.take_succ_cons, all]
      rw [show decide (i < i + (n + 1)) = true from by simp]
      rw [← ih rs (i + 1)]
      congr 1
      funext j
      rw [show i + (n + 1) = i + 1 + n from by omega]

/-! ### who waits for whom -/
def direct (o : Oper) : List Nat := o.after.toList.filterMap fun e => match Region.binds .any e with | true => some e.on | false => none
def ancM (acc : List Nat) : List Nat → Nat
  | [] => 0
  | j :: r => (1 <<< j) ||| (acc.getD j 0 ||| ancM acc r)
def ancsGo : List Oper → List Nat → List Nat
  | [], acc => acc
  | o :: r, acc => ancsGo r (acc ++ [ancM acc (direct o)])
theorem ancM_spec {acc : List Nat} {j : Nat} : ∀ {l : List Nat}, (ancM acc l).testBit j = true → j ∈ l ∨ ∃ k ∈ l, (acc.getD k 0).testBit j = true
  | [], h => by simp [ancM] at h
  | k :: r, h => by
    simp only [ancM, Nat.testBit_or, Bool.or_eq_true] at h
    rcases h with h | h | h
    · rw [Nat.shiftLeft_eq, Nat.one_mul, Nat.testBit_two_pow] at h
      exact .inl (by simp at h; simp [h])
    · exact .inr ⟨k, by simp, h⟩
    · rcases ancM_spec h with h | ⟨k', hk, hb⟩
      · exact .inl (by simp [h])
      · exact .inr ⟨k', by simp [hk], hb⟩

/-- 'listed' bears whom its own wait for. -/
def Closed (ops : List Oper) (p : Nat → Bool) : Prop := ∀ (i : Nat) o, ops[i]? = some o → p i = true → ∀ j ∈ direct o, p j = true
/-- The masks are right: whoever is listed, all whom its mask names are. -/
def MasksOk (ops : List Oper) (ms : List Nat) : Prop := ∀ p, Closed ops p → ∀ (i : Nat), i < ops.length → p i = true → ∀ j, (ms.getD i 0).testBit j = true → p j = true

theorem ancsGo_ok (ops : List Oper) : ∀ (rest : List Oper) (acc : List Nat), ops.drop acc.length = rest → (∀ p, Closed ops p → ∀ (i : Nat), i < acc.length → p i = true → ∀ j, (acc.getD i 0).testBit j = true → p j = true) →
    MasksOk ops (ancsGo rest acc)
  | [], acc, hd, h => by
    have : ops.length ≤ acc.length := by simpa using hd
    intro p hp i hi
    exact h p hp i (by omega)
  | o :: rest, acc, hd, h => by
    have ho : ops[acc.length]? = some o := by
      have := congrArg (·[0]?) hd
      simpa using this
    refine ancsGo_ok ops rest (acc ++ [ancM acc (direct o)]) ?_ ?_
    · have := congrArg (List.drop 1) hd
      simpa using this
    · intro p hp i hi hpi j hj
      rcases Nat.lt_or_ge i acc.length with hlt | hge
      · exact h p hp i hlt hpi j (by simpa [List.getD_eq_getElem?_getD, List.getElem?_append_left hlt] using hj)
      · have : i = acc.length := by simp at hi; omega
        subst this
        simp only [List.getD_eq_getElem?_getD, List.getElem?_append_right (Nat.le_refl _), Nat.sub_self, List.getElem?_cons_zero, Option.getD_some] at hj
        rcases ancM_spec hj with h1 | ⟨k, hk, hb⟩
        · exact hp _ o ho hpi j h1
        · have hpk := hp _ o ho hpi k hk
          rcases Nat.lt_or_ge k acc.length with hlt | hge'
          · exact h p hp k hlt hpk j hb
          · simp [List.getD_eq_getElem?_getD, List.getElem?_eq_none hge'] at hb
def tmpsOf (l : List Operand) : List Tmp := l.filterMap fun | .tmp t => some t | _ => none
def opTmps (o : Oper) : List Tmp := tmpsOf o.op.operands.toList
def guardSlot (ops : Array Oper) (o : Oper) : List Tmp :=
  match o.guard with
  | some (j, _) => match ops[j]? with | some oj => oj.dst.toList | none => []
  | none => []
def touchT (ops : Array Oper) (o : Oper) : List Tmp := opTmps o ++ (guardSlot ops o ++ o.dst.toList)
/-- The symbols of an operation's own operands alone. -/
def sevO (o : Oper) (ts : STmps) (x : Operand) : Option SV :=
  match x with
  | .tmp t => match (opTmps o).contains t with | true => sev ts (.tmp t) | false => none
  | x => sev ts x

def allI (f : Nat → Row → Bool) : Nat → List Row → Bool
  | _, [] => true
  | i, r :: rs => f i r && allI f (i + 1) rs
theorem allI_spec {f : Nat → Row → Bool} : ∀ {rs : List Row} {i : Nat}, allI f i rs = true → ∀ (j : Nat) r, rs[j]? = some r → f (i + j) r = true
  | [], _, _, j, r, h => by simp at h
  | x :: rs, i, h, j, r, hj => by
    simp only [allI, Bool.and_eq_true] at h
    cases j with
    | zero => simp only [List.getElem?_cons_zero, Option.some.injEq] at hj; subst hj; exact h.1
    | succ j => have := allI_spec h.2 j r (by simpa using hj); rwa [show i + 1 + j = i + (j + 1) from by omega] at this

def ordB (ms : List Nat) (i j : Nat) : Bool := match decide (j < i) with | true => (ms.getD i 0).testBit j | false => (ms.getD j 0).testBit i
def allNames (nm : Nat) : Nat → (Nat → Bool) → Bool
  | 0, _ => true
  | n + 1, f => f (nm + n) && allNames nm n f
theorem allNames_spec {nm : Nat} {f : Nat → Bool} : ∀ {n : Nat}, allNames nm n f = true → ∀ t, t < n → f (nm + t) = true
  | 0, _, t, h => absurd h (Nat.not_lt_zero _)
  | n + 1, h, t, ht => by
    simp only [allNames, Bool.and_eq_true] at h
    rcases Nat.lt_succ_iff_lt_or_eq.1 ht with h1 | rfl
    · exact allNames_spec h.2 t h1
    · exact h.1
def rowOrd (ops : Array Oper) (ms : List Nat) (rows : List Row) (i : Nat) (r : Row) : Bool :=
  (touchT ops r.o).all (fun t => allI (fun j q => j == i || (!(q.o.dst == some t) || ordB ms i j)) 0 rows) &&
  (r.R.all (fun x => allI (fun j q => j == i || (!q.wr x.1 || ordB ms i j)) 0 rows) &&
  (allNames r.nm r.e.news.length (fun k => allI (fun j q => j == i || (!q.wr k || (decide (i < j) && (ms.getD j 0).testBit i))) 0 rows) &&
  (r.e.sets.all fun y => anyAt r.R y.1)))
def drawOk (ops : Array Oper) (rows : List Row) : Bool :=
  (rows.all fun _ => true) && (allI (fun i r => (direct r.o).all fun j => decide (j < i)) 0 rows && allI (rowOrd ops (ancsGo ops.toList []) rows) 0 rows)

/-- What is known of a row where the text's order comes to it. -/
def Fact (P : Program) (C : Cfg) (ops : Array Oper) (ts : STmps) (h : SHeap) (r : Row) : Prop :=
  (∀ x ∈ r.R, h[x.1]? = some (some x.2)) ∧ Free h r.nm r.e.news.length ∧
    ((guardS ops ts r.o = some .yes ∧ RowOk P C r.nm r.o (sevO r.o ts) r.R r.e) ∨ (guardS ops ts r.o = some .no ∧ r.e = { out := .t [] }))
def Facts (P : Program) (C : Cfg) (ops : Array Oper) : List Row → STmps → SHeap → Prop
  | [], _, _ => True
  | r :: rs, ts, h => Fact P C ops ts h r ∧ Facts P C ops rs (putS ts r.o.dst r.e.out) (r.e.app r.nm h)
theorem Facts.at {P : Program} {C : Cfg} {ops : Array Oper} : ∀ {rs : List Row} {ts : STmps} {h : SHeap} {n : Nat}, Facts P C ops rs ts h → ∀ (i : Nat) r, rs[i]? = some r → Fact P C ops (tsF all n (rs.take i) ts) (hF all n (rs.take i) h) r
  | [], _, _, _, _, i, r, h => by simp at h
  | x :: rs, ts, h, n, hf, i, r, hi => by
    cases i with
    | zero => simp only [List.getElem?_cons_zero, Option.some.injEq] at hi; subst hi; exact hf.1
    | succ i => exact Facts.at (n := n + 1) hf.2 i r (by simpa using hi)

theorem guardS_congr {ops : Array Oper} {o : Oper} {ts ts' : STmps} (h : ∀ t ∈ guardSlot ops o, ts[t]? = ts'[t]?) : guardS ops ts o = guardS ops ts' o := by
  unfold guardS
  unfold guardSlot at h
  split
  · rfl
  · rename_i j want hg
    simp only [hg] at h
    split
    · rename_i oj hj
      simp only [hj] at h
      split
      · rename_i d hd
        rw [h d (by simp [hd])]
      · rfl
    · rfl

theorem TRep.congr {h : SHeap} {ρ : Ren} {ts ts' : STmps} {tmps : Array Value} (r : TRep h ρ ts tmps) (hl : ts.length = ts'.length) (hg : ∀ t : Nat, ts[t]? = ts'[t]?) : TRep h ρ ts' tmps :=
  ⟨by rw [r.1, hl], fun t v hv => r.2 t v (by rw [hg]; exact hv)⟩
theorem alk_of_get {h g : SHeap} (e : ∀ k : Nat, h[k]? = g[k]?) : Alk h g := fun k q => by rw [e]

theorem tsF_snoc {rs : List Row} {i : Nat} {ts : STmps} {r : Row} : ∀ {n : Nat}, rs[i]? = some r → tsF all n (rs.take (i + 1)) ts = putS (tsF all n (rs.take i) ts) r.o.dst r.e.out := by
  induction rs generalizing i ts with
  | nil => intro n h; simp at h
  | cons x rs ih =>
    intro n h
    cases i with
    | zero => simp only [List.getElem?_cons_zero, Option.some.injEq] at h; subst h; rfl
    | succ i =>
      simp only [List.take_succ_cons, tsF, all]
      exact ih (n := n + 1) (by simpa using h)
theorem hF_snoc {rs : List Row} {i : Nat} {g : SHeap} {r : Row} : ∀ {n : Nat}, rs[i]? = some r → hF all n (rs.take (i + 1)) g = r.e.app r.nm (hF all n (rs.take i) g) := by
  induction rs generalizing i g with
  | nil => intro n h; simp at h
  | cons x rs ih =>
    intro n h
    cases i with
    | zero => simp only [List.getElem?_cons_zero, Option.some.injEq] at h; subst h; rfl
    | succ i =>
      simp only [List.take_succ_cons, hF, all]
      exact ih (n := n + 1) (by simpa using h)

end Go.Sy
