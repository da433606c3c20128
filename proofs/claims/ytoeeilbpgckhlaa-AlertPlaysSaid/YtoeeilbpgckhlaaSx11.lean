/- A symbolic run: regions that draw their order. The operations are run in the order of the text; where whatever two of them that touch one thing are ordered, every order comes to the same. -/
import Derived.Test.YtoeeilbpgckhlaaSx8b
namespace Go.Sx
open Go

/-- What an operation of such a region comes to: the name that it may give, the blocks that it looks at, its effect. -/
structure Row where
  o : Oper
  nm : Nat
  R : List (Nat × SO)
  e : Eff

/-- An operation's word at the level of the machine's conditions: wherever its operands stand for what 'ev' says and the blocks of 'R' hold what R says, it goes on with its effect. -/
def RowOk (C : Cfg) (nm : Nat) (o : Oper) (ev : Operand → Option SV) (R : List (Nat × SO)) (e : Eff) : Prop :=
  ∀ (h : SHeap) (ρ : Ren) (a : Act) (w : World) (K : Act → World → Prop) (Q : Exit → Act → World → Prop), (∀ x ∈ R, h[x.1]? = some (some x.2)) → h[nm]? = some none → WRep C ρ h w → ERep h ρ ev a.eval →
    (∀ ρ' x w', Ag h ρ ρ' → VRep (e.he.run nm h) ρ' e.out x → WRep C ρ' (e.he.run nm h) w' → K (a.put o.dst x) w') → o.wp C.P a w K Q

theorem OpOk.row {C : Cfg} {nm : Nat} {o : Oper} {ev : Operand → Option SV} {T : Option (Nat × SO)} {e : Eff} (hok : OpOk C nm o ev T e) : RowOk C nm o ev T.toList e := by
  intro h ρ a w K Q hR hn hW hE hK
  obtain ⟨x, w', hrun, hx, hW'⟩ := hok h ρ a.eval w (fun k q ht => by subst ht; exact hR (k, q) (by simp)) hn hW hE
  have hag : Ag h ρ (e.he.ren nm ρ w.heap.size) := by
    cases e.he with
    | new o => exact upd_ag hn
    | _ => exact Ag.refl _ _
  unfold Oper.wp
  rcases hrun with hr | ⟨hr, rfl⟩
  · rw [hr]; exact hK _ x w' hag hx hW'
  · rw [hr]; exact hK _ _ w' hag hx hW'

def Row.wr (r : Row) (k : Nat) : Bool :=
  match r.e.he with
  | .none => false
  | .set k' _ => k' == k
  | .new _ => r.nm == k

def tsF (p : Nat → Bool) : Nat → List Row → STmps → STmps
  | _, [], ts => ts
  | i, r :: rs, ts => tsF p (i + 1) rs (match p i with | true => putS ts r.o.dst r.e.out | false => ts)
def hF (p : Nat → Bool) : Nat → List Row → SHeap → SHeap
  | _, [], h => h
  | i, r :: rs, h => hF p (i + 1) rs (match p i with | true => r.e.he.run r.nm h | false => h)
def all (_ : Nat) : Bool := true

theorem set_get_same {α : Type} {l l' : List α} {k : Nat} {x : α} (hl : l.length = l'.length) : (l.set k x)[k]? = (l'.set k x)[k]? := by
  rcases Nat.lt_or_ge k l.length with h | h
  · rw [List.getElem?_set_self h, List.getElem?_set_self (by omega)]
  · rw [List.getElem?_eq_none (by simpa using h), List.getElem?_eq_none (by simp; omega)]
theorem putS_length (ts : STmps) (d : Option Tmp) (v : SV) : (putS ts d v).length = ts.length := by cases d <;> simp [putS]
theorem putS_get {ts ts' : STmps} {d : Option Tmp} {v : SV} {t : Nat} (h : ts[t]? = ts'[t]?) (hl : ts.length = ts'.length) : (putS ts d v)[t]? = (putS ts' d v)[t]? := by
  cases d with
  | none => exact h
  | some d =>
    simp only [putS]
    by_cases hd : d = t
    · subst hd; exact set_get_same hl
    · rw [List.getElem?_set_ne hd, List.getElem?_set_ne hd]; exact h
theorem putS_other {ts : STmps} {d : Option Tmp} {v : SV} {t : Nat} (h : d ≠ some t) : (putS ts d v)[t]? = ts[t]? := by
  cases d with
  | none => rfl
  | some d => simp only [putS]; rw [List.getElem?_set_ne (fun e => h (by rw [e]))]

theorem tsF_length (p : Nat → Bool) : ∀ (rs : List Row) (i : Nat) (ts : STmps), (tsF p i rs ts).length = ts.length
  | [], _, _ => rfl
  | r :: rs, i, ts => by
    simp only [tsF]
    rw [tsF_length p rs]
    split
    · exact putS_length _ _ _
    · rfl
theorem tsF_get {p p' : Nat → Bool} {t : Nat} : ∀ {rs : List Row} {i : Nat} {ts ts' : STmps}, (∀ (j : Nat) r, rs[j]? = some r → r.o.dst = some t → p (i + j) = p' (i + j)) → ts[t]? = ts'[t]? → ts.length = ts'.length →
    (tsF p i rs ts)[t]? = (tsF p' i rs ts')[t]?
  | [], _, _, _, _, h, _ => h
  | r :: rs, i, ts, ts', hag, h, hl => by
    simp only [tsF]
    refine tsF_get (fun j r' hj hd => by have := hag (j + 1) r' (by simpa using hj) hd; rwa [show i + (j + 1) = i + 1 + j from by omega] at this) ?_ (by split <;> split <;> simp [putS_length, hl])
    by_cases hd : r.o.dst = some t
    · have := hag 0 r rfl hd
      simp only [Nat.add_zero] at this
      rw [this]
      split
      · exact putS_get h hl
      · exact h
    · split <;> split <;> simp [putS_other hd, h]

theorem run_get {e : HE} {nm k : Nat} {h h' : SHeap} (hh : h[k]? = h'[k]?) (hl : h.length = h'.length) : (e.run nm h)[k]? = (e.run nm h')[k]? := by
  cases e with
  | none => exact hh
  | set j o =>
    simp only [HE.run]
    by_cases hd : j = k
    · subst hd; exact set_get_same hl
    · rw [List.getElem?_set_ne hd, List.getElem?_set_ne hd]; exact hh
  | new o =>
    simp only [HE.run]
    by_cases hd : nm = k
    · subst hd; exact set_get_same hl
    · rw [List.getElem?_set_ne hd, List.getElem?_set_ne hd]; exact hh
theorem run_other {r : Row} {k : Nat} {h : SHeap} (hw : r.wr k = false) : (r.e.he.run r.nm h)[k]? = h[k]? := by
  unfold Row.wr at hw
  cases he : r.e.he with
  | none => rfl
  | set j o => rw [he] at hw; simp only [HE.run]; rw [List.getElem?_set_ne (by simpa using hw)]
  | new o => rw [he] at hw; simp only [HE.run]; rw [List.getElem?_set_ne (by simpa using hw)]
theorem hF_length (p : Nat → Bool) : ∀ (rs : List Row) (i : Nat) (h : SHeap), (hF p i rs h).length = h.length
  | [], _, _ => rfl
  | r :: rs, i, h => by
    simp only [hF]
    rw [hF_length p rs]
    split
    · exact HE.run_length _ _ _
    · rfl
theorem hF_get {p p' : Nat → Bool} {k : Nat} : ∀ {rs : List Row} {i : Nat} {h h' : SHeap}, (∀ (j : Nat) r, rs[j]? = some r → r.wr k = true → p (i + j) = p' (i + j)) → h[k]? = h'[k]? → h.length = h'.length →
    (hF p i rs h)[k]? = (hF p' i rs h')[k]?
  | [], _, _, _, _, h, _ => h
  | r :: rs, i, h, h', hag, hh, hl => by
    simp only [hF]
    refine hF_get (fun j r' hj hd => by have := hag (j + 1) r' (by simpa using hj) hd; rwa [show i + (j + 1) = i + 1 + j from by omega] at this) ?_ (by split <;> split <;> simp [HE.run_length, hl])
    cases hd : r.wr k with
    | true =>
      have := hag 0 r rfl hd
      simp only [Nat.add_zero] at this
      rw [this]
      split
      · exact run_get hh hl
      · exact hh
    | false => split <;> split <;> simp [run_other hd, hh]

/-- Those ahead of number i, all of them: the text's order. -/
theorem tsF_none (p : Nat → Bool) : ∀ (rs : List Row) (i : Nat) (ts : STmps), (∀ j, i ≤ j → p j = false) → tsF p i rs ts = ts
  | [], _, _, _ => rfl
  | r :: rs, i, ts, h => by simp only [tsF, h i (Nat.le_refl _)]; exact tsF_none p rs (i + 1) ts fun j hj => h j (by omega)
theorem hF_none (p : Nat → Bool) : ∀ (rs : List Row) (i : Nat) (g : SHeap), (∀ j, i ≤ j → p j = false) → hF p i rs g = g
  | [], _, _, _ => rfl
  | r :: rs, i, g, h => by simp only [hF, h i (Nat.le_refl _)]; exact hF_none p rs (i + 1) g fun j hj => h j (by omega)
theorem tsF_take (n : Nat) : ∀ (rs : List Row) (i : Nat) (ts : STmps), tsF (fun j => decide (j < i + n)) i rs ts = tsF all i (rs.take n) ts := by
  induction n with
  | zero => intro rs i ts; rw [List.take_zero]; exact tsF_none _ rs i ts fun j hj => by simp; omega
  | succ n ih =>
    intro rs i ts
    cases rs with
    | nil => rfl
    | cons r rs =>
      simp only [tsF, List.take_succ_cons, all]
      rw [show decide (i < i + (n + 1)) = true from by simp]
      rw [← ih rs (i + 1)]
      congr 1
      funext j
      rw [show i + (n + 1) = i + 1 + n from by omega]
theorem hF_take (n : Nat) : ∀ (rs : List Row) (i : Nat) (h : SHeap), hF (fun j => decide (j < i + n)) i rs h = hF all i (rs.take n) h := by
  induction n with
  | zero => intro rs i h; rw [List.take_zero]; exact hF_none _ rs i h fun j hj => by simp; omega
  | succ n ih =>
    intro rs i h
    cases rs with
    | nil => rfl
    | cons r rs =>
      simp only [hF, List.take_succ_cons, all]
      rw [show decide (i < i + (n + 1)) = true from by simp]
      rw [← ih rs (i + 1)]
      congr 1
      funext j
      rw [show i + (n + 1) = i + 1 + n from by omega]

/-! ### who waits for whom -/
def direct (o : Oper) : List Nat := o.after.toList.filterMap fun e => match Region.binds .any e with | true => some e.on | false => none
def ancM (acc : List Nat) : List Nat → Nat
  | [] => 0
  | j :: r => (1 <<< j) ||| (acc.getD j 0 ||| ancM acc r)
def ancsGo : List Oper → List Nat → List Nat
  | [], acc => acc
  | o :: r, acc => ancsGo r (acc ++ [ancM acc (direct o)])
theorem ancM_spec {acc : List Nat} {j : Nat} : ∀ {l : List Nat}, (ancM acc l).testBit j = true → j ∈ l ∨ ∃ k ∈ l, (acc.getD k 0).testBit j = true
  | [], h => by simp [ancM] at h
  | k :: r, h => by
    simp only [ancM, Nat.testBit_or, Bool.or_eq_true] at h
    rcases h with h | h | h
    · rw [Nat.shiftLeft_eq, Nat.one_mul, Nat.testBit_two_pow] at h
      exact .inl (by simp at h; simp [h])
    · exact .inr ⟨k, by simp, h⟩
    · rcases ancM_spec h with h | ⟨k', hk, hb⟩
      · exact .inl (by simp [h])
      · exact .inr ⟨k', by simp [hk], hb⟩

/-- 'listed' bears whom its own wait for. -/
def Closed (ops : List Oper) (p : Nat → Bool) : Prop := ∀ (i : Nat) o, ops[i]? = some o → p i = true → ∀ j ∈ direct o, p j = true
/-- The masks are right: whoever is listed, all whom its mask names are. -/
def MasksOk (ops : List Oper) (ms : List Nat) : Prop := ∀ p, Closed ops p → ∀ (i : Nat), i < ops.length → p i = true → ∀ j, (ms.getD i 0).testBit j = true → p j = true

theorem ancsGo_ok (ops : List Oper) : ∀ (rest : List Oper) (acc : List Nat), ops.drop acc.length = rest → (∀ p, Closed ops p → ∀ (i : Nat), i < acc.length → p i = true → ∀ j, (acc.getD i 0).testBit j = true → p j = true) →
    MasksOk ops (ancsGo rest acc)
  | [], acc, hd, h => by
    have : ops.length ≤ acc.length := by simpa using hd
    intro p hp i hi
    exact h p hp i (by omega)
  | o :: rest, acc, hd, h => by
    have ho : ops[acc.length]? = some o := by
      have := congrArg (·[0]?) hd
      simpa using this
    refine ancsGo_ok ops rest (acc ++ [ancM acc (direct o)]) ?_ ?_
    · have := congrArg (List.drop 1) hd
      simpa using this
    · intro p hp i hi hpi j hj
      rcases Nat.lt_or_ge i acc.length with hlt | hge
      · exact h p hp i hlt hpi j (by simpa [List.getD_eq_getElem?_getD, List.getElem?_append_left hlt] using hj)
      · have : i = acc.length := by simp at hi; omega
        subst this
        simp only [List.getD_eq_getElem?_getD, List.getElem?_append_right (Nat.le_refl _), Nat.sub_self, List.getElem?_cons_zero, Option.getD_some] at hj
        rcases ancM_spec hj with h1 | ⟨k, hk, hb⟩
        · exact hp _ o ho hpi j h1
        · have hpk := hp _ o ho hpi k hk
          rcases Nat.lt_or_ge k acc.length with hlt | hge'
          · exact h p hp k hlt hpk j hb
          · simp [List.getD_eq_getElem?_getD, List.getElem?_eq_none hge'] at hb
end Go.Sx
