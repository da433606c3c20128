/- A symbolic run, second making: what each operation comes to, and that it does (first part: moves, blocks, loads). -/
import Derived.Test.YtoeeilbpgckhlaaSy2
import Derived.Laws.Tables
namespace Go.Sy
open Go

def isAggT (P : Program) (t : TypeId) : Option Bool :=
  match P.underlying t with
  | some (.struct _) | some (.array _ _) => some true
  | some _ => some false
  | none => none
def sizeT (P : Program) (t : TypeId) : Option Nat :=
  match P.info? t with
  | some i => some i.size
  | none => none
theorem run_isAgg {P : Program} {t : TypeId} {b : Bool} (h : isAggT P t = some b) (w : World) : (isAgg t).run P w = .ok b w := by
  unfold isAggT at h
  split at h
  · rename_i fs hu; cases h; simp [isAgg, run_underlying hu]
  · rename_i n e hu; cases h; simp [isAgg, run_underlying hu]
  · rename_i d h1 h2 hu
    cases h
    simp only [isAgg, Sem.run_bind, run_underlying hu, Result.andThen_ok]
    simp
  · cases h
theorem run_sizeOf {P : Program} {t : TypeId} {n : Nat} (h : sizeT P t = some n) (w : World) : (sizeOf t).run P w = .ok n w := by
  unfold sizeT at h
  split at h
  · rename_i i hi; cases h; simp [sizeOf, typeInfo, hi]
  · cases h
theorem addr_add_own (b off n : Nat) : (⟨b, off, none⟩ : Addr).add n = ⟨b, off + n, none⟩ := by
  unfold Addr.add; split <;> simp_all

/-- The kinds of a type's cells. -/
def cellDs (P : Program) : Nat → TypeId → List TypeDesc
  | 0, _ => []
  | d + 1, t =>
    match P.underlying t with
    | some (.struct fs) => fs.toList.flatMap fun f => cellDs P d f.type
    | some (.array n e) => (List.replicate n (cellDs P d e)).flatten
    | some x => [x]
    | none => []

/-! ### cells of data read -/
/-- A cell of a list of data, by its kind: its symbol, and the name that it gives. -/
def rowCell (xs : List D) (d : TypeDesc) (i nm : Nat) (K : SC → List SO → Prop) : Prop :=
  match d with
  | .int k => ∃ n : Int, xs[i]? = some (.v (.int k n)) ∧ K (.v (.int k n)) []
  | .bool => ∃ b : Bool, xs[i]? = some (.v (.bool b)) ∧ K (.v (.bool b)) []
  | .string => ∃ s : ByteArray, xs[i]? = some (.v (.string s)) ∧ K (.v (.string s)) []
  | .slice _ => ∃ (l : Nat) (cs : List D), xs[i]? = some (.s l cs) ∧ K (.s nm 0 l (.hid 0)) [.ice cs]
  | _ => ∃ v : Value, xs[i]? = some (.v v) ∧ K (.v v) []
def rowCells (xs : List D) : List TypeDesc → Nat → Nat → (List SC → List SO → Prop) → Prop
  | [], _, _, K => K [] []
  | d :: ds, i, nm, K => rowCell xs d i nm fun c n1 => rowCells xs ds (i + 1) (nm + n1.length) fun cs n2 => K (c :: cs) (n1 ++ n2)

/-- Where data lie. -/
def Lies (w : World) (fz : Nat → Prop) (b o : Nat) (xs : List D) : Prop := ∀ (j : Nat) (d : D), xs[j]? = some d → ∃ v, w.cell? ⟨b, o + j, none⟩ = some v ∧ DRep w fz d v

theorem Free.zero (h : SHeap) (nm : Nat) : Free h nm 0 := fun _ hi => absurd hi (Nat.not_lt_zero _)
theorem Free.one {h : SHeap} {nm n : Nat} (f : Free h nm (n + 1)) : h[nm]? = some none := by simpa using f 0 (Nat.succ_pos n)
theorem Free.left {h : SHeap} {nm a b : Nat} (f : Free h nm (a + b)) : Free h nm a := fun i hi => f i (by omega)
theorem setNew_get_before {l : List SO} : ∀ {nm k : Nat} {h : SHeap}, k < nm → (setNew l nm h)[k]? = h[k]? := by
  induction l with
  | nil => intro nm k h _; rfl
  | cons o r ih =>
    intro nm k h hk
    simp only [setNew]
    rw [ih (by omega), List.getElem?_set_ne (by omega)]
theorem setNew_get_behind {l : List SO} : ∀ {nm k : Nat} {h : SHeap}, nm + l.length ≤ k → (setNew l nm h)[k]? = h[k]? := by
  induction l with
  | nil => intro nm k h _; rfl
  | cons o r ih =>
    intro nm k h hk
    simp only [setNew, List.length_cons] at hk ⊢
    rw [ih (by omega), List.getElem?_set_ne (by omega)]
theorem Free.right {h : SHeap} {nm a b : Nat} {l : List SO} (f : Free h nm (a + b)) (hl : l.length = a) : Free (setNew l nm h) (nm + a) b := fun i hi => by
  rw [setNew_get_behind (by omega)]
  have := f (a + i) (by omega)
  rwa [← Nat.add_assoc] at this
theorem setNew_append (a b : List SO) : ∀ (nm : Nat) (h : SHeap), setNew (a ++ b) nm h = setNew b (nm + a.length) (setNew a nm h) := by
  induction a with
  | nil => intro nm h; rfl
  | cons o r ih => intro nm h; simp only [List.cons_append, setNew, List.length_cons]; rw [ih]; congr 1; omega

/-- What a reading of data comes to, wherever they lie. -/
def ReadOk (xs : List D) (i n nm : Nat) (cs : List SC) (news : List SO) : Prop :=
  ∀ {C : Cfg} {h : SHeap} {ρ : Ren} {w : World} {fz : Nat → Prop} {b o : Nat}, WRepF C ρ h w fz → Lies w fz b o xs → Free h nm news.length →
    ∃ (ρ' : Ren) (vs : List Value), Ag h ρ ρ' ∧ WRepF C ρ' (setNew news nm h) w fz ∧ vs.length = n ∧ (∀ (j : Nat) v, vs[j]? = some v → w.cell? ⟨b, o + (i + j), none⟩ = some v) ∧ CRep (setNew news nm h) ρ' cs vs

theorem rowCell_sound {xs : List D} {d : TypeDesc} {i nm : Nat} {K : SC → List SO → Prop} (hs : rowCell xs d i nm K) : ∃ c news, K c news ∧ ReadOk xs i 1 nm [c] news := by
  have plain : ∀ (v : Value), xs[i]? = some (.v v) → ReadOk xs i 1 nm [.v v] [] := fun v hv => by
    intro C h ρ w fz b o hW hL _
    obtain ⟨u, hu, hd⟩ := hL i _ hv
    cases hd
    refine ⟨ρ, [v], Ag.refl _ _, hW, rfl, fun j u hj => ?_, fun _ _ => ⟨rfl, trivial⟩⟩
    cases j with
    | zero => simp at hj; subst hj; exact hu
    | succ j => simp at hj
  unfold rowCell at hs
  split at hs
  · obtain ⟨n, h1, h2⟩ := hs; exact ⟨_, _, h2, plain _ h1⟩
  · obtain ⟨n, h1, h2⟩ := hs; exact ⟨_, _, h2, plain _ h1⟩
  · obtain ⟨n, h1, h2⟩ := hs; exact ⟨_, _, h2, plain _ h1⟩
  · obtain ⟨l, cs, h1, h2⟩ := hs
    refine ⟨_, _, h2, ?_⟩
    intro C h ρ w fz b o hW hL hf
    obtain ⟨u, hu, hd⟩ := hL i _ h1
    cases hd with
    | s a len cs vals bl hl ha hz hc hd =>
      have hv := hW.view (q := .ice cs) (x := bl) hf.one (fun h => h) ⟨vals, hz, hc, hd⟩
      refine ⟨_, [.slice a l bl.cap], upd_ag hf.one, hv, rfl, fun j u hj => ?_, fun ρ'' hag => ⟨?_, trivial⟩⟩
      · cases j with
        | zero => simp at hj; subst hj; exact hu
        | succ j => simp at hj
      · have hnm := hag nm (.ice cs) (by simp only [setNew]; rw [List.getElem?_set_self (given_lt hf.one)])
        rw [upd_same] at hnm
        refine ⟨a, ?_, ?_, ?_⟩
        · simp [hnm, Cap.den]
        · simpa [hnm, Cap.den] using hl
        · intro h0
          have := ha (by simpa [hnm, Cap.den] using h0)
          simp [hnm, this]
  · obtain ⟨n, h1, h2⟩ := hs; exact ⟨_, _, h2, plain _ h1⟩
theorem Lies.later {w : World} {fz fz' : Nat → Prop} {b o : Nat} {xs : List D} (h : Lies w fz b o xs) (hz : ∀ b, fz b → fz' b) : Lies w fz' b o xs := fun j d hj => let ⟨v, h1, h2⟩ := h j d hj; ⟨v, h1, h2.later (fun _ _ => rfl) hz⟩
theorem rowCells_sound {xs : List D} : ∀ {ds : List TypeDesc} {i nm : Nat} {K : List SC → List SO → Prop}, rowCells xs ds i nm K → ∃ cs news, K cs news ∧ ReadOk xs i ds.length nm cs news
  | [], i, nm, K, hs => ⟨[], [], hs, fun hW _ _ => ⟨_, [], Ag.refl _ _, hW, rfl, fun j v hj => by simp at hj, fun _ _ => trivial⟩⟩
  | d :: ds, i, nm, K, hs => by
    obtain ⟨c, n1, hs, r1⟩ := rowCell_sound hs
    obtain ⟨cs, n2, hs, r2⟩ := rowCells_sound hs
    refine ⟨c :: cs, n1 ++ n2, hs, ?_⟩
    intro C h ρ w fz b o hW hL hf
    rw [List.length_append] at hf
    obtain ⟨ρ1, v1, a1, W1, l1, c1, p1⟩ := r1 hW hL hf.left
    obtain ⟨ρ2, v2, a2, W2, l2, c2, p2⟩ := r2 W1 hL (hf.right rfl)
    rw [← setNew_append] at W2 p2
    match v1, l1 with
    | [v], _ =>
      refine ⟨ρ2, v :: v2, a1.trans (a2.sub (setNew_sub _ _ _)), W2, by simp [l2], fun j u hj => ?_, fun ρ'' hag => ⟨?_, p2 ρ'' hag⟩⟩
      · cases j with
        | zero => exact c1 0 u (by simpa using hj)
        | succ j =>
          have := c2 j u (by simpa using hj)
          rwa [show i + 1 + j = i + (j + 1) from by omega] at this
      · have h3 : Ag (setNew n1 nm h) ρ1 ρ'' := a2.trans (hag.sub (by rw [setNew_append]; exact setNew_sub _ _ _))
        exact (p1 ρ'' h3).1

abbrev KT := List (Nat × SO) → Eff → Prop
/-- 'K' is met by an effect that the operation has. -/
def Has (P : Program) (C : Cfg) (nm : Nat) (h : SHeap) (ev : Operand → Option SV) (o : Oper) (K : KT) : Prop :=
  ∃ T e, (∀ x ∈ T, h[x.1]? = some (some x.2)) ∧ OpOk P C nm o ev T e ∧ K T e

section
variable {P : Program} {C : Cfg} {nm : Nat} {h : SHeap} {ev : Operand → Option SV} {o : Oper} {K : KT}

/-- An operation that only reckons. -/
theorem has_pure {v : SV} (hK : K [] { out := v })
    (hr : ∀ (g : SHeap) ρ f w, WRep C ρ g w → ERep g ρ ev f → ∃ x, (execOp f o).run P w = .ok (.value x) w ∧ VRep g ρ v x) : Has P C nm h ev o K :=
  ⟨[], { out := v }, by simp, fun g ρ f w _ _ hW hE => let ⟨x, h1, h2⟩ := hr g ρ f w hW hE; ⟨ρ, x, w, Ag.refl _ _, .inl h1, h2, hW⟩, hK⟩
/-- One that looks at one block. -/
theorem has_look {v : SV} {k : Nat} {q : SO} (hk : h[k]? = some (some q)) (hK : K [(k, q)] { out := v })
    (hr : ∀ (g : SHeap) ρ f w, g[k]? = some (some q) → WRep C ρ g w → ERep g ρ ev f → ∃ x, (execOp f o).run P w = .ok (.value x) w ∧ VRep g ρ v x) : Has P C nm h ev o K :=
  ⟨[(k, q)], { out := v }, fun x hx => by simp only [List.mem_cons, List.not_mem_nil, or_false] at hx; subst hx; exact hk,
    fun g ρ f w hT _ hW hE => let ⟨x, h1, h2⟩ := hr g ρ f w (hT _ (List.mem_singleton.2 rfl)) hW hE; ⟨ρ, x, w, Ag.refl _ _, .inl h1, h2, hW⟩, hK⟩

def moveS (ev : Operand → Option SV) (x : Operand) (K : KT) : Prop :=
  match ev x with
  | some v => K [] { out := v }
  | none => False
theorem moveS_sound {x : Operand} (ho : o.op = .move x ∨ o.op = .assign x) (hs : moveS ev x K) : Has P C nm h ev o K := by
  unfold moveS at hs
  split at hs
  · rename_i v hv
    refine has_pure hs fun g ρ f w hW hE => ⟨f x, ?_, hE x v hv⟩
    rcases ho with ho | ho <;> simp [execOp, ho]
  · exact hs.elim

def pickS (ev : Operand → Option SV) (c a b : Operand) (K : KT) : Prop :=
  match ev c with
  | some (.c (.v (.bool t))) =>
    match t with
    | true => moveS ev a K
    | false => moveS ev b K
  | some (.c (.b t)) =>
    match t with
    | true => moveS ev a K
    | false => moveS ev b K
  | _ => False
theorem pickS_sound {c a b : Operand} (ho : o.op = .pick c a b) (hs : pickS ev c a b K) : Has P C nm h ev o K := by
  unfold pickS at hs
  have key : ∀ (t : Bool) (v : SV), ev c = some v → v.lit = some (.bool t) → ∀ (x : Operand), moveS ev x K → (∀ f : Operand → Value, (if t then f a else f b) = f x) → Has P C nm h ev o K := fun t v hc hl x hx hf => by
    unfold moveS at hx
    split at hx
    · rename_i u hu
      refine has_pure hx fun g ρ f w hW hE => ⟨f x, ?_, hE x u hu⟩
      have hb : f c = .bool t := VRep.of_lit hl (hE c _ hc)
      simp [execOp, ho, hb, asBool, hf]
    · exact hx.elim
  split at hs
  · rename_i t hc
    split at hs
    · exact key true _ hc rfl a hs fun f => by simp
    · exact key false _ hc rfl b hs fun f => by simp
  · rename_i t hc
    split at hs
    · exact key true _ hc rfl a hs fun f => by simp
    · exact key false _ hc rfl b hs fun f => by simp
  · exact hs.elim

theorem CsR.tags {ρ : Ren} : ∀ (l : List Value), CsR ρ (l.map tag) l
  | [] => trivial
  | x :: r => ⟨tag_R x ρ, CsR.tags r⟩
theorem VRep.new_p {g : SHeap} {ρ : Ren} {nm : Nat} {q : SO} {x : Blk} (hn : g[nm]? = some none) (h0 : x.o = 0) : VRep (g.set nm (some q)) (upd ρ nm x) (.c (.p nm 0)) (.pointer (some ⟨x.b, 0, none⟩)) := by
  intro ρ' ha
  have := ha nm _ (List.getElem?_set_self (given_lt hn))
  rw [upd_same] at this
  show _ = _
  simp [this, h0]
/-- A new block of which all is known. -/
theorem has_alloc {cs : List SC} {t : TypeId} (vs : (Operand → Value) → List Value)
    (hK : K [] { out := .c (.p nm 0), news := [.cells cs t (.kn 0)] })
    (hr : ∀ (g : SHeap) ρ f w, WRep C ρ g w → ERep g ρ ev f → (execOp f o).run P w = .ok (.value (.pointer (some ⟨w.heap.size, 0, none⟩))) (w.alloc (.cells (vs f).toArray t)) ∧ CRep g ρ cs (vs f)) : Has P C nm h ev o K := by
  refine ⟨[], _, by simp, ?_, hK⟩
  intro g ρ f w _ hn hW hE
  have hn := hn.one
  obtain ⟨h1, h2⟩ := hr g ρ f w hW hE
  obtain ⟨fz, hW⟩ := hW
  refine ⟨upd ρ nm ⟨w.heap.size, 0, 0⟩, _, _, upd_ag hn, .inl h1, VRep.new_p (x := ⟨w.heap.size, 0, 0⟩) hn rfl, fz, ?_⟩
  refine hW.alloc (q := .cells cs t (.kn 0)) hn rfl ⟨rfl, vs f, [], ?_, rfl, h2⟩
  rw [List.append_nil]
  exact HoldsC.alloc _ _ _
def allocS (P : Program) (nm : Nat) (t : TypeId) (K : KT) : Prop :=
  match P.info? t with
  | some i =>
    match i.zero with
    | some z => K [] { out := .c (.p nm 0), news := [.cells (z.cells.toList.map tag) t (.kn 0)] }
    | none => False
  | none => False
theorem allocS_sound {t : TypeId} (ho : o.op = .alloc t) (hs : allocS P nm t K) : Has P C nm h ev o K := by
  unfold allocS at hs
  split at hs
  · rename_i i hi
    split at hs
    · rename_i z hz
      refine has_alloc (fun _ => z.cells.toList) hs fun g ρ f w hW hE => ⟨?_, fun ρ' _ => CsR.tags _⟩
      simp [execOp, ho, Instr.alloc, zeroValue, typeInfo, hi, hz, newVar, newRow]
    · exact hs.elim
  · exact hs.elim

def boxS (ev : Operand → Option SV) (nm : Nat) (t : TypeId) (x : Operand) (K : KT) : Prop :=
  match ev x with
  | some (.al xs) => (∀ v ∈ xs, v.oneCell' = true) ∧ K [] { out := .c (.p nm 0), news := [.row (xs.map .v) t (.kn 0)] }
  | some v =>
    match v.cells with
    | some cs => K [] { out := .c (.p nm 0), news := [.cells cs t (.kn 0)] }
    | none => False
  | none => False
theorem boxS_sound {t : TypeId} {x : Operand} (ho : o.op = .box t x) (hs : boxS ev nm t x K) : Has P C nm h ev o K := by
  unfold boxS at hs
  split at hs
  · rename_i xs hv
    obtain ⟨hone, hs⟩ := hs
    refine ⟨[], _, by simp, ?_, hs⟩
    intro g ρ f w _ hn hW hE
    have hn := hn.one
    obtain ⟨fz, hW⟩ := hW
    have hf : f x = .agg xs.toArray := (hE x _ hv).here
    refine ⟨upd ρ nm ⟨w.heap.size, 0, 0⟩, .pointer (some ⟨w.heap.size, 0, none⟩), w.alloc (.cells xs.toArray t), upd_ag hn, .inl ?_, VRep.new_p (x := ⟨w.heap.size, 0, 0⟩) hn rfl, fz, ?_⟩
    · simp [execOp, ho, Instr.box, newVar, newRow, hf, Value.cells]
    · refine hW.alloc (q := .row (xs.map .v) t (.kn 0)) hn rfl ⟨rfl, xs, [], fun _ => ?_, rfl, DsRep.vals _ _ _ hone⟩
      rw [List.append_nil]
      exact HoldsC.alloc _ _ _
  · rename_i v _ hv
    split at hs
    · rename_i cs hc
      refine has_alloc (fun f => (f x).cells.toList) hs fun g ρ f w hW hE => ⟨?_, fun ρ' ha => SV.cells_R hc (hE x v hv ρ' ha)⟩
      simp [execOp, ho, Instr.box, newVar, newRow]
    · exact hs.elim
  · exact hs.elim

/-! ### load -/
theorem WRepF.cellsAt {C : Cfg} {ρ : Ren} {h : SHeap} {w : World} {fz : Nat → Prop} {k : Nat} {cs : List SC} {t : TypeId} {m : Tail} (r : WRepF C ρ h w fz) (e : h[k]? = some (some (.cells cs t m))) :
    (ρ k).o = 0 ∧ ∃ vs tail : List Value, HoldsC w (ρ k).b t (vs ++ tail) ∧ m.Ok (ρ k) vs.length tail.length ∧ CRep h ρ cs vs := r.objs k _ e
theorem WRepF.lies_row {C : Cfg} {ρ : Ren} {h : SHeap} {w : World} {fz : Nat → Prop} {k : Nat} {xs : List D} {t : TypeId} {m : Tail} (r : WRepF C ρ h w fz) (e : h[k]? = some (some (.row xs t m))) : Lies w fz (ρ k).b (ρ k).o xs := by
  obtain ⟨h0, vs, tail, h1, h2, h3⟩ := (r.objs k _ e : SO.Rep _ _ _ _ _ _)
  intro j d hj
  have hlt : j < vs.length := by rw [h3.1]; exact given_lt hj
  have hh : (SO.row xs t m).here (ρ k) := by
    cases m with
    | kn _ => trivial
    | hid es =>
      show 0 < (ρ k).cap
      have h2 : vs.length + tail.length = (ρ k).cap * es := h2
      rcases Nat.eq_zero_or_pos (ρ k).cap with h | h
      · rw [h, Nat.zero_mul] at h2; omega
      · exact h
  refine ⟨vs[j], ?_, h3.2 j d _ hj (List.getElem?_eq_getElem hlt)⟩
  rw [h0, Nat.zero_add, (h1 hh).cell]
  simp [List.getElem?_append_left hlt, hlt]
theorem WRepF.lies_ice {C : Cfg} {ρ : Ren} {h : SHeap} {w : World} {fz : Nat → Prop} {k : Nat} {xs : List D} (r : WRepF C ρ h w fz) (e : h[k]? = some (some (.ice xs))) : Lies w fz (ρ k).b (ρ k).o xs := by
  obtain ⟨vals, h1, h2, h3⟩ := (r.objs k _ e : SO.Rep _ _ _ _ _ _)
  exact fun j d hj => ⟨vals j, h2 j d hj, h3 j d hj⟩
/-- The data of a block. -/
def dataO : SO → Option (List D)
  | .row xs _ _ => some xs
  | .ice xs => some xs
  | _ => none
theorem WRepF.lies {C : Cfg} {ρ : Ren} {h : SHeap} {w : World} {fz : Nat → Prop} {k : Nat} {xs : List D} {q : SO} (r : WRepF C ρ h w fz) (e : h[k]? = some (some q)) (hd : dataO q = some xs) : Lies w fz (ρ k).b (ρ k).o xs := by
  cases q <;> simp [dataO] at hd
  · subst hd; exact r.lies_row e
  · subst hd; exact r.lies_ice e

def plainD : D → Option Value
  | .v x => some x
  | .s _ _ => none
def loadS (P : Program) (nm : Nat) (h : SHeap) (ev : Operand → Option SV) (t : TypeId) (x : Operand) (K : KT) : Prop :=
  match ev x, isAggT P t, sizeT P t with
  | some (.c (.p k off)), some ag, some n =>
    match h[k]? with
    | some (some (.cells l t0 m)) =>
      match ag with
      | true => Ck (decide (off + n ≤ l.length)) (K [(k, .cells l t0 m)] { out := .a ((l.drop off).take n) })
      | false =>
        match l[off]? with
        | some y => K [(k, .cells l t0 m)] { out := .c y }
        | none => False
    | some (some (.row xs t0 m)) =>
      match ag with
      | true =>
        match m, off with
        | .kn _, 0 => ∃ vs : List Value, (xs = vs.map .v ∧ vs.length = n) ∧ K [(k, .row xs t0 m)] { out := .al vs }
        | _, _ => Ck (decide ((cellDs P 20 t).length = n)) (rowCells xs (cellDs P 20 t) off nm fun cs news => K [(k, .row xs t0 m)] { out := .a cs, news })
      | false => match P.underlying t with
        | some d => rowCell xs d off nm fun c news => K [(k, .row xs t0 m)] { out := .c c, news }
        | none => False
    | some (some (.ice xs)) =>
      match ag with
      | true => Ck (decide ((cellDs P 20 t).length = n)) (rowCells xs (cellDs P 20 t) off nm fun cs news => K [(k, .ice xs)] { out := .a cs, news })
      | false => match P.underlying t with
        | some d => rowCell xs d off nm fun c news => K [(k, .ice xs)] { out := .c c, news }
        | none => False
    | _ => False
  | _, _, _ => False

theorem load_data {k off n : Nat} {t : TypeId} {x : Operand} {q : SO} {xs : List D} {cs : List SC} {news : List SO} {v : SV} {ag : Bool} (ho : o.op = .load t x) (hx : ev x = some (.c (.p k off))) (hag : isAggT P t = some ag) (hn : sizeT P t = some n)
    (hk : h[k]? = some (some q)) (hd : dataO q = some xs) {l : Nat} (hl : match ag with | true => l = n ∧ v = .a cs | false => l = 1 ∧ ∃ c, cs = [c] ∧ v = .c c) (hr : ReadOk xs off l nm cs news) (hK : K [(k, q)] { out := v, news }) : Has P C nm h ev o K := by
  refine ⟨_, _, fun x hx => by simp only [List.mem_cons, List.not_mem_nil, or_false] at hx; subst hx; exact hk, ?_, hK⟩
  intro g ρ f w hT hf hW hE
  obtain ⟨fz, hW⟩ := hW
  have hg := hT _ (List.mem_singleton.2 rfl)
  have hL := hW.lies hg hd
  obtain ⟨ρ', vs, ha, hW', hlen, hc, hrep⟩ := hr hW hL hf
  have hfx : f x = .pointer (some ⟨(ρ k).b, (ρ k).o + off, none⟩) := (hE x _ hx).here
  cases ag with
  | true =>
    obtain ⟨rfl, rfl⟩ := hl
    have hl2 := run_loadCells_list (P := P) w ⟨(ρ k).b, (ρ k).o + off, none⟩ vs (fun j v hv => by
      rw [addr_add_own, Nat.add_assoc]
      exact hc j v hv)
    rw [hlen] at hl2
    refine ⟨ρ', .agg vs.toArray, w, ha, .inl ?_, fun ρ'' hag => ⟨vs, rfl, hrep ρ'' hag⟩, fz, hW'⟩
    simp [execOp, ho, hfx, Instr.loadAt, Instr.sureAddr, loadVar, run_isAgg hag, run_sizeOf hn, hl2]
  | false =>
    obtain ⟨rfl, c, rfl, rfl⟩ := hl
    match vs, hlen with
    | [v], _ =>
      refine ⟨ρ', v, w, ha, .inl ?_, fun ρ'' hag => (hrep ρ'' hag).1, fz, hW'⟩
      have := hc 0 v rfl
      rw [Nat.add_zero] at this
      simp [execOp, ho, hfx, Instr.loadAt, Instr.sureAddr, loadVar, run_isAgg hag, this]

theorem loadS_sound {t : TypeId} {x : Operand} (ho : o.op = .load t x) (hs : loadS P nm h ev t x K) : Has P C nm h ev o K := by
  unfold loadS at hs
  split at hs
  · rename_i k off ag n hx hag hn
    split at hs
    · rename_i l t0 m hk
      split at hs
      · obtain ⟨hle, hK⟩ := hs.out
        simp only [decide_eq_true_eq] at hle
        refine has_look hk hK fun g ρ f w hg hW hE => ?_
        obtain ⟨fz, hW⟩ := hW
        have hfx : f x = .pointer (some ⟨(ρ k).b, (ρ k).o + off, none⟩) := (hE x _ hx).here
        obtain ⟨h0, vs, tail, h1, _, h3⟩ := hW.cellsAt hg
        rw [h0, Nat.zero_add] at hfx
        have hsz : vs.length = l.length := h3.here.length
        refine ⟨.agg ((vs.drop off).take n).toArray, ?_, fun ρ' ha => ⟨_, rfl, ((h3 ρ' ha).drop).take⟩⟩
        have hlen : ((vs.drop off).take n).length = n := by simp; omega
        have hl := run_loadCells_list (P := P) w ⟨(ρ k).b, off, none⟩ ((vs.drop off).take n) (fun j v hv => by
          rw [addr_add_own, h1.cell]
          rw [List.getElem?_take] at hv
          split at hv
          · simp only [List.getElem?_drop] at hv
            simp [List.getElem?_append_left (show off + j < vs.length by omega), hv]
          · cases hv)
        rw [hlen] at hl
        simp [execOp, ho, hfx, Instr.loadAt, Instr.sureAddr, loadVar, run_isAgg hag, run_sizeOf hn, hl]
      · split at hs
        · rename_i y hy
          refine has_look hk hs fun g ρ f w hg hW hE => ?_
          obtain ⟨fz, hW⟩ := hW
          have hfx : f x = .pointer (some ⟨(ρ k).b, (ρ k).o + off, none⟩) := (hE x _ hx).here
          obtain ⟨h0, vs, tail, h1, _, h3⟩ := hW.cellsAt hg
          rw [h0, Nat.zero_add] at hfx
          obtain ⟨v, hv, _⟩ := h3.here.get hy
          refine ⟨v, ?_, fun ρ' ha => ?_⟩
          · have hl : w.cell? ⟨(ρ k).b, off, none⟩ = some v := by
              rw [h1.cell]
              simp [List.getElem?_append_left (given_lt hv), hv]
            simp [execOp, ho, hfx, Instr.loadAt, Instr.sureAddr, loadVar, run_isAgg hag, hl]
          · obtain ⟨v', hv', hr⟩ := (h3 ρ' ha).get hy
            rw [hv] at hv'
            cases hv'
            exact hr
        · exact hs.elim
    · rename_i xs t0 m hk
      split at hs
      · split at hs
        · rename_i n0 _
          obtain ⟨vs, ⟨rfl, hln⟩, hK⟩ := hs
          refine has_look hk hK fun g ρ f w hg hW hE => ?_
          obtain ⟨fz, hW⟩ := hW
          have hfx : f x = .pointer (some ⟨(ρ k).b, (ρ k).o + 0, none⟩) := (hE x _ hx).here
          obtain ⟨h0, us, tail, h1, _, h3⟩ := (hW.objs k _ hg : SO.Rep _ _ _ _ _ _)
          obtain rfl := h3.vals_eq
          rw [h0] at hfx
          refine ⟨.agg us.toArray, ?_, fun ρ' ha => rfl⟩
          have hl := run_loadCells_list (P := P) w ⟨(ρ k).b, 0, none⟩ us (fun j v hv => by
            rw [addr_add_own, Nat.zero_add, (h1 trivial).cell]
            simp [List.getElem?_append_left (given_lt hv), hv])
          rw [hln] at hl
          simp [execOp, ho, hfx, Instr.loadAt, Instr.sureAddr, loadVar, run_isAgg hag, run_sizeOf hn, hl]
        · obtain ⟨hlen, hs⟩ := hs.out
          simp only [decide_eq_true_eq] at hlen
          obtain ⟨cs, news, hK, hr⟩ := rowCells_sound hs
          exact load_data (xs := xs) (v := .a cs) ho hx hag hn hk rfl ⟨hlen, rfl⟩ hr hK
      · split at hs
        · obtain ⟨c, news, hK, hr⟩ := rowCell_sound hs
          exact load_data (xs := xs) (v := .c c) ho hx hag hn hk rfl ⟨rfl, c, rfl, rfl⟩ hr hK
        · exact hs.elim
    · rename_i xs hk
      split at hs
      · obtain ⟨hlen, hs⟩ := hs.out
        simp only [decide_eq_true_eq] at hlen
        obtain ⟨cs, news, hK, hr⟩ := rowCells_sound hs
        exact load_data (xs := xs) (v := .a cs) ho hx hag hn hk rfl ⟨hlen, rfl⟩ hr hK
      · split at hs
        · obtain ⟨c, news, hK, hr⟩ := rowCell_sound hs
          exact load_data (xs := xs) (v := .c c) ho hx hag hn hk rfl ⟨rfl, c, rfl, rfl⟩ hr hK
        · exact hs.elim
    · exact hs.elim
  · exact hs.elim
end
end Go.Sy
