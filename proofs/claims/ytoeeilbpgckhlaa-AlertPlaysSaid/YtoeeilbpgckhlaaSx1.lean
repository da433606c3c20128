/- A symbolic run of the model's machine: what the symbols mean. Over whatever program; no project text. -/
import Derived.Calls
import Derived.Orders
import Derived.Laws.World
import Derived.Tactics
namespace Go.Sx
open Go

/-- One cell, by symbols: an actual value · a bool that is known · a pointer into block 'k' of our own (k a name, not a number) · a slice of it · a function value with captured pointers. -/
inductive SC where
  | v (x : Value)
  | b (z : Bool)
  | p (k off : Nat)
  | s (k off len cap : Nat)
  | f (fn : FuncId) (caps : List (Nat × Nat))

/-- A value, by symbols: one cell, a struct or array, a tuple. -/
inductive SV where
  | c (x : SC)
  | a (cs : List SC)
  | t (vs : List (SC ⊕ List SC))

/-- A block of our own: its cells, its element type; or one that was handed away. -/
inductive SO where
  | cells (cs : List SC) (t : TypeId)
  | gone

/-- Our blocks, by name; 'none': a name that is not given yet. -/
abbrev SHeap := List (Option SO)

abbrev Ren := Nat → Nat

def SC.den (ρ : Ren) : SC → Value
  | .v x => x
  | .b z => .bool z
  | .p k o => .pointer (some ⟨ρ k, o, none⟩)
  | .s k o l c => .slice (some ⟨ρ k, o, none⟩) l c
  | .f fn caps => .func (.func fn) #[] (caps.map fun (k, o) => Value.pointer (some ⟨ρ k, o, none⟩)).toArray

def dens (ρ : Ren) (cs : List SC) : Array Value := (cs.map (SC.den ρ)).toArray

def den1 (ρ : Ren) : SC ⊕ List SC → Value
  | .inl x => x.den ρ
  | .inr cs => .agg (dens ρ cs)

def SV.den (ρ : Ren) : SV → Value
  | .c x => x.den ρ
  | .a cs => .agg (dens ρ cs)
  | .t vs => .tuple (vs.map (den1 ρ)).toArray

/-- Two namings agree on the names that are given. -/
def Ag (h : SHeap) (ρ ρ' : Ren) : Prop := ∀ (k : Nat) (q : SO), h[k]? = some (some q) → ρ' k = ρ k
/-- Every name given in h is given in g. -/
def Sub (h g : SHeap) : Prop := ∀ (k : Nat) (q : SO), h[k]? = some (some q) → ∃ q', g[k]? = some (some q')
theorem Sub.refl (h : SHeap) : Sub h h := fun _ q e => ⟨q, e⟩
theorem Sub.trans {a b c : SHeap} (h : Sub a b) (k : Sub b c) : Sub a c := fun j q e => let ⟨q', e'⟩ := h j q e; k j q' e'
theorem Ag.refl (h : SHeap) (ρ : Ren) : Ag h ρ ρ := fun _ _ _ => rfl
theorem Ag.trans {h : SHeap} {a b c : Ren} (x : Ag h a b) (y : Ag h b c) : Ag h a c := fun j q e => (y j q e).trans (x j q e)
theorem Ag.sub {h g : SHeap} {a b : Ren} (x : Ag g a b) (s : Sub h g) : Ag h a b := fun j q e => let ⟨q', e'⟩ := s j q e; x j q' e'

/-- The symbol 'v' stands for 'x', whatever the names that are not given are. -/
def VRep (h : SHeap) (ρ : Ren) (v : SV) (x : Value) : Prop := ∀ ρ', Ag h ρ ρ' → v.den ρ' = x
def CsRep (h : SHeap) (ρ : Ren) (l : List SC) (cs : Array Value) : Prop := ∀ ρ', Ag h ρ ρ' → dens ρ' l = cs

theorem VRep.here {h ρ v x} (r : VRep h ρ v x) : v.den ρ = x := r ρ (Ag.refl _ _)
theorem CsRep.here {h ρ v x} (r : CsRep h ρ v x) : dens ρ v = x := r ρ (Ag.refl _ _)
theorem VRep.later {h g ρ ρ' v x} (r : VRep h ρ v x) (s : Sub h g) (ha : Ag h ρ ρ') : VRep g ρ' v x := fun q hq => r q (ha.trans (hq.sub s))
theorem CsRep.later {h g ρ ρ' v x} (r : CsRep h ρ v x) (s : Sub h g) (ha : Ag h ρ ρ') : CsRep g ρ' v x := fun q hq => r q (ha.trans (hq.sub s))

/-- What is fixed over a run: the program, the world at its begin, how many blocks that were there are ours (their names are 0 .. n0 - 1), which they are. -/
structure Cfg where
  P : Program
  w0 : World
  n0 : Nat
  ρ0 : Ren

/-- The heap by symbols, held against a world. -/
structure WRep (C : Cfg) (ρ : Ren) (h : SHeap) (w : World) : Prop where
  pre : ∀ k, k < C.n0 → ρ k = C.ρ0 k ∧ ∃ q, h[k]? = some (some q)
  objs : ∀ (k : Nat) l t, h[k]? = some (some (.cells l t)) → ∃ cs, w.heap[ρ k]? = some (.cells cs t (0, 0)) ∧ CsRep h ρ l cs
  inj : ∀ (j k : Nat) l t l' t', h[j]? = some (some (.cells l t)) → h[k]? = some (some (.cells l' t')) → ρ j = ρ k → j = k
  new : ∀ (k : Nat) l t, h[k]? = some (some (.cells l t)) → C.n0 ≤ k → C.w0.heap.size ≤ ρ k
  block : ∀ b, b < C.w0.heap.size → (∀ k, k < C.n0 → b ≠ C.ρ0 k) → w.heap[b]? = C.w0.heap[b]?
  size : C.w0.heap.size ≤ w.heap.size
  os : w.os = C.w0.os
  tape : w.tape = C.w0.tape
  output : w.output = C.w0.output

abbrev STmps := List (Option SV)

def TRep (h : SHeap) (ρ : Ren) (ts : STmps) (tmps : Array Value) : Prop :=
  tmps.size = ts.length ∧ ∀ (t : Nat) (v : SV), ts[t]? = some (some v) → ∃ x, tmps[t]? = some x ∧ VRep h ρ v x

theorem TRep.later {h g ρ ρ' ts tmps} (r : TRep h ρ ts tmps) (s : Sub h g) (ha : Ag h ρ ρ') : TRep g ρ' ts tmps :=
  ⟨r.1, fun t v hv => let ⟨x, hx, hr⟩ := r.2 t v hv; ⟨x, hx, hr.later s ha⟩⟩

/-- An operand, by symbols. -/
def sev (ts : STmps) : Operand → Option SV
  | .tmp t => match ts[t]? with | some (some v) => some v | _ => none
  | .const v => match v with | .bool b => some (.c (.b b)) | _ => some (.c (.v v))
  | .global g => some (.c (.v (.pointer (some ⟨g, 0, none⟩))))
  | .func f => some (.c (.v (.func (.func f) #[] #[])))

/-- What the operands' symbols say of a frame. -/
def ERep (h : SHeap) (ρ : Ren) (ev : Operand → Option SV) (e : Operand → Value) : Prop := ∀ x v, ev x = some v → VRep h ρ v (e x)

theorem TRep.erep {h ρ ts} {a : Act} (r : TRep h ρ ts a.tmps) : ERep h ρ (sev ts) a.eval := fun x v hx => by
  cases x with
  | tmp t =>
    simp only [sev] at hx
    split at hx
    · rename_i u hu
      cases hx
      obtain ⟨x, hx, hr⟩ := r.2 t v hu
      intro r ha
      simp [Act.eval, Array.getD_eq_getD_getElem?, hx, hr r ha]
    · cases hx
  | const u => simp only [sev] at hx; split at hx <;> (cases hx; exact fun _ _ => rfl)
  | global g => cases hx; exact fun _ _ => rfl
  | func f => cases hx; exact fun _ _ => rfl

def upd (ρ : Ren) (k b : Nat) : Ren := fun j => if j = k then b else ρ j
theorem upd_same (ρ : Ren) (k b : Nat) : upd ρ k b k = b := by simp [upd]
theorem upd_other (ρ : Ren) {k j : Nat} (b : Nat) (h : j ≠ k) : upd ρ k b j = ρ j := by simp [upd, h]

/-- What an operation does to our heap. -/
inductive HE where
  | none
  | set (k : Nat) (o : SO)
  | new (o : SO)

/-- What an operation leaves: its value; what it does to the heap. -/
structure Eff where
  out : SV
  he : HE := .none

def HE.run : HE → Nat → SHeap → SHeap
  | .none, _, h => h
  | .set k o, _, h => h.set k (some o)
  | .new o, nm, h => h.set nm (some o)

def HE.ren : HE → Nat → Ren → Nat → Ren
  | .new _, nm, ρ, b => upd ρ nm b
  | _, _, ρ, _ => ρ

theorem HE.run_length (e : HE) (nm : Nat) (h : SHeap) : (e.run nm h).length = h.length := by cases e <;> simp [HE.run]

theorem upd_ag {h : SHeap} {ρ : Ren} {nm b : Nat} (hn : h[nm]? = some none) : Ag h ρ (upd ρ nm b) := fun k q e => by
  have : k ≠ nm := fun e' => by rw [e', hn] at e; cases e
  exact upd_other ρ b this
theorem sub_set {h : SHeap} {k : Nat} {o : SO} : Sub h (h.set k (some o)) := fun j q e => by
  by_cases hj : j = k
  · subst hj
    have : j < h.length := by
      rcases Nat.lt_or_ge j h.length with h' | h'
      · exact h'
      · simp [List.getElem?_eq_none h'] at e
    exact ⟨o, by simp [this]⟩
  · exact ⟨q, by rw [List.getElem?_set_ne (Ne.symm hj)]; exact e⟩

/-- THE WORD OF AN OPERATION: wherever its operands stand for what 'ev' says, the block that it looks at (T) holds what T says, and 'nm' is a name not yet given, it runs, leaves the value and does to the heap what 'e' says. -/
def OpOk (C : Cfg) (nm : Nat) (o : Oper) (ev : Operand → Option SV) (T : Option (Nat × SO)) (e : Eff) : Prop :=
  ∀ (h : SHeap) (ρ : Ren) (f : Operand → Value) (w : World), (∀ k q, T = some (k, q) → h[k]? = some (some q)) → h[nm]? = some none →
    WRep C ρ h w → ERep h ρ ev f →
    ∃ x w', ((execOp f o).run C.P w = .ok (.value x) w' ∨ ((execOp f o).run C.P w = .ok .skip w' ∧ x = undef)) ∧
      VRep (e.he.run nm h) (e.he.ren nm ρ w.heap.size) e.out x ∧ WRep C (e.he.ren nm ρ w.heap.size) (e.he.run nm h) w'

end Go.Sx
