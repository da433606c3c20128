/- A symbolic run of the model's machine, second making: what the symbols mean. Over whatever program; no project text. -/
import Derived.Calls
import Derived.Orders
import Derived.Laws.World
import Derived.Tactics
import Derived.Laws.Tables
import Derived.Laws.Rows
import Derived.Laws.CopyRow
namespace Go.Sy
open Go

/-! ### rows of cells in a world: none of them may be shared by a string -/
def FrOk (fr : Nat × Nat) (n : Nat) : Prop := ∀ j, j < n → ¬ (fr.1 ≤ j ∧ j < fr.2)
def HoldsC (w : World) (b : Nat) (t : TypeId) (cs : List Value) : Prop := ∃ fr, w.heap[b]? = some (.cells cs.toArray t fr) ∧ FrOk fr cs.length
section
variable {w w' : World} {b : Nat} {t : TypeId} {cs : List Value}
theorem HoldsC.lt (h : HoldsC w b t cs) : b < w.heap.size := let ⟨_, h, _⟩ := h; (Array.getElem?_eq_some_iff.1 h).1
theorem HoldsC.cell (h : HoldsC w b t cs) (j : Nat) : w.cell? ⟨b, j, none⟩ = cs[j]? := by
  obtain ⟨fr, h, _⟩ := h
  rw [cell_of_row w b j _ t fr h]
  simp
theorem HoldsC.later (h : HoldsC w b t cs) (hw : w'.heap[b]? = w.heap[b]?) : HoldsC w' b t cs := let ⟨fr, h, k⟩ := h; ⟨fr, by rw [hw]; exact h, k⟩
theorem HoldsC.alloc (w : World) (t : TypeId) (cs : List Value) : HoldsC (w.alloc (.cells cs.toArray t)) w.heap.size t cs := ⟨(0, 0), heap_alloc_new w _, fun j _ h => by simp at h⟩
theorem HoldsC.write {P : Program} : ∀ (vs : List Value) (i : Nat) {o : Nat} {cs : List Value} {w : World}, HoldsC w b t cs → o + i + vs.length ≤ cs.length → (∀ v ∈ vs, v.oneCell' = true) →
    (storeCells ⟨b, o, none⟩ vs i).run P w = .ok () (w.setRow b (cs.take (o + i) ++ vs ++ cs.drop (o + i + vs.length)).toArray) ∧
      HoldsC (w.setRow b (cs.take (o + i) ++ vs ++ cs.drop (o + i + vs.length)).toArray) b t (cs.take (o + i) ++ vs ++ cs.drop (o + i + vs.length))
  | [], i, o, cs, w, hg, hl, _ => by
    obtain ⟨fr, hg, hf⟩ := hg
    have e : cs.take (o + i) ++ [] ++ cs.drop (o + i + ([] : List Value).length) = cs := by simp
    rw [e, setRow_self w b cs.toArray t fr hg]
    exact ⟨rfl, fr, hg, hf⟩
  | v :: rest, i, o, cs, w, hg, hl, h1 => by
    obtain ⟨fr, hg, hf⟩ := hg
    have hi : o + i < cs.length := by simp at hl; omega
    have hadd : (⟨b, o, none⟩ : Addr).add i = ⟨b, o + i, none⟩ := by unfold Addr.add; split <;> simp_all
    have hcell : w.cell? ⟨b, o + i, none⟩ = some cs[o + i] := by simp [World.cell?, hg, hi]
    have hfro : w.frozen? ⟨b, o + i, none⟩ = false := by
      have := hf _ hi
      simp only [World.frozen?, hg]
      simpa using this
    have hst : (store ((⟨b, o, none⟩ : Addr).add i) v).run P w = .ok () (w.setRow b (cs.set (o + i) v).toArray) := by
      rw [hadd, run_store P w _ v _ (h1 v (by simp)), hcell]
      simp [hfro, setCell_eq_setRow w b (o + i) cs.toArray t fr v hg]
    have hr1 : (w.setRow b (cs.set (o + i) v).toArray).heap[b]? = some (.cells (cs.set (o + i) v).toArray t fr) := setRow_heap w b cs.toArray _ t _ hg
    obtain ⟨ih, ih2⟩ := HoldsC.write (P := P) rest (i + 1) (o := o) (cs := cs.set (o + i) v) (w := w.setRow b (cs.set (o + i) v).toArray) ⟨fr, hr1, by simpa using hf⟩ (by simp at hl ⊢; omega) (fun x hx => h1 x (by simp [hx]))
    have e := list_seg_step cs (o + i) v rest (by simp at hl ⊢; omega)
    rw [setRow_setRow] at ih ih2
    have e' : (cs.set (o + i) v).take (o + (i + 1)) ++ rest ++ (cs.set (o + i) v).drop (o + (i + 1) + rest.length) = cs.take (o + i) ++ (v :: rest) ++ cs.drop (o + i + (v :: rest).length) := by
      rw [show o + (i + 1) = o + i + 1 from by omega, e]
      simp [Nat.add_assoc]
    rw [e'] at ih ih2
    refine ⟨?_, ih2⟩
    simp only [storeCells, Sem.run_bind, hst, Result.andThen_ok, ih]
end

/-- Where a block lies, where in it the row begins, how many elements there is room for. -/
structure Blk where
  b : Nat
  o : Nat
  cap : Nat
abbrev Ren := Nat → Blk

/-- A slice's room: a number; or the block's, less so many. -/
inductive Cap where
  | lit (n : Nat)
  | hid (d : Nat)
def Cap.den (x : Blk) : Cap → Nat
  | .lit n => n
  | .hid d => x.cap - d
/-- How much lies behind the known cells: a number; or what the block's room has left, elements of so many cells. -/
inductive Tail where
  | kn (m : Nat)
  | hid (es : Nat)
def Tail.Ok (x : Blk) (n tail : Nat) : Tail → Prop
  | .kn m => tail = m
  | .hid es => n + tail = x.cap * es

/-- Data: a plain cell, or a slice of so many elements with its cells. -/
inductive D where
  | v (x : Value)
  | s (len : Nat) (cs : List D)

/-- One cell, by symbols: an actual value · one that is known · a Bool that is known · a pointer into block 'k' · a slice of it · a function value with captured pointers · the body of a loop over a function. -/
inductive SC where
  | v (x : Value)
  | kv (x : Value)
  | b (z : Bool)
  | p (k off : Nat)
  | s (k off len : Nat) (cap : Cap)
  | f (fn : FuncId) (caps : List (Nat × Nat))
  | y (k : Nat)

/-- A value, by symbols: one cell, a struct or array, the same with its cells a list, a tuple. -/
inductive SV where
  | c (x : SC)
  | a (cs : List SC)
  | al (xs : List Value)
  | t (vs : List (SC ⊕ List SC))

abbrev STmps := List (Option SV)

/-- A loop over a function. -/
structure SLoop where
  state : LoopState
  pending : Option Code
  fn : FuncId
  tmps : STmps
  params : List Tmp
  assign : Code
  body : Code
  dn : Nat

/-- A block: explicit cells · a list of data · data that nobody changes any more · one that is looked at no more · a loop over a function · its deferred calls. -/
inductive SO where
  | cells (cs : List SC) (t : TypeId) (more : Tail)
  | row (xs : List D) (t : TypeId) (more : Tail)
  | ice (xs : List D)
  | gone
  | loop (l : SLoop)
  | dfr (live : Bool)

/-- Our blocks, by name; 'none': a name that is not given yet. -/
abbrev SHeap := List (Option SO)

def capV (ρ : Ren) (c : Nat × Nat) : Value := .pointer (some ⟨(ρ c.1).b, (ρ c.1).o + c.2, none⟩)
def SC.R (ρ : Ren) : SC → Value → Prop
  | .v x, u => u = x
  | .kv x, u => u = x
  | .b z, u => u = .bool z
  | .p k o, u => u = .pointer (some ⟨(ρ k).b, (ρ k).o + o, none⟩)
  | .s k o l c, u => ∃ a, u = .slice a l (c.den (ρ k)) ∧ l ≤ c.den (ρ k) ∧ (0 < c.den (ρ k) → a = some ⟨(ρ k).b, (ρ k).o + o, none⟩)
  | .f fn caps, u => u = .func (.func fn) #[] (caps.map (capV ρ)).toArray
  | .y k, u => u = .func (.yield (ρ k).b) #[] #[]

/-- Cells, one for one. -/
def CsR (ρ : Ren) : List SC → List Value → Prop
  | [], [] => True
  | c :: cs, v :: vs => c.R ρ v ∧ CsR ρ cs vs
  | _, _ => False
def R1 (ρ : Ren) : SC ⊕ List SC → Value → Prop
  | .inl x, y => x.R ρ y
  | .inr cs, y => ∃ vs : List Value, y = .agg vs.toArray ∧ CsR ρ cs vs
def TsR (ρ : Ren) : List (SC ⊕ List SC) → List Value → Prop
  | [], [] => True
  | c :: cs, v :: vs => R1 ρ c v ∧ TsR ρ cs vs
  | _, _ => False
def SV.R (ρ : Ren) : SV → Value → Prop
  | .c x, y => x.R ρ y
  | .a cs, y => ∃ vs : List Value, y = .agg vs.toArray ∧ CsR ρ cs vs
  | .al xs, y => y = .agg xs.toArray
  | .t vs, y => ∃ us : List Value, y = .tuple us.toArray ∧ TsR ρ vs us

/-- Two namings agree on the names that are given. -/
def Ag (h : SHeap) (ρ ρ' : Ren) : Prop := ∀ (k : Nat) (q : SO), h[k]? = some (some q) → ρ' k = ρ k
/-- Every name given in h is given in g. -/
def Sub (h g : SHeap) : Prop := ∀ (k : Nat) (q : SO), h[k]? = some (some q) → ∃ q', g[k]? = some (some q')
theorem Sub.refl (h : SHeap) : Sub h h := fun _ q e => ⟨q, e⟩
theorem Sub.trans {a b c : SHeap} (h : Sub a b) (k : Sub b c) : Sub a c := fun j q e => let ⟨q', e'⟩ := h j q e; k j q' e'
theorem Ag.refl (h : SHeap) (ρ : Ren) : Ag h ρ ρ := fun _ _ _ => rfl
theorem Ag.trans {h : SHeap} {a b c : Ren} (x : Ag h a b) (y : Ag h b c) : Ag h a c := fun j q e => (y j q e).trans (x j q e)
theorem Ag.sub {h g : SHeap} {a b : Ren} (x : Ag g a b) (s : Sub h g) : Ag h a b := fun j q e => let ⟨q', e'⟩ := s j q e; x j q' e'

/-- The symbol 'v' stands for 'x', whatever the names that are not given are. -/
def VRep (h : SHeap) (ρ : Ren) (v : SV) (x : Value) : Prop := ∀ ρ', Ag h ρ ρ' → v.R ρ' x
def CRep (h : SHeap) (ρ : Ren) (l : List SC) (cs : List Value) : Prop := ∀ ρ', Ag h ρ ρ' → CsR ρ' l cs
theorem VRep.here {h ρ v x} (r : VRep h ρ v x) : v.R ρ x := r ρ (Ag.refl _ _)
theorem CRep.here {h ρ v x} (r : CRep h ρ v x) : CsR ρ v x := r ρ (Ag.refl _ _)
theorem VRep.later {h g ρ ρ' v x} (r : VRep h ρ v x) (s : Sub h g) (ha : Ag h ρ ρ') : VRep g ρ' v x := fun q hq => r q (ha.trans (hq.sub s))
theorem CRep.later {h g ρ ρ' v x} (r : CRep h ρ v x) (s : Sub h g) (ha : Ag h ρ ρ') : CRep g ρ' v x := fun q hq => r q (ha.trans (hq.sub s))

theorem CsR.length {ρ : Ren} : ∀ {cs : List SC} {vs : List Value}, CsR ρ cs vs → vs.length = cs.length
  | [], [], _ => rfl
  | _ :: cs, _ :: vs, ⟨_, h⟩ => by simp [CsR.length h]
  | [], _ :: _, h => h.elim
  | _ :: _, [], h => h.elim
theorem CsR.get {ρ : Ren} : ∀ {cs : List SC} {vs : List Value}, CsR ρ cs vs → ∀ {i : Nat} {c : SC}, cs[i]? = some c → ∃ v, vs[i]? = some v ∧ c.R ρ v
  | _ :: _, v :: _, ⟨a, _⟩, 0, c, h => by simp at h; subst h; exact ⟨v, rfl, a⟩
  | _ :: _, _ :: _, ⟨_, b⟩, i + 1, c, h => by simpa using CsR.get b (by simpa using h)
  | [], [], _, i, c, h => by simp at h
  | [], _ :: _, h, _, _, _ => h.elim
  | _ :: _, [], h, _, _, _ => h.elim
theorem CsR.append {ρ : Ren} : ∀ {a : List SC} {x : List Value} {b : List SC} {y : List Value}, CsR ρ a x → CsR ρ b y → CsR ρ (a ++ b) (x ++ y)
  | [], [], _, _, _, h => h
  | _ :: _, _ :: _, _, _, ⟨p, q⟩, h => ⟨p, CsR.append q h⟩
  | [], _ :: _, _, _, h, _ => h.elim
  | _ :: _, [], _, _, h, _ => h.elim
theorem CsR.take {ρ : Ren} : ∀ {n : Nat} {a : List SC} {x : List Value}, CsR ρ a x → CsR ρ (a.take n) (x.take n)
  | 0, _, _, _ => by simp [CsR]
  | _ + 1, [], [], _ => by simp [CsR]
  | _ + 1, _ :: _, _ :: _, ⟨p, q⟩ => ⟨p, CsR.take q⟩
  | _ + 1, [], _ :: _, h => h.elim
  | _ + 1, _ :: _, [], h => h.elim
theorem CsR.drop {ρ : Ren} : ∀ {n : Nat} {a : List SC} {x : List Value}, CsR ρ a x → CsR ρ (a.drop n) (x.drop n)
  | 0, _, _, h => h
  | _ + 1, [], [], _ => by simp [CsR]
  | _ + 1, _ :: _, _ :: _, ⟨_, q⟩ => by simpa using CsR.drop q
  | _ + 1, [], _ :: _, h => h.elim
  | _ + 1, _ :: _, [], h => h.elim
theorem CsR.of_get {ρ : Ren} : ∀ {cs : List SC} {vs : List Value}, vs.length = cs.length → (∀ (i : Nat) c, cs[i]? = some c → ∃ v, vs[i]? = some v ∧ c.R ρ v) → CsR ρ cs vs
  | [], [], _, _ => trivial
  | c :: cs, v :: vs, hl, h => ⟨by obtain ⟨u, hu, hr⟩ := h 0 c rfl; simp at hu; subst hu; exact hr, CsR.of_get (by simpa using hl) fun i c' hc => by simpa using h (i + 1) c' (by simpa using hc)⟩
  | [], _ :: _, hl, _ => by simp at hl
  | _ :: _, [], hl, _ => by simp at hl
theorem CsR.vals {ρ : Ren} : ∀ (l : List Value), CsR ρ (l.map .v) l
  | [] => trivial
  | _ :: r => ⟨rfl, CsR.vals r⟩
theorem CsR.vals_eq {ρ : Ren} : ∀ {l vs : List Value}, CsR ρ (l.map .v) vs → vs = l
  | [], [], _ => rfl
  | _ :: r, _ :: _, ⟨a, b⟩ => by rw [show _ = _ from a, CsR.vals_eq b]
  | [], _ :: _, h => h.elim
  | _ :: _, [], h => h.elim

/-- A value of a world stands for a datum; 'fz': the blocks that nobody changes any more. -/
inductive DRep (w : World) (fz : Nat → Prop) : D → Value → Prop where
  | v (x : Value) (ho : x.oneCell' = true) : DRep w fz (.v x) x
  | s (a : Option Addr) (len : Nat) (cs : List D) (vals : Nat → Value) (bl : Blk) (hl : len ≤ bl.cap) (ha : 0 < bl.cap → a = some ⟨bl.b, bl.o, none⟩)
      (hz : ∀ (j : Nat) (d : D), cs[j]? = some d → fz bl.b)
      (hc : ∀ (j : Nat) (d : D), cs[j]? = some d → w.cell? ⟨bl.b, bl.o + j, none⟩ = some (vals j))
      (hd : ∀ (j : Nat) (d : D), cs[j]? = some d → DRep w fz d (vals j)) : DRep w fz (.s len cs) (.slice a len bl.cap)

theorem DRep.later {w w' : World} {fz fz' : Nat → Prop} {d : D} {x : Value} (h : DRep w fz d x) (hw : ∀ b, fz b → w'.heap[b]? = w.heap[b]?) (hz : ∀ b, fz b → fz' b) : DRep w' fz' d x := by
  induction h with
  | v x ho => exact .v x ho
  | s a len cs vals bl hl ha hzz hc hd ih =>
    refine .s a len cs vals bl hl ha (fun j d hj => hz _ (hzz j d hj)) (fun j d hj => ?_) ih
    rw [← hc j d hj]
    simp only [World.cell?]
    rw [hw _ (hzz j d hj)]

theorem DRep.one {w : World} {fz : Nat → Prop} {d : D} {x : Value} (h : DRep w fz d x) : x.oneCell' = true := by
  cases h with
  | v _ ho => exact ho
  | s => rfl
/-- Cells that hold data. -/
def DsRep (w : World) (fz : Nat → Prop) (xs : List D) (cs : List Value) : Prop := cs.length = xs.length ∧ ∀ (i : Nat) (d : D) (v : Value), xs[i]? = some d → cs[i]? = some v → DRep w fz d v
theorem DsRep.later {w w' : World} {fz fz' : Nat → Prop} {xs : List D} {cs : List Value} (h : DsRep w fz xs cs) (hw : ∀ b, fz b → w'.heap[b]? = w.heap[b]?) (hz : ∀ b, fz b → fz' b) : DsRep w' fz' xs cs :=
  ⟨h.1, fun i d v h1 h2 => (h.2 i d v h1 h2).later hw hz⟩
theorem DsRep.append {w : World} {fz : Nat → Prop} {xs ys : List D} {cs ds : List Value} (h : DsRep w fz xs cs) (k : DsRep w fz ys ds) : DsRep w fz (xs ++ ys) (cs ++ ds) := by
  refine ⟨by simp [h.1, k.1], fun i d v h1 h2 => ?_⟩
  rcases Nat.lt_or_ge i xs.length with hi | hi
  · rw [List.getElem?_append_left hi] at h1
    rw [List.getElem?_append_left (by rw [h.1]; exact hi)] at h2
    exact h.2 i d v h1 h2
  · rw [List.getElem?_append_right hi] at h1
    rw [List.getElem?_append_right (by rw [h.1]; exact hi), h.1] at h2
    exact k.2 _ d v h1 h2
theorem DsRep.take {w : World} {fz : Nat → Prop} {xs : List D} {cs : List Value} (n : Nat) (h : DsRep w fz xs cs) : DsRep w fz (xs.take n) (cs.take n) := by
  refine ⟨by simp [h.1], fun i d v h1 h2 => ?_⟩
  rw [List.getElem?_take] at h1 h2
  split at h1
  · rename_i hi
    rw [if_pos hi] at h2
    exact h.2 i d v h1 h2
  · cases h1
theorem DsRep.drop {w : World} {fz : Nat → Prop} {xs : List D} {cs : List Value} (n : Nat) (h : DsRep w fz xs cs) : DsRep w fz (xs.drop n) (cs.drop n) := by
  refine ⟨by simp [h.1], fun i d v h1 h2 => ?_⟩
  rw [List.getElem?_drop] at h1 h2
  exact h.2 _ d v h1 h2
theorem DsRep.set {w : World} {fz : Nat → Prop} {xs : List D} {cs : List Value} (n : Nat) {d : D} {v : Value} (h : DsRep w fz xs cs) (hd : DRep w fz d v) : DsRep w fz (xs.set n d) (cs.set n v) := by
  refine ⟨by simp [h.1], fun i d' v' h1 h2 => ?_⟩
  by_cases hi : n = i
  · subst hi
    rw [List.getElem?_set] at h1 h2
    simp only [if_true] at h1 h2
    split at h1
    · split at h2
      · cases h1; cases h2; exact hd
      · cases h2
    · cases h1
  · rw [List.getElem?_set_ne hi] at h1 h2
    exact h.2 i d' v' h1 h2
theorem DsRep.vals (w : World) (fz : Nat → Prop) (l : List Value) (ho : ∀ v ∈ l, v.oneCell' = true) : DsRep w fz (l.map .v) l := by
  refine ⟨by simp, fun i d v h1 h2 => ?_⟩
  simp only [List.getElem?_map, h2, Option.map_some, Option.some.injEq] at h1
  subst h1
  exact .v v (ho v (List.mem_of_getElem? h2))
theorem DsRep.one {w : World} {fz : Nat → Prop} {xs : List D} {cs : List Value} (h : DsRep w fz xs cs) : ∀ v ∈ cs, v.oneCell' = true := fun v hv => by
  obtain ⟨i, hi⟩ := List.mem_iff_getElem?.1 hv
  have hlt : i < xs.length := by rw [← h.1]; exact (List.getElem?_eq_some_iff.1 hi).1
  exact (h.2 i xs[i] v (by simp [hlt]) hi).one
theorem DsRep.vals_eq {w : World} {fz : Nat → Prop} {l cs : List Value} (h : DsRep w fz (l.map .v) cs) : cs = l := by
  apply List.ext_getElem?
  intro i
  rcases Nat.lt_or_ge i cs.length with hi | hi
  · have hl : i < l.length := by have := h.1; simp at this; omega
    have := h.2 i (.v l[i]) cs[i] (by simp [hl]) (by simp [hi])
    rw [List.getElem?_eq_getElem hi, List.getElem?_eq_getElem hl]
    generalize cs[i] = y at this
    cases this
    rfl
  · rw [List.getElem?_eq_none hi, List.getElem?_eq_none (by have := h.1; simp at this; omega)]

/-- What is fixed over a run: the world at its begin; how many names are given then, which; which of the blocks that were there are ours to change; which nobody changes any more. -/
structure Cfg where
  w0 : World
  n0 : Nat
  ρ0 : Ren
  own : Nat → Prop
  fz0 : Nat → Prop

def TRep (h : SHeap) (ρ : Ren) (ts : STmps) (tmps : Array Value) : Prop :=
  tmps.size = ts.length ∧ ∀ (t : Nat) (v : SV), ts[t]? = some (some v) → ∃ x, tmps[t]? = some x ∧ VRep h ρ v x
theorem TRep.later {h g ρ ρ' ts tmps} (r : TRep h ρ ts tmps) (s : Sub h g) (ha : Ag h ρ ρ') : TRep g ρ' ts tmps :=
  ⟨r.1, fun t v hv => let ⟨x, hx, hr⟩ := r.2 t v hv; ⟨x, hx, hr.later s ha⟩⟩

/-- Is the block there, ours to change? -/
def SO.here (x : Blk) : SO → Prop
  | .cells _ _ _ => True
  | .row _ _ (.kn _) => True
  | .row _ _ (.hid _) => 0 < x.cap
  | .loop _ => True
  | .dfr _ => True
  | .ice _ => False
  | .gone => False

/-- What a block's symbol says. -/
def SO.Rep (h : SHeap) (ρ : Ren) (w : World) (fz : Nat → Prop) (x : Blk) : SO → Prop
  | .cells cs t m => x.o = 0 ∧ ∃ vs tail : List Value, HoldsC w x.b t (vs ++ tail) ∧ m.Ok x vs.length tail.length ∧ CRep h ρ cs vs
  | .row xs t m => x.o = 0 ∧ ∃ vs tail : List Value, ((SO.row xs t m).here x → HoldsC w x.b t (vs ++ tail)) ∧ m.Ok x vs.length tail.length ∧ DsRep w fz xs vs
  | .ice xs => ∃ vals : Nat → Value, (∀ (j : Nat) (d : D), xs[j]? = some d → fz x.b) ∧ (∀ (j : Nat) (d : D), xs[j]? = some d → w.cell? ⟨x.b, x.o + j, none⟩ = some (vals j)) ∧ ∀ (j : Nat) (d : D), xs[j]? = some d → DRep w fz d (vals j)
  | .gone => True
  | .loop l => ∃ tmps, w.heap[x.b]? = some (.loop { state := l.state, pending := l.pending, fn := l.fn, tmps, params := l.params.toArray, assign := l.assign, body := l.body, defers := (ρ l.dn).b }) ∧
      TRep h ρ l.tmps tmps ∧ ∃ q, h[l.dn]? = some (some q)
  | .dfr true => w.heap[x.b]? = some (.deferred (some []))
  | .dfr false => w.heap[x.b]? = some (.deferred none)

theorem SO.Rep.later {h g : SHeap} {ρ ρ' : Ren} {w w' : World} {fz fz' : Nat → Prop} {x : Blk} {q : SO} (r : q.Rep h ρ w fz x) (s : Sub h g) (ha : Ag h ρ ρ')
    (hz : ∀ b, fz b → fz' b) (hw : ∀ b, fz b → w'.heap[b]? = w.heap[b]?) (hx : q.here x → w'.heap[x.b]? = w.heap[x.b]?) : q.Rep g ρ' w' fz' x := by
  cases q with
  | cells cs t m =>
    obtain ⟨h0, vs, tail, h1, h2, h3⟩ := r
    exact ⟨h0, vs, tail, h1.later (hx trivial), h2, h3.later s ha⟩
  | row xs t m =>
    obtain ⟨h0, vs, tail, h1, h2, h3⟩ := r
    exact ⟨h0, vs, tail, fun hh => (h1 hh).later (hx hh), h2, h3.later hw hz⟩
  | ice xs =>
    obtain ⟨vals, h1, h2, h3⟩ := r
    exact ⟨vals, fun j d hj => hz _ (h1 j d hj), fun j d hj => by rw [← h2 j d hj]; simp only [World.cell?]; rw [hw _ (h1 j d hj)], fun j d hj => (h3 j d hj).later hw hz⟩
  | gone => trivial
  | loop l =>
    obtain ⟨tmps, h1, h2, q, h3⟩ := r
    refine ⟨tmps, ?_, h2.later s ha, s _ _ h3⟩
    rw [hx trivial, h1, ha _ _ h3]
  | dfr b => cases b <;> exact (hx trivial).trans r

/-- The heap by symbols, held against a world. -/
structure WRepF (C : Cfg) (ρ : Ren) (h : SHeap) (w : World) (fz : Nat → Prop) : Prop where
  pre : ∀ k, k < C.n0 → ρ k = C.ρ0 k ∧ ∃ q, h[k]? = some (some q)
  objs : ∀ (k : Nat) (q : SO), h[k]? = some (some q) → q.Rep h ρ w fz (ρ k)
  inj : ∀ (j k : Nat) (q q' : SO), h[j]? = some (some q) → h[k]? = some (some q') → q.here (ρ j) → q'.here (ρ k) → (ρ j).b = (ρ k).b → j = k
  new : ∀ (k : Nat) (q : SO), h[k]? = some (some q) → q.here (ρ k) → C.own (ρ k).b ∨ C.w0.heap.size ≤ (ρ k).b
  frz : ∀ (k : Nat) (q : SO), h[k]? = some (some q) → q.here (ρ k) → ¬ fz (ρ k).b
  fznew : ∀ b, fz b → C.fz0 b ∨ C.own b ∨ C.w0.heap.size ≤ b
  fzlt : ∀ b, fz b → b < w.heap.size
  fzold : ∀ b, C.fz0 b → fz b
  block : ∀ b, b < C.w0.heap.size → ¬ C.own b → w.heap[b]? = C.w0.heap[b]?
  size : C.w0.heap.size ≤ w.heap.size
  os : w.os = C.w0.os
  tape : w.tape = C.w0.tape
  output : w.output = C.w0.output
def WRep (C : Cfg) (ρ : Ren) (h : SHeap) (w : World) : Prop := ∃ fz, WRepF C ρ h w fz

/-- A value of the text's own: its numbers, texts and Bools are known. -/
def tag (x : Value) : SC :=
  match x with
  | .bool b => .b b
  | .int k n => .kv (.int k n)
  | .string s => .kv (.string s)
  | x => .v x
theorem tag_R (x : Value) (ρ : Ren) : (tag x).R ρ x := by cases x <;> exact (rfl : _ = _)
theorem tag_R_eq {x y : Value} {ρ : Ren} (h : (tag x).R ρ y) : y = x := by cases x <;> exact h
/-- An operand, by symbols. -/
def sev (ts : STmps) : Operand → Option SV
  | .tmp t => match ts[t]? with | some (some v) => some v | _ => none
  | .const v => some (.c (tag v))
  | .global g => some (.c (.v (.pointer (some ⟨g, 0, none⟩))))
  | .func f => some (.c (.v (.func (.func f) #[] #[])))
/-- What the operands' symbols say of a frame. -/
def ERep (h : SHeap) (ρ : Ren) (ev : Operand → Option SV) (e : Operand → Value) : Prop := ∀ x v, ev x = some v → VRep h ρ v (e x)
theorem TRep.erep {h ρ ts} {a : Act} (r : TRep h ρ ts a.tmps) : ERep h ρ (sev ts) a.eval := fun x v hx => by
  cases x with
  | tmp t =>
    simp only [sev] at hx
    split at hx
    · rename_i u hu
      cases hx
      obtain ⟨x, hx, hr⟩ := r.2 t v hu
      intro r ha
      have := hr r ha
      simpa [Act.eval, Array.getD_eq_getD_getElem?, hx] using this
    · cases hx
  | const u => simp only [sev] at hx; cases hx; exact fun _ _ => tag_R _ _
  | global g => cases hx; exact fun _ _ => rfl
  | func f => cases hx; exact fun _ _ => rfl

def upd (ρ : Ren) (k : Nat) (b : Blk) : Ren := fun j => if j = k then b else ρ j
theorem upd_same (ρ : Ren) (k : Nat) (b : Blk) : upd ρ k b k = b := by simp [upd]
theorem upd_other (ρ : Ren) {k j : Nat} (b : Blk) (h : j ≠ k) : upd ρ k b j = ρ j := by simp [upd, h]
theorem upd_ag {h : SHeap} {ρ : Ren} {nm : Nat} {b : Blk} (hn : h[nm]? = some none) : Ag h ρ (upd ρ nm b) := fun k q e => by
  have : k ≠ nm := fun e' => by rw [e', hn] at e; cases e
  exact upd_other ρ b this
theorem sub_set {h : SHeap} {k : Nat} {o : SO} : Sub h (h.set k (some o)) := fun j q e => by
  by_cases hj : j = k
  · subst hj
    have : j < h.length := (List.getElem?_eq_some_iff.1 e).1
    exact ⟨o, by simp [this]⟩
  · exact ⟨q, by rw [List.getElem?_set_ne (Ne.symm hj)]; exact e⟩

/-- What an operation leaves: its value; the blocks that it changes; the blocks that it makes. -/
structure Eff where
  out : SV
  sets : List (Nat × SO) := []
  news : List SO := []
def setAll : List (Nat × SO) → SHeap → SHeap
  | [], h => h
  | (k, o) :: r, h => setAll r (h.set k (some o))
def setNew : List SO → Nat → SHeap → SHeap
  | [], _, h => h
  | o :: r, nm, h => setNew r (nm + 1) (h.set nm (some o))
def Eff.app (e : Eff) (nm : Nat) (h : SHeap) : SHeap := setNew e.news nm (setAll e.sets h)
theorem setAll_length : ∀ (l : List (Nat × SO)) (h : SHeap), (setAll l h).length = h.length
  | [], _ => rfl
  | (k, o) :: r, h => by simp [setAll, setAll_length r]
theorem setNew_length : ∀ (l : List SO) (nm : Nat) (h : SHeap), (setNew l nm h).length = h.length
  | [], _, _ => rfl
  | o :: r, nm, h => by simp [setNew, setNew_length r]
theorem Eff.app_length (e : Eff) (nm : Nat) (h : SHeap) : (e.app nm h).length = h.length := by simp [Eff.app, setAll_length, setNew_length]
theorem setAll_sub : ∀ (l : List (Nat × SO)) (h : SHeap), Sub h (setAll l h)
  | [], h => Sub.refl h
  | _ :: r, _ => sub_set.trans (setAll_sub r _)
theorem setNew_sub : ∀ (l : List SO) (nm : Nat) (h : SHeap), Sub h (setNew l nm h)
  | [], _, h => Sub.refl h
  | _ :: r, nm, _ => sub_set.trans (setNew_sub r (nm + 1) _)
theorem Eff.app_sub (e : Eff) (nm : Nat) (h : SHeap) : Sub h (e.app nm h) := (setAll_sub _ _).trans (setNew_sub _ _ _)

/-- Names that are not given yet. -/
def Free (h : SHeap) (nm n : Nat) : Prop := ∀ i, i < n → h[nm + i]? = some none

/-- THE WORD OF AN OPERATION: wherever its operands stand for what 'ev' says, the blocks that it looks at (T) hold what T says, and the names that it gives are free, it runs, leaves the value and does to the heap what 'e' says. -/
def OpOk (P : Program) (C : Cfg) (nm : Nat) (o : Oper) (ev : Operand → Option SV) (T : List (Nat × SO)) (e : Eff) : Prop :=
  ∀ (h : SHeap) (ρ : Ren) (f : Operand → Value) (w : World), (∀ x ∈ T, h[x.1]? = some (some x.2)) → Free h nm e.news.length →
    WRep C ρ h w → ERep h ρ ev f →
    ∃ ρ' x w', Ag h ρ ρ' ∧ ((execOp f o).run P w = .ok (.value x) w' ∨ ((execOp f o).run P w = .ok .skip w' ∧ x = undef)) ∧
      VRep (e.app nm h) ρ' e.out x ∧ WRep C ρ' (e.app nm h) w'
end Go.Sy
