/- A symbolic run, second making: arguments that come from outside: opened to data; a run that begins with them. -/
import Derived.Test.YtoeeilbpgckhlaaSy21
import Derived.ProofKit
import Derived.OpenShut
import Derived.ChangeOld
import Derived.Deep.Slices
import Derived.Deep.Fields
namespace Go.Sy
open Go Go.ChangeShapes Go.WideShapes Go.Deep

/-! ### a run that begins with data from outside -/
def iceH (l : List (Blk × List D)) : SHeap := l.map fun x => some (.ice x.2)
def iceR (l : List (Blk × List D)) : Ren := fun k => match l[k]? with | some x => x.1 | none => ⟨0, 0, 0⟩
def noR : Ren := fun _ => ⟨0, 0, 0⟩
/-- Data that lie in the world. -/
def IceAt (w : World) (x : Blk) (xs : List D) : Prop := (SO.ice xs).Rep [] noR w (fun b => b < w.heap.size) x
theorem startI {w : World} {l : List (Blk × List D)} (hl : ∀ x ∈ l, IceAt w x.1 x.2) : WRep (cfg0 w) (iceR l) (iceH l) w := by
  have get : ∀ {k : Nat} {q : SO}, (iceH l)[k]? = some (some q) → ∃ x, l[k]? = some x ∧ q = .ice x.2 := fun {k q} e => by
    simp only [iceH, List.getElem?_map, Option.map_eq_some_iff, Option.some.injEq] at e
    obtain ⟨x, hx, rfl⟩ := e
    exact ⟨x, hx, rfl⟩
  refine ⟨fun b => b < w.heap.size, fun k hk => absurd hk (Nat.not_lt_zero k), ?_, ?_, ?_, ?_, fun _ h => .inl h, fun _ h => h, fun _ h => h, fun _ _ _ => rfl, Nat.le_refl _, rfl, rfl, rfl⟩
  · intro k q e
    obtain ⟨x, hx, rfl⟩ := get e
    have : iceR l k = x.1 := by simp [iceR, hx]
    rw [this]
    exact hl x (List.mem_of_getElem? hx)
  · intro j k q q' e _ hh
    obtain ⟨x, hx, rfl⟩ := get e
    exact hh.elim
  · intro k q e hh
    obtain ⟨x, hx, rfl⟩ := get e
    exact hh.elim
  · intro k q e hh
    obtain ⟨x, hx, rfl⟩ := get e
    exact hh.elim
/-- **THE CONTRACT OF A CALL WHOSE ARGUMENTS LEAD TO DATA FROM OUTSIDE, AND WHOSE ANSWER USES NO NAME.** -/
theorem ext_calls {P : Program} {f : FuncId} {w : World} {A : Value → Prop} {fn : Func} {args : Array Value} (hcb : callable P f = some fn) (laws : List (Law P)) (L : Bool) (cuts : List CutAt) (l : List (Blk × List D)) (as : List SV)
    (hl : ∀ x ∈ l, IceAt w x.1 x.2) (ho : onlyVs (iceH l) as = true) (hA : VsR (iceR l) as args.toList)
    (h : Run P (plainJob P laws L cuts f w A).C f (plainJob P laws L cuts f w A).R ⟨[enterS f fn as], iceH l⟩) : Calls P f args w fun e w' => ∃ x, e = .returned x ∧ A x ∧ RowKit.Below w.heap.size w w' :=
  calls_of_run hcb (startI hl) (onlyVs_rep ho hA) h

/-! ### data of a type -/
inductive Sh where
  | int (k : IntKind)
  | bool
  | str
  | sl (es : List Sh)
inductive WfD : Sh → D → Prop where
  | int (k : IntKind) (n : Int) (h : (Lit.int k n).wf = true) : WfD (.int k) (.v (.int k n))
  | bool (b : Bool) : WfD .bool (.v (.bool b))
  | str (s : ByteArray) (h : s.size ≤ maxLen) : WfD .str (.v (.string s))
  | sl (es : List Sh) (len : Nat) (cs : List D) (h1 : cs.length = len * es.length) (h2 : len ≤ maxLen)
      (h : ∀ (q : Nat) (e : Sh) (d : D), es[q % es.length]? = some e → cs[q]? = some d → WfD e d) : WfD (.sl es) (.s len cs)
theorem WfD.int_inv {k : IntKind} {d : D} (h : WfD (.int k) d) : ∃ n, d = .v (.int k n) ∧ (Lit.int k n).wf = true := by cases h with | int _ n h => exact ⟨n, rfl, h⟩
theorem WfD.bool_inv {d : D} (h : WfD .bool d) : ∃ b, d = .v (.bool b) := by cases h with | bool b => exact ⟨b, rfl⟩
theorem WfD.str_inv {d : D} (h : WfD .str d) : ∃ s, d = .v (.string s) ∧ s.size ≤ maxLen := by cases h with | str s h => exact ⟨s, rfl, h⟩
theorem WfD.sl_inv {es : List Sh} {d : D} (h : WfD (.sl es) d) : ∃ len cs, d = .s len cs ∧ cs.length = len * es.length ∧ len ≤ maxLen ∧ ∀ (q : Nat) (e : Sh) (d : D), es[q % es.length]? = some e → cs[q]? = some d → WfD e d := by
  cases h with | sl _ len cs h1 h2 h => exact ⟨len, cs, rfl, h1, h2, h⟩
def Wfs (ss : List Sh) (ds : List D) : Prop := ds.length = ss.length ∧ ∀ (j : Nat) (s : Sh) (d : D), ss[j]? = some s → ds[j]? = some d → WfD s d
theorem Wfs.append {a b : List Sh} {x y : List D} (h : Wfs a x) (k : Wfs b y) : Wfs (a ++ b) (x ++ y) := by
  refine ⟨by simp [h.1, k.1], fun j s d h1 h2 => ?_⟩
  rcases Nat.lt_or_ge j a.length with hj | hj
  · rw [List.getElem?_append_left hj] at h1
    rw [List.getElem?_append_left (by rw [h.1]; exact hj)] at h2
    exact h.2 j s d h1 h2
  · rw [List.getElem?_append_right hj] at h1
    rw [List.getElem?_append_right (by rw [h.1]; exact hj), h.1] at h2
    exact k.2 _ s d h1 h2
theorem Wfs.cons {s : Sh} {ss : List Sh} {ds : List D} (h : Wfs (s :: ss) ds) : ∃ d r, ds = d :: r ∧ WfD s d ∧ Wfs ss r := by
  cases ds with
  | nil => have := h.1; simp at this
  | cons d r => exact ⟨d, r, rfl, h.2 0 s d rfl rfl, by simpa using h.1, fun j s' d' h1 h2 => h.2 (j + 1) s' d' (by simpa using h1) (by simpa using h2)⟩
theorem Wfs.nil {ds : List D} (h : Wfs [] ds) : ds = [] := by have := h.1; simpa using this

def fieldsSh (P : Program) (f : TypeId → Option (List Sh)) : List Field → Nat → Option (List Sh)
  | [], _ => some []
  | fd :: r, o =>
    match Nat.beq fd.offset o, f fd.type with
    | true, some s =>
      match Nat.beq s.length (P.cellsOf fd.type), fieldsSh P f r (o + s.length) with
      | true, some s' => some (s ++ s')
      | _, _ => none
    | _, _ => none
/-- What cells a type has. -/
def shapes (P : Program) : Nat → TypeId → Option (List Sh)
  | 0, _ => none
  | n + 1, t =>
    match P.underlying t with
    | some .bool => some [.bool]
    | some (.int k) => some [.int k]
    | some .string => some [.str]
    | some (.slice e) => match shapes P n e with | some s => (match Nat.beq s.length (P.cellsOf e) && !(Nat.beq s.length 0) with | true => some [.sl s] | false => none) | none => none
    | some (.struct fs) => match fieldsSh P (shapes P n) fs.toList 0 with | some s => (match Nat.beq s.length (P.cellsOf t) with | true => some s | false => none) | none => none
    | _ => none
section
variable {H : Type} {enc : TypeId × Value → H} {P : Program} {w : World} {base : Nat} {spare : Nat → Bool} {held : Bool}
abbrev oldB (w : World) : Nat → Prop := fun b => b < w.heap.size
theorem cell_lt {a : Addr} {v : Value} (h : w.cell? a = some v) : a.block < w.heap.size := by
  unfold World.cell? at h
  split at h
  · rename_i e; exact (Array.getElem?_eq_some_iff.1 e).1
  · cases h
theorem fields_open {f : TypeId → Option (List Sh)} (ih : ∀ (t : TypeId) (ss : List Sh) (fuel : Nat) (cs : List Value) (x : DataW H × List MemPlace), f t = some ss → DataW.trod enc P w base spare held fuel t cs = some x → ∃ ds, DsRep w (oldB w) ds cs ∧ Wfs ss ds) {cs : List Value} :
    ∀ (r : List Field) (o : Nat) (ss : List Sh), fieldsSh P f r o = some ss → (∀ fd ∈ r, ∃ y n, DataW.trod enc P w base spare held n fd.type ((cs.drop fd.offset).take (P.cellsOf fd.type)) = some y) → cs.length = o + ss.length → ∃ ds, DsRep w (oldB w) ds (cs.drop o) ∧ Wfs ss ds
  | [], o, ss, h, _, hl => by
    cases h
    exact ⟨[], ⟨by simp at hl ⊢; omega, by simp⟩, rfl, by simp⟩
  | fd :: r, o, ss, h, ht, hl => by
    simp only [fieldsSh] at h
    split at h
    · rename_i s hoff hs
      split at h
      · rename_i s' hc hr
        cases h
        have hoff := Nat.eq_of_beq_eq_true hoff
        have hc := Nat.eq_of_beq_eq_true hc
        obtain ⟨y, n, hy⟩ := ht fd (List.mem_cons_self ..)
        obtain ⟨d1, h1, w1⟩ := ih _ _ _ _ _ hs hy
        obtain ⟨d2, h2, w2⟩ := fields_open ih r (o + s.length) s' hr (fun fd' hm => ht fd' (List.mem_cons_of_mem _ hm)) (by simp at hl; omega)
        refine ⟨d1 ++ d2, ?_, w1.append w2⟩
        rw [hoff, ← hc] at h1
        have e : cs.drop o = (cs.drop o).take s.length ++ cs.drop (o + s.length) := by rw [← List.drop_drop, List.take_append_drop]
        rw [e]
        exact h1.append h2
      · cases h
    · cases h
theorem open_sh (hsp : ∀ b, spare b = true) : ∀ (n : Nat) (t : TypeId) (ss : List Sh) (fuel : Nat) (cs : List Value) (x : DataW H × List MemPlace), shapes P n t = some ss → DataW.trod enc P w base spare held fuel t cs = some x → ∃ ds, DsRep w (oldB w) ds cs ∧ Wfs ss ds
  | 0, _, _, _, _, _, h, _ => by cases h
  | n + 1, t, ss, fuel, cs, x, h, ht => by
    have one : ∀ {d : D} {v : Value} {s : Sh}, DRep w (oldB w) d v → WfD s d → ∃ ds, DsRep w (oldB w) ds [v] ∧ Wfs [s] ds := fun {d v s} h1 h2 => by
      refine ⟨[d], ⟨rfl, fun i d' v' e1 e2 => ?_⟩, rfl, fun j s' d' e1 e2 => ?_⟩
      · cases i with
        | zero => simp at e1 e2; subst e1; subst e2; exact h1
        | succ i => simp at e1
      · cases j with
        | zero => simp at e1 e2; subst e1; subst e2; exact h2
        | succ j => simp at e1
    unfold shapes at h
    split at h
    · rename_i hu
      cases h
      obtain ⟨b, rfl, _⟩ := DataW.trod_bool hu ht
      exact one (.v _ rfl) (.bool b)
    · rename_i k hu
      cases h
      obtain ⟨m, rfl, _, hw⟩ := DataW.trod_int hu ht
      exact one (.v _ rfl) (.int k m hw)
    · rename_i hu
      cases h
      obtain ⟨s, rfl, _, hs⟩ := DataW.trod_string hu ht
      exact one (.v _ rfl) (.str s hs)
    · rename_i e hu
      split at h
      · rename_i s hs
        split at h
        · rename_i hc
          cases h
          simp only [Bool.and_eq_true, Bool.not_eq_true'] at hc
          obtain ⟨hc, hc0⟩ := hc
          have hc := Nat.eq_of_beq_eq_true hc
          have hpos : 0 < s.length := Nat.pos_of_ne_zero fun e0 => by rw [e0] at hc0; simp at hc0
          rcases open_slice hu ht with ⟨rfl, _⟩ | ⟨a, len, cap, m, n', D', Pl, rfl, hb, hl, hm, hmm, _, hi⟩
          · refine one (d := .s 0 []) (.s none 0 [] (fun _ => undef) ⟨0, 0, 0⟩ (Nat.le_refl _) (fun h => absurd h (Nat.lt_irrefl 0)) ?_ ?_ ?_) (.sl s 0 [] (by simp) (Nat.zero_le _) (by simp)) <;> simp
          · rw [hsp, if_pos rfl] at hmm
            subst hmm
            have spot : 0 < m → a = ⟨a.block, a.off, none⟩ := fun h0 => by
              obtain ⟨cs', hc1, _⟩ := hi 0 h0
              obtain ⟨_, hcl, hat⟩ := World.cells?_some hc1
              have h1 := hat 0 (by omega)
              simp only [Nat.zero_mul, Addr.add, if_true] at h1
              have h2 : w.cell? a = some (cs'[0]'(by omega)) := by rw [h1]; exact List.getElem?_eq_getElem _
              have := World.cell?_spot h2
              cases a; simp_all
            have key : ∀ q, q < len * s.length → ∃ dv : D × Value, w.cell? ⟨a.block, a.off + q, none⟩ = some dv.2 ∧ DRep w (oldB w) dv.1 dv.2 ∧ ∀ s', s[q % s.length]? = some s' → WfD s' dv.1 := fun q hq => by
              have hql : q / s.length < len := (Nat.div_lt_iff_lt_mul hpos).2 hq
              have hqm : q % s.length < s.length := Nat.mod_lt _ hpos
              obtain ⟨cs', hc1, ht1⟩ := hi (q / s.length) (by omega)
              obtain ⟨_, hcl, hat⟩ := World.cells?_some hc1
              obtain ⟨ds, hds, hwf⟩ := open_sh hsp n e s _ _ _ hs ht1
              have hcq := hat (q % s.length) (by omega)
              rw [← hc, add_add] at hcq
              have hdm : q / s.length * s.length + q % s.length = q := by rw [Nat.mul_comm]; exact Nat.div_add_mod q s.length
              rw [hdm] at hcq
              have hadd : a.add q = ⟨a.block, a.off + q, none⟩ := by
                have := spot (Nat.lt_of_le_of_lt (Nat.zero_le _) (Nat.lt_of_lt_of_le hql hl))
                unfold Addr.add
                split
                · rename_i h0; subst h0; exact this
                · rfl
              rw [hadd] at hcq
              have hl1 : q % s.length < cs'.length := by omega
              have hl2 : q % s.length < ds.length := by rw [hwf.1]; exact hqm
              refine ⟨(ds[q % s.length], cs'[q % s.length]), by rw [hcq]; exact List.getElem?_eq_getElem hl1, hds.2 _ _ _ (List.getElem?_eq_getElem hl2) (List.getElem?_eq_getElem hl1), fun s' hs' => hwf.2 _ _ _ hs' (List.getElem?_eq_getElem hl2)⟩
            let g : Nat → D × Value := fun q => if hq : q < len * s.length then (key q hq).choose else (.v undef, undef)
            have hg : ∀ q, q < len * s.length → w.cell? ⟨a.block, a.off + q, none⟩ = some (g q).2 ∧ DRep w (oldB w) (g q).1 (g q).2 ∧ ∀ s', s[q % s.length]? = some s' → WfD s' (g q).1 := fun q hq => by
              have := (key q hq).choose_spec
              simp only [g, dif_pos hq]
              exact this
            have get : ∀ {j : Nat} {d : D}, ((List.range (len * s.length)).map fun q => (g q).1)[j]? = some d → j < len * s.length ∧ d = (g j).1 := fun {j d} h => by
              simp only [List.getElem?_map, Option.map_eq_some_iff] at h
              obtain ⟨q, hq, rfl⟩ := h
              have hlt := given_lt hq
              simp at hlt
              rw [List.getElem?_range hlt] at hq
              cases hq
              exact ⟨hlt, rfl⟩
            refine one (d := .s len ((List.range (len * s.length)).map fun q => (g q).1)) (.s (some a) len _ (fun q => (g q).2) ⟨a.block, a.off, m⟩ hl (fun h0 => by rw [← spot h0]) ?_ ?_ ?_) (.sl s len _ (by simp) (by omega) ?_)
            · intro j d hj
              obtain ⟨hlt, rfl⟩ := get hj
              exact cell_lt (a := ⟨a.block, a.off + j, none⟩) (hg j hlt).1
            · intro j d hj
              obtain ⟨hlt, rfl⟩ := get hj
              exact (hg j hlt).1
            · intro j d hj
              obtain ⟨hlt, rfl⟩ := get hj
              exact (hg j hlt).2.1
            · intro q e' d he hd
              obtain ⟨hlt, rfl⟩ := get hd
              exact (hg q hlt).2.2 e' he
        · cases h
      · cases h
    · rename_i fs hu
      split at h
      · rename_i s hs
        split at h
        · rename_i hc
          cases h
          have hc := Nat.eq_of_beq_eq_true hc
          obtain ⟨ys, n', _, _, hlen, hyl, hf⟩ := DataW.trod_struct hu ht
          obtain ⟨ds, h1, h2⟩ := fields_open (cs := cs) (fun t ss fuel cs x => open_sh hsp n t ss fuel cs x) fs.toList 0 ss hs (fun fd hm => by
            obtain ⟨i, hi⟩ := List.mem_iff_getElem?.1 hm
            have hi' : fs[i]? = some fd := by simpa using hi
            have hlt : i < ys.length := by rw [hyl]; exact (Array.getElem?_eq_some_iff.1 hi').1
            exact ⟨ys[i], n', (hf i fd hi').trans (List.getElem?_eq_getElem hlt)⟩) (by rw [hlen, hc]; simp)
          exact ⟨ds, by simpa using h1, h2⟩
        · cases h
      · cases h
    · cases h
/-- A slice from outside. -/
theorem DRep.slice {fz : Nat → Prop} {len : Nat} {cs : List D} {v : Value} (h : DRep w fz (.s len cs) v) : ∃ a bl, v = .slice a len bl.cap ∧ len ≤ bl.cap ∧ (0 < bl.cap → a = some ⟨bl.b, bl.o, none⟩) ∧ (SO.ice cs).Rep [] noR w fz bl := by
  cases h with
  | s a _ _ vals bl hl ha hz hc hd => exact ⟨a, bl, rfl, hl, ha, vals, hz, hc, hd⟩
theorem DRep.val {fz : Nat → Prop} {x v : Value} (h : DRep w fz (.v x) v) : v = x := by cases h with | v _ _ => rfl
theorem DsRep.cons {fz : Nat → Prop} {d : D} {ds : List D} {vs : List Value} (h : DsRep w fz (d :: ds) vs) : ∃ v r, vs = v :: r ∧ DRep w fz d v ∧ DsRep w fz ds r := by
  cases vs with
  | nil => have := h.1; simp at this
  | cons v r => exact ⟨v, r, rfl, h.2 0 d v rfl rfl, by simpa using h.1, fun j d' v' h1 h2 => h.2 (j + 1) d' v' (by simpa using h1) (by simpa using h2)⟩
theorem DsRep.nil {fz : Nat → Prop} {vs : List Value} (h : DsRep w fz [] vs) : vs = [] := by have := h.1; simpa using this
/-- An argument of one cell. -/
theorem open_arg {t : TypeId} {ss : List Sh} {n : Nat} {v : Value} {d : DataW H} {p : List MemPlace} (hsp : ∀ b, spare b = true) (hs : shapes P n t = some ss) (h : DataW.Trod enc P w base spare held t v d p) : ∃ ds, DsRep w (oldB w) ds v.cells.toList ∧ Wfs ss ds := by
  obtain ⟨fuel, hf⟩ := h
  exact open_sh hsp n t ss fuel _ _ hs hf
/-- What is known of a slice that comes from outside. -/
def SlArg (w : World) (es : List Sh) (a : Option Addr) (n cap : Nat) : Prop :=
  ∃ (bl : Blk) (xs : List D), bl.cap = cap ∧ n ≤ bl.cap ∧ (0 < bl.cap → a = some ⟨bl.b, bl.o, none⟩) ∧ IceAt w bl xs ∧ xs.length = n * es.length ∧ n ≤ maxLen ∧ ∀ (q : Nat) (e : Sh) (d : D), es[q % es.length]? = some e → xs[q]? = some d → WfD e d
theorem sl_open {es : List Sh} {d : D} {v : Value} (hw : WfD (.sl es) d) (h : DRep w (oldB w) d v) : ∃ a n cap, v = .slice a n cap ∧ SlArg w es a n cap := by
  obtain ⟨len, cs, rfl, h1, h2, h3⟩ := hw.sl_inv
  obtain ⟨a, bl, rfl, k1, k2, k3⟩ := h.slice
  exact ⟨a, len, bl.cap, rfl, bl, cs, rfl, k1, k2, k3, h1, h2, h3⟩
theorem int_open {k : IntKind} {d : D} {v : Value} (hw : WfD (.int k) d) (h : DRep w (oldB w) d v) : ∃ n, v = .int k n ∧ (Lit.int k n).wf = true := by
  obtain ⟨n, rfl, hn⟩ := hw.int_inv
  exact ⟨n, h.val, hn⟩
theorem bool_open {d : D} {v : Value} (hw : WfD .bool d) (h : DRep w (oldB w) d v) : ∃ b, v = .bool b := by
  obtain ⟨b, rfl⟩ := hw.bool_inv
  exact ⟨b, h.val⟩
theorem str_open {d : D} {v : Value} (hw : WfD .str d) (h : DRep w (oldB w) d v) : ∃ s, v = .string s ∧ s.size ≤ maxLen := by
  obtain ⟨s, rfl, hs⟩ := hw.str_inv
  exact ⟨s, h.val, hs⟩
/-- The cells of an argument, one by one. -/
def Cells (w : World) : List Sh → List Value → Prop
  | [], [] => True
  | s :: ss, v :: vs => (∃ d, WfD s d ∧ DRep w (oldB w) d v) ∧ Cells w ss vs
  | _, _ => False
theorem cells_of : ∀ {ss : List Sh} {ds : List D} {vs : List Value}, DsRep w (oldB w) ds vs → Wfs ss ds → Cells w ss vs
  | [], ds, vs, h, k => by
    have := k.nil
    subst this
    rw [h.nil]
    trivial
  | s :: ss, ds, vs, h, k => by
    obtain ⟨d, r, rfl, h1, h2⟩ := k.cons
    obtain ⟨v, vs', rfl, h3, h4⟩ := h.cons
    exact ⟨⟨d, h1, h3⟩, cells_of h4 h2⟩
theorem Cells.cons {s : Sh} {ss : List Sh} {vs : List Value} (h : Cells w (s :: ss) vs) : ∃ v r, vs = v :: r ∧ (∃ d, WfD s d ∧ DRep w (oldB w) d v) ∧ Cells w ss r := by
  cases vs with
  | nil => exact h.elim
  | cons v r => exact ⟨v, r, rfl, h.1, h.2⟩
theorem Cells.nil {vs : List Value} (h : Cells w [] vs) : vs = [] := by
  cases vs with
  | nil => rfl
  | cons v r => exact h.elim
theorem open_cells {t : TypeId} {ss : List Sh} {n : Nat} {v : Value} {d : DataW H} {p : List MemPlace} (hsp : ∀ b, spare b = true) (hs : shapes P n t = some ss) (h : DataW.Trod enc P w base spare held t v d p) : Cells w ss v.cells.toList := by
  obtain ⟨ds, h1, h2⟩ := open_arg hsp hs h
  exact cells_of h1 h2
theorem open_sl {t : TypeId} {es : List Sh} {n : Nat} {a : Option Addr} {len cap : Nat} {d : DataW H} {p : List MemPlace} (hsp : ∀ b, spare b = true) (hs : shapes P n t = some [.sl es]) (h : DataW.Trod enc P w base spare held t (.slice a len cap) d p) : SlArg w es a len cap := by
  have := open_cells hsp hs h
  obtain ⟨v, r, hv, ⟨d', h1, h2⟩, _⟩ := this.cons
  simp [Value.cells] at hv
  obtain ⟨rfl, rfl⟩ := hv
  obtain ⟨a', n', cap', hv, h3⟩ := sl_open h1 h2
  cases hv
  exact h3
end
/-- The start of a slice that comes from outside. -/
theorem SlArg.R {bl : Blk} {a : Option Addr} {n : Nat} {l : List (Blk × List D)} {k : Nat} {xs : List D} (hk : l[k]? = some (bl, xs)) (h1 : n ≤ bl.cap) (h2 : 0 < bl.cap → a = some ⟨bl.b, bl.o, none⟩) : (SC.s k 0 n (.hid 0)).R (iceR l) (.slice a n bl.cap) := by
  have : iceR l k = bl := by simp [iceR, hk]
  simp only [SC.R, this, Cap.den]
  exact ⟨a, rfl, h1, fun h => h2 h⟩
end Go.Sy
