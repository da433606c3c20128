/- A symbolic run: what each operation comes to, and that it does. -/
import Derived.Test.YtoeeilbpgckhlaaSx2
namespace Go.Sx
open Go

def isAggT (P : Program) (t : TypeId) : Option Bool :=
  match P.underlying t with
  | some (.struct _) | some (.array _ _) => some true
  | some _ => some false
  | none => none
def sizeT (P : Program) (t : TypeId) : Option Nat :=
  match P.info? t with
  | some i => some i.size
  | none => none

theorem run_isAgg {P : Program} {t : TypeId} {b : Bool} (h : isAggT P t = some b) (w : World) : (isAgg t).run P w = .ok b w := by
  unfold isAggT at h
  split at h
  · rename_i fs hu; cases h; simp [isAgg, run_underlying hu]
  · rename_i n e hu; cases h; simp [isAgg, run_underlying hu]
  · rename_i d h1 h2 hu
    cases h
    simp only [isAgg, Sem.run_bind, run_underlying hu, Result.andThen_ok]
    simp
  · cases h
theorem run_sizeOf {P : Program} {t : TypeId} {n : Nat} (h : sizeT P t = some n) (w : World) : (sizeOf t).run P w = .ok n w := by
  unfold sizeT at h
  split at h
  · rename_i i hi; cases h; simp [sizeOf, typeInfo, hi]
  · cases h
theorem addr_add_own (b off n : Nat) : (⟨b, off, none⟩ : Addr).add n = ⟨b, off + n, none⟩ := by
  unfold Addr.add; split <;> simp_all

/-- Which is not ours of what was there. -/
def Ext (C : Cfg) (b : Nat) : Prop := ∀ k, k < C.n0 → b ≠ C.ρ0 k

/-- A cell that came in, by its kind. -/
def extCell (C : Cfg) (d : TypeDesc) (a : Addr) (K : SC → Prop) : Prop :=
  match d with
  | .int k => ∃ n : Int, C.w0.cell? a = some (.int k n) ∧ K (.v (.int k n))
  | .bool => ∃ b : Bool, C.w0.cell? a = some (.bool b) ∧ K (.v (.bool b))
  | .string => ∃ s : ByteArray, C.w0.cell? a = some (.string s) ∧ K (.v (.string s))
  | .slice _ => ∃ (p : Option Addr) (l c : Nat), C.w0.cell? a = some (.slice p l c) ∧ K (.v (.slice p l c))
  | .pointer _ => ∃ p : Option Addr, C.w0.cell? a = some (.pointer p) ∧ K (.v (.pointer p))
  | _ => ∃ v : Value, C.w0.cell? a = some v ∧ K (.v v)
theorem extCell_sound {C : Cfg} {d : TypeDesc} {a : Addr} {K : SC → Prop} (h : extCell C d a K) : ∃ v, C.w0.cell? a = some v ∧ K (.v v) := by
  unfold extCell at h
  split at h
  · obtain ⟨n, h1, h2⟩ := h; exact ⟨_, h1, h2⟩
  · obtain ⟨n, h1, h2⟩ := h; exact ⟨_, h1, h2⟩
  · obtain ⟨n, h1, h2⟩ := h; exact ⟨_, h1, h2⟩
  · obtain ⟨p, l, c, h1, h2⟩ := h; exact ⟨_, h1, h2⟩
  · obtain ⟨n, h1, h2⟩ := h; exact ⟨_, h1, h2⟩
  · exact h
def extCells (C : Cfg) : List TypeDesc → Addr → Nat → (List SC → Prop) → Prop
  | [], _, _, K => K []
  | d :: ds, a, i, K => extCell C d (a.add i) fun c => extCells C ds a (i + 1) fun cs => K (c :: cs)
theorem extCells_sound {C : Cfg} : ∀ {ds : List TypeDesc} {a : Addr} {i : Nat} {K : List SC → Prop}, extCells C ds a i K →
    ∃ vs : List Value, vs.length = ds.length ∧ (∀ j v, vs[j]? = some v → C.w0.cell? (a.add (i + j)) = some v) ∧ K (vs.map .v)
  | [], _, _, _, h => ⟨[], rfl, by simp, h⟩
  | d :: ds, a, i, K, h => by
    obtain ⟨v, hv, h2⟩ := extCell_sound h
    obtain ⟨vs, hl, hc, hK⟩ := extCells_sound h2
    refine ⟨v :: vs, by simp [hl], ?_, hK⟩
    intro j u hu
    cases j with
    | zero => simp at hu; subst hu; exact hv
    | succ j => simp at hu; have := hc j u hu; rwa [show i + 1 + j = i + (j + 1) from by omega] at this
/-- The kinds of a type's cells. -/
def cellDs (P : Program) : Nat → TypeId → List TypeDesc
  | 0, _ => []
  | d + 1, t =>
    match P.underlying t with
    | some (.struct fs) => fs.toList.flatMap fun f => cellDs P d f.type
    | some (.array n e) => (List.replicate n (cellDs P d e)).flatten
    | some x => [x]
    | none => []

abbrev KT := Option (Nat × SO) → Eff → Prop

/-- 'K' is met by an effect that the operation has. -/
def Has (C : Cfg) (nm : Nat) (h : SHeap) (ev : Operand → Option SV) (o : Oper) (K : KT) : Prop :=
  ∃ T e, (∀ k q, T = some (k, q) → h[k]? = some (some q)) ∧ OpOk C nm o ev T e ∧ K T e

section
variable {C : Cfg} {nm : Nat} {h : SHeap} {ev : Operand → Option SV} {o : Oper} {K : KT}

/-- An operation that only reckons. -/
theorem has_pure {v : SV} (hK : K none { out := v })
    (hr : ∀ (g : SHeap) ρ f w, WRep C ρ g w → ERep g ρ ev f → ∃ x, (execOp f o).run C.P w = .ok (.value x) w ∧ VRep g ρ v x) : Has C nm h ev o K :=
  ⟨none, { out := v }, by simp, fun g ρ f w _ _ hW hE => let ⟨x, h1, h2⟩ := hr g ρ f w hW hE; ⟨x, w, .inl h1, h2, hW⟩, hK⟩

def moveS (ev : Operand → Option SV) (x : Operand) (K : KT) : Prop :=
  match ev x with
  | some v => K none { out := v }
  | none => False
theorem moveS_sound {x : Operand} (ho : o.op = .move x ∨ o.op = .assign x) (hs : moveS ev x K) : Has C nm h ev o K := by
  unfold moveS at hs
  split at hs
  · rename_i v hv
    refine has_pure hs fun g ρ f w hW hE => ⟨f x, ?_, hE x v hv⟩
    rcases ho with ho | ho <;> simp [execOp, ho]
  · exact hs.elim

def pickS (ev : Operand → Option SV) (c a b : Operand) (K : KT) : Prop :=
  match ev c with
  | some (.c (.v (.bool t))) =>
    match t with
    | true => moveS ev a K
    | false => moveS ev b K
  | some (.c (.b t)) =>
    match t with
    | true => moveS ev a K
    | false => moveS ev b K
  | _ => False
theorem pickS_sound {c a b : Operand} (ho : o.op = .pick c a b) (hs : pickS ev c a b K) : Has C nm h ev o K := by
  unfold pickS at hs
  have key : ∀ (t : Bool) (v : SV), ev c = some v → v.lit = some (.bool t) → ∀ (x : Operand), moveS ev x K → (∀ f : Operand → Value, (if t then f a else f b) = f x) → Has C nm h ev o K := fun t v hc hl x hx hf => by
    unfold moveS at hx
    split at hx
    · rename_i u hu
      refine has_pure hx fun g ρ f w hW hE => ⟨f x, ?_, hE x u hu⟩
      have hb : f c = .bool t := VRep.of_lit hl (hE c _ hc)
      simp [execOp, ho, hb, asBool, hf]
    · exact hx.elim
  split at hs
  · rename_i t hc
    split at hs
    · exact key true _ hc rfl a hs fun f => by simp
    · exact key false _ hc rfl b hs fun f => by simp
  · rename_i t hc
    split at hs
    · exact key true _ hc rfl a hs fun f => by simp
    · exact key false _ hc rfl b hs fun f => by simp
  · exact hs.elim

def allocS (C : Cfg) (nm : Nat) (t : TypeId) (K : KT) : Prop :=
  match C.P.info? t with
  | some i =>
    match i.zero with
    | some z => K none { out := .c (.p nm 0), he := .new (.cells (z.cells.toList.map .v) t) }
    | none => False
  | none => False
theorem dens_v (ρ : Ren) (l : List Value) : dens ρ (l.map .v) = l.toArray := by simp [dens, Function.comp_def, SC.den]
theorem allocS_sound {t : TypeId} (ho : o.op = .alloc t) (hs : allocS C nm t K) : Has C nm h ev o K := by
  unfold allocS at hs
  split at hs
  · rename_i i hi
    split at hs
    · rename_i z hz
      refine ⟨none, _, by simp, ?_, hs⟩
      intro g ρ f w _ hn hW hE
      refine ⟨.pointer (some ⟨w.heap.size, 0, none⟩), w.alloc (.cells z.cells t), .inl ?_, ?_, ?_⟩
      · simp [execOp, ho, Instr.alloc, zeroValue, typeInfo, hi, hz, newVar, newRow]
      · intro ρ' ha
        have := ha nm _ (List.getElem?_set_self (given_lt hn))
        simp only [HE.ren, upd_same] at this
        simp [SV.den, SC.den, this]
      · exact hW.alloc hn fun ρ' _ => by rw [dens_v]
    · exact hs.elim
  · exact hs.elim

def boxS (ev : Operand → Option SV) (nm : Nat) (t : TypeId) (x : Operand) (K : KT) : Prop :=
  match ev x with
  | some v =>
    match v.cells with
    | some cs => K none { out := .c (.p nm 0), he := .new (.cells cs t) }
    | none => False
  | none => False
theorem boxS_sound {t : TypeId} {x : Operand} (ho : o.op = .box t x) (hs : boxS ev nm t x K) : Has C nm h ev o K := by
  unfold boxS at hs
  split at hs
  · rename_i v hv
    split at hs
    · rename_i cs hc
      refine ⟨none, _, by simp, ?_, hs⟩
      intro g ρ f w _ hn hW hE
      refine ⟨.pointer (some ⟨w.heap.size, 0, none⟩), w.alloc (.cells (f x).cells t), .inl ?_, ?_, ?_⟩
      · simp [execOp, ho, Instr.box, newVar, newRow]
      · intro ρ' ha
        have := ha nm _ (List.getElem?_set_self (given_lt hn))
        simp only [HE.ren, upd_same] at this
        simp [SV.den, SC.den, this]
      · refine hW.alloc hn fun ρ' ha => ?_
        rw [← hE x v hv ρ' ha, SV.cells_den hc]
    · exact hs.elim
  · exact hs.elim

/-! ### load, store -/
def loadS (C : Cfg) (h : SHeap) (ev : Operand → Option SV) (t : TypeId) (x : Operand) (K : KT) : Prop :=
  match ev x, isAggT C.P t, sizeT C.P t with
  | some (.c (.p k off)), some ag, some n =>
    match h[k]? with
    | some (some (.cells l t0)) =>
      match ag with
      | true => Ck (decide (off + n ≤ l.length)) (K (some (k, .cells l t0)) { out := .a ((l.drop off).take n) })
      | false =>
        match l[off]? with
        | some y => K (some (k, .cells l t0)) { out := .c y }
        | none => False
    | _ => False
  | some (.c (.v (.pointer (some a)))), some ag, some n =>
    Ext C a.block ∧
    match ag with
    | true => Ck (decide ((cellDs C.P 20 t).length = n)) (extCells C (cellDs C.P 20 t) a 0 fun cs => K none { out := .a cs })
    | false => match C.P.underlying t with
      | some d => extCell C d a fun c => K none { out := .c c }
      | none => False
  | _, _, _ => False
theorem loadS_sound {t : TypeId} {x : Operand} (ho : o.op = .load t x) (hs : loadS C h ev t x K) : Has C nm h ev o K := by
  unfold loadS at hs
  split at hs
  · rename_i k off ag n hx hag hn
    split at hs
    · rename_i l t0 hk
      have own : ∀ {g : SHeap} {ρ : Ren} {w : World} {f : Operand → Value}, g[k]? = some (some (.cells l t0)) → WRep C ρ g w → ERep g ρ ev f →
          f x = .pointer (some ⟨ρ k, off, none⟩) ∧ ∃ cs, w.heap[ρ k]? = some (.cells cs t0 (0, 0)) ∧ CsRep g ρ l cs := fun hg hW hE => ⟨(hE x _ hx).here.symm, hW.objs k l t0 hg⟩
      split at hs
      · obtain ⟨hle, hK⟩ := hs.out
        simp only [decide_eq_true_eq] at hle
        refine ⟨_, _, fun k' q e => by cases e; exact hk, ?_, hK⟩
        intro g ρ f w hT _ hW hE
        obtain ⟨hf, cs, hcs, hr⟩ := own (hT _ _ rfl) hW hE
        have hsz : cs.size = l.length := by rw [← hr.here, dens_length]
        refine ⟨.agg (cs.extract off (off + n)), w, .inl ?_, ?_, hW⟩
        · have hlen : ((cs.extract off (off + n)).toList).length = n := by simp; omega
          have hl := run_loadCells_list (P := C.P) w ⟨ρ k, off, none⟩ (cs.extract off (off + n)).toList (fun j v hv => by
            rw [addr_add_own, cell_of_row w (ρ k) (off + j) cs t0 (0, 0) hcs]
            simp only [Array.toList_extract, List.extract_eq_take_drop] at hv
            rw [List.getElem?_take] at hv
            split at hv
            · simpa using hv
            · cases hv)
          rw [hlen] at hl
          simp [execOp, ho, hf, Instr.loadAt, Instr.sureAddr, loadVar, run_isAgg hag, run_sizeOf hn, hl]
          rw [← Array.toList_inj]
          simp [List.extract_eq_take_drop]
        · intro ρ' ha
          have hd : dens ρ' l = cs := hr ρ' ha
          rw [← hd]
          simp [SV.den, dens, List.map_take, List.map_drop]
      · split at hs
        · rename_i y hy
          refine ⟨_, _, fun k' q e => by cases e; exact hk, ?_, hs⟩
          intro g ρ f w hT _ hW hE
          obtain ⟨hf, cs, hcs, hr⟩ := own (hT _ _ rfl) hW hE
          have hlt : off < cs.size := by rw [← hr.here, dens_length]; exact (List.getElem?_eq_some_iff.1 hy).1
          refine ⟨cs[off], w, .inl ?_, ?_, hW⟩
          · have hl : w.cell? ⟨ρ k, off, none⟩ = some cs[off] := by rw [cell_of_row w (ρ k) off cs t0 (0, 0) hcs]; simp [hlt]
            simp [execOp, ho, hf, Instr.loadAt, Instr.sureAddr, loadVar, run_isAgg hag, hl]
          · intro ρ' ha
            have hd : dens ρ' l = cs := hr ρ' ha
            subst hd
            have hy2 := (List.getElem?_eq_some_iff.1 hy).2
            simp [SV.den, dens, hy2]
        · exact hs.elim
    · exact hs.elim
  · rename_i a ag n hx hag hn
    obtain ⟨hext, hs⟩ := hs
    split at hs
    · obtain ⟨hlen, hs⟩ := hs.out
      simp only [decide_eq_true_eq] at hlen
      obtain ⟨vs, hl, hc, hK⟩ := extCells_sound hs
      refine has_pure hK fun g ρ f w hW hE => ⟨.agg vs.toArray, ?_, fun ρ' _ => by simp [SV.den, dens_v]⟩
      have hf : f x = .pointer (some a) := (hE x _ hx).here.symm
      have hl2 := run_loadCells_list (P := C.P) w a vs (fun j v hv => by
        have h0 := hc j v hv
        rw [Nat.zero_add] at h0
        exact hW.ext h0 (fun k hk => by unfold Addr.add; split <;> exact hext k hk))
      rw [hl, hlen] at hl2
      simp [execOp, ho, hf, Instr.loadAt, Instr.sureAddr, loadVar, run_isAgg hag, run_sizeOf hn, hl2]
    · split at hs
      · obtain ⟨v, hv, hK⟩ := extCell_sound hs
        refine has_pure hK fun g ρ f w hW hE => ⟨v, ?_, fun _ _ => rfl⟩
        have hf : f x = .pointer (some a) := (hE x _ hx).here.symm
        simp [execOp, ho, hf, Instr.loadAt, Instr.sureAddr, loadVar, run_isAgg hag, hW.ext hv hext]
      · exact hs.elim
  · exact hs.elim
end
end Go.Sx
