/- A symbolic run, second making: what each operation comes to, and that it does (indexes, fields, arithmetic, comparisons, conversions). -/
import Derived.Test.YtoeeilbpgckhlaaSy4
import Derived.Laws.StructEq
import Derived.Laws.Slices
import Derived.Laws.Strings
import Derived.Laws.Strings2
import Derived.Laws.Strings3
import Derived.Laws.Pointers
import Derived.Laws.Concat
namespace Go.Sy
open Go

/-! ### texts compared -/
def lEq : List UInt8 → List UInt8 → Bool
  | [], [] => true
  | a :: x, b :: y => match Nat.beq a.toNat b.toNat with | true => lEq x y | false => false
  | _, _ => false
def lLt : List UInt8 → List UInt8 → Bool
  | _, [] => false
  | [], _ :: _ => true
  | a :: x, b :: y => match Nat.ble (a.toNat + 1) b.toNat with | true => true | false => (match Nat.beq a.toNat b.toNat with | true => lLt x y | false => false)
def sEq (x y : ByteArray) : Bool := lEq x.data.toList y.data.toList
def sLt (x y : ByteArray) : Bool := lLt x.data.toList y.data.toList
theorem lEq_iff : ∀ {x y : List UInt8}, lEq x y = true ↔ x = y
  | [], [] => by simp [lEq]
  | a :: x, b :: y => by
    simp only [lEq]
    split
    · rename_i h
      have : a = b := UInt8.toNat_inj.1 (Nat.eq_of_beq_eq_true h)
      simp [lEq_iff, this]
    · rename_i h
      have : a ≠ b := fun e => by subst e; simp at h
      simp [this]
  | [], _ :: _ => by simp [lEq]
  | _ :: _, [] => by simp [lEq]
theorem sEq_iff {x y : ByteArray} : sEq x y = true ↔ x = y := by
  unfold sEq
  rw [lEq_iff]
  constructor
  · intro h
    obtain ⟨⟨x⟩⟩ := x
    obtain ⟨⟨y⟩⟩ := y
    simp at h
    rw [h]
  · rintro rfl; rfl
theorem sEq_toList (x y : ByteArray) : (x.toList == y.toList) = sEq x y := by
  rw [Bool.eq_iff_iff, sEq_iff, ByteArray.toList_eq, ByteArray.toList_eq, beq_iff_eq]
  constructor
  · intro h
    exact sEq_iff.1 (lEq_iff.2 h)
  · rintro rfl; rfl
theorem lLt_less : ∀ x y : List UInt8, Op.bytesLess x y = lLt x y
  | _, [] => by simp [Op.bytesLess, lLt]
  | [], _ :: _ => by simp [Op.bytesLess, lLt]
  | a :: x, b :: y => by
    simp only [Op.bytesLess, lLt]
    split
    · rename_i h
      have : a < b := by rw [UInt8.lt_iff_toNat_lt]; have := Nat.le_of_ble_eq_true h; omega
      simp [this]
    · rename_i h
      have hn : ¬ a < b := by
        rw [UInt8.lt_iff_toNat_lt]
        intro hlt
        rw [Nat.ble_eq_true_of_le hlt] at h
        cases h
      split
      · rename_i h2
        have : a = b := UInt8.toNat_inj.1 (Nat.eq_of_beq_eq_true h2)
        subst this
        simp [lLt_less]
      · rename_i h2
        have : a ≠ b := fun e => by subst e; simp at h2
        simp [hn, this]
theorem sLt_toList (x y : ByteArray) : Op.bytesLess x.toList y.toList = sLt x y := by
  rw [ByteArray.toList_eq, ByteArray.toList_eq, lLt_less]; rfl

/-! ### structs compared -/
def eqFs (P : Program) (eq : TypeId → Value → Value → Option Bool) (xs ys : Array Value) : List Field → Option Bool
  | [] => some true
  | f :: fs =>
    match f.name == "_" with
    | true => eqFs P eq xs ys fs
    | false =>
      match pureRun P (part f.type xs f.offset), pureRun P (part f.type ys f.offset) with
      | some a, some b =>
        match eq f.type a b, eqFs P eq xs ys fs with
        | some p, some q => some (p && q)
        | _, _ => none
      | _, _ => none
/-- Whether two values of a type are equal. -/
def eqIn (P : Program) : Nat → TypeId → Value → Value → Option Bool
  | 0, _, _, _ => none
  | d + 1, t, x, y =>
    match P.underlying t, x, y with
    | some .bool, .bool a, .bool b => some (a == b)
    | some (.int _), .int k a, .int k' b => match decide (k = k') with | true => some (a == b) | false => none
    | some .string, .string a, .string b => some (sEq a b)
    | some (.struct fs), .agg xs, .agg ys => match P.stoodInHeld t with | false => eqFs P (eqIn P d) xs ys fs.toList | true => none
    | _, _, _ => none
theorem eqFs_run {P : Program} {d : Nat} (ih : ∀ t x y b, eqIn P d t x y = some b → ∀ w, (Op.equalIn d t x y).run P w = .ok b w) {xs ys : Array Value} : ∀ {fs : List Field} {b : Bool}, eqFs P (eqIn P d) xs ys fs = some b →
    ∀ w, (Op.eqFields d xs ys fs).run P w = .ok b w
  | [], b, h, w => by cases h; simp [Op.eqFields]
  | f :: fs, b, h, w => by
    simp only [eqFs] at h
    split at h
    · rename_i hn
      have hn : f.name = "_" := by simpa using hn
      simp only [Op.eqFields, hn]
      exact eqFs_run ih h w
    · rename_i hn
      have hn : f.name ≠ "_" := by simpa using hn
      split at h
      · rename_i a b' ha hb
        split at h
        · rename_i p q hp hq
          cases h
          simp only [Op.eqFields, hn, ne_eq, not_false_eq_true, if_true, Sem.run_bind, pureRun_run ha w, pureRun_run hb w, Result.andThen_ok, ih _ _ _ _ hp w]
          cases p with
          | true => simp [eqFs_run ih hq w]
          | false => simp
        · cases h
      · cases h
theorem eqIn_run {P : Program} : ∀ (d : Nat) (t : TypeId) (x y : Value) (b : Bool), eqIn P d t x y = some b → ∀ w, (Op.equalIn d t x y).run P w = .ok b w
  | 0, _, _, _, _, h, _ => by simp [eqIn] at h
  | d + 1, t, x, y, b, h, w => by
    simp only [eqIn] at h
    split at h
    · rename_i hu; cases h; exact run_equalIn_bool w d t _ _ hu
    · rename_i _ k a k' b' hu
      split at h
      · rename_i he
        have he : k = k' := by simpa using he
        cases h; subst he; exact run_equalIn_int w d t _ _ _ _ hu
      · cases h
    · rename_i a b hu; cases h; rw [← sEq_toList]; exact run_equalIn_string w d t _ _ hu
    · rename_i fs xs ys hu
      split at h
      · rename_i hs
        have hf : P.fieldsOf t = fs := by simp [Program.fieldsOf, hu]
        rw [run_equalIn_struct w d t xs ys (by rw [hf]; exact hu) hs, hf]
        exact eqFs_run (fun t x y b => eqIn_run d t x y b) h w
      · cases h
    · cases h
/-- Structs by '==' or '!='. -/
def eqAgg (P : Program) (op : BinOp) (t : TypeId) (a b : Value) : Option Bool :=
  match op with
  | .eql => match P.eqGuardType P.depth t with | false => eqIn P 10000 t a b | true => none
  | .neq => match P.eqGuardType P.depth t with | false => (match eqIn P 10000 t a b with | some r => some (!r) | none => none) | true => none
  | _ => none
theorem eqAgg_run {P : Program} {op : BinOp} {t : TypeId} {x y : Operand} {xs ys : Array Value} {r : Bool} (h : eqAgg P op t (.agg xs) (.agg ys) = some r) (w : World) :
    (do eqGuard op t x y (.agg xs) (.agg ys); binOp op t (.agg xs) (.agg ys) : Sem Value).run P w = .ok (.bool r) w := by
  unfold eqAgg at h
  split at h
  · split at h
    · rename_i hg
      rw [Sem.run_bind, run_eqGuard_agg _ _ _ _ _ _ _ hg]
      simp only [Result.andThen_ok]
      rw [run_eql_struct, eqIn_run _ _ _ _ _ h]
      rfl
    · cases h
  · split at h
    · rename_i hg
      split at h
      · rename_i r' hr
        cases h
        rw [Sem.run_bind, run_eqGuard_agg _ _ _ _ _ _ _ hg]
        simp only [Result.andThen_ok]
        rw [run_neq_struct, eqIn_run _ _ _ _ _ hr]
        rfl
      · cases h
    · cases h
  · cases h

/-! ### knownness -/
def SC.known : SC → Bool
  | .kv _ => true
  | .b _ => true
  | _ => false
def knownL : List SC → Bool
  | [] => true
  | c :: r => c.known && knownL r
def SV.known : SV → Bool
  | .c x => x.known
  | .a cs => knownL cs
  | _ => false
def tagIf (b : Bool) (x : Value) : SC := match b with | true => tag x | false => .v x
theorem tagIf_R (b : Bool) (x : Value) (ρ : Ren) : (tagIf b x).R ρ x := by cases b with | true => exact tag_R x ρ | false => exact (rfl : x = x)
/-- A value of several cells, tagged. -/
def tagV (b : Bool) : Value → SV
  | .agg cs => .a (cs.toList.map (tagIf b))
  | x => .c (tagIf b x)
theorem CsR.tagIfs {ρ : Ren} (b : Bool) : ∀ (l : List Value), CsR ρ (l.map (tagIf b)) l
  | [] => trivial
  | x :: r => ⟨tagIf_R b x ρ, CsR.tagIfs b r⟩
theorem tagV_R (b : Bool) (x : Value) (ρ : Ren) : (tagV b x).R ρ x := by
  cases x with
  | agg cs => exact ⟨cs.toList, by simp, CsR.tagIfs b _⟩
  | _ => exact tagIf_R b _ ρ

/-! ### two operands -/
def binV (P : Program) (L : Bool) (op : BinOp) (t : TypeId) (x y : Operand) (a b : Value) (K : Value → Prop) : Prop :=
  match op, a, b with
  | .shl, .int k m, .int _ n => Nd L (decide (0 ≤ n)) (0 ≤ n) (K (.int k (k.wrap (m * 2 ^ (min n.toNat k.bits)))))
  | .shr, .int k m, .int _ n => Nd L (decide (0 ≤ n)) (0 ≤ n) (K (.int k (m.fdiv (2 ^ (min n.toNat k.bits)))))
  | .quo, .int k m, .int k' n => Ck (decide (k = k')) (Nd L (decide (n ≠ 0)) (n ≠ 0) (K (.int k (k.wrap (m.tdiv n)))))
  | .rem, .int k m, .int k' n => Ck (decide (k = k')) (Nd L (decide (n ≠ 0)) (n ≠ 0) (K (.int k (m.tmod n))))
  | .add, .string s, .string u => Nd L (decide (s.size + u.size ≤ 9223372036854775807)) (s.size + u.size ≤ 9223372036854775807) (K (.string (s ++ u)))
  | .eql, .string s, .string u => K (.bool (sEq s u))
  | .neq, .string s, .string u => K (.bool (!sEq s u))
  | .lss, .string s, .string u => K (.bool (sLt s u))
  | .leq, .string s, .string u => K (.bool (sLt s u || sEq s u))
  | .gtr, .string s, .string u => K (.bool (!(sLt s u || sEq s u)))
  | .geq, .string s, .string u => K (.bool (!sLt s u))
  | op, .agg xs, .agg ys =>
    match eqAgg P op t (.agg xs) (.agg ys) with
    | some r => K (.bool r)
    | none => False
  | op, a, b =>
    match pureRun P (do eqGuard op t x y a b; binOp op t a b) with
    | some r => K r
    | none => False
theorem binV_sound {P : Program} {L : Bool} {op : BinOp} {t : TypeId} {x y : Operand} {a b : Value} {K : Value → Prop} (hs : binV P L op t x y a b K) :
    ∃ r, K r ∧ ∀ w, (do eqGuard op t x y a b; binOp op t a b : Sem Value).run P w = .ok r w := by
  unfold binV at hs
  split at hs
  · obtain ⟨h, hK⟩ := hs.out
    exact ⟨_, hK, fun w => by simp [eqGuard, binOp, Op.shift, Int.not_lt.2 h]⟩
  · obtain ⟨h, hK⟩ := hs.out
    exact ⟨_, hK, fun w => by simp [eqGuard, binOp, Op.shift, Int.not_lt.2 h]⟩
  · obtain ⟨hk, hs⟩ := hs.out
    obtain ⟨h, hK⟩ := hs.out
    have hk := of_decide_eq_true hk
    subst hk
    exact ⟨_, hK, fun w => by simp [eqGuard, binOp, Op.intDiv, h]⟩
  · obtain ⟨hk, hs⟩ := hs.out
    obtain ⟨h, hK⟩ := hs.out
    have hk := of_decide_eq_true hk
    subst hk
    exact ⟨_, hK, fun w => by simp [eqGuard, binOp, Op.intDiv, h]⟩
  · obtain ⟨h, hK⟩ := hs.out
    refine ⟨_, hK, fun w => ?_⟩
    have := run_string_add_sum (P := P) w _ _ h
    simp [eqGuard, binOp, this]
  · exact ⟨_, hs, fun w => by simp [eqGuard, binOp, Op.stringOp, sEq_toList]⟩
  · exact ⟨_, hs, fun w => by simp [eqGuard, binOp, Op.stringOp, sEq_toList]⟩
  · exact ⟨_, hs, fun w => by simp [eqGuard, binOp, Op.stringOp, sLt_toList]⟩
  · exact ⟨_, hs, fun w => by simp [eqGuard, binOp, Op.stringOp, sLt_toList, sEq_toList]⟩
  · exact ⟨_, hs, fun w => by simp [eqGuard, binOp, Op.stringOp, sLt_toList, sEq_toList]⟩
  · exact ⟨_, hs, fun w => by simp [eqGuard, binOp, Op.stringOp, sLt_toList]⟩
  · split at hs
    · rename_i r hr
      exact ⟨_, hs, fun w => eqAgg_run hr w⟩
    · exact hs.elim
  · split at hs
    · rename_i r hr
      exact ⟨_, hs, fun w => pureRun_run hr w⟩
    · exact hs.elim

section
variable {P : Program} {C : Cfg} {nm : Nat} {h : SHeap} {ev : Operand → Option SV} {o : Oper} {K : KT}

/-- A number, known or not. -/
def num : Option SV → Option (Bool × IntKind × Int)
  | some (.c (.v (.int k i))) => some (false, k, i)
  | some (.c (.kv (.int k i))) => some (true, k, i)
  | _ => none
theorem num_run {g : SHeap} {ρ : Ren} {ev : Operand → Option SV} {f : Operand → Value} {x : Operand} {z : Bool} {k : IntKind} {i : Int} (hE : ERep g ρ ev f) (h : num (ev x) = some (z, k, i)) : f x = .int k i := by
  unfold num at h
  split at h
  · rename_i e; cases h; exact (hE x _ e).here
  · rename_i e; cases h; exact (hE x _ e).here
  · cases h
def explicit (h : SHeap) (k : Nat) : Bool := match h[k]? with | some (some (.cells _ _ _)) => true | _ => false

theorem SC.R_p {ρ : Ren} {k o : Nat} {u : Value} (h : (SC.p k o).R ρ u) : u = .pointer (some ⟨(ρ k).b, (ρ k).o + o, none⟩) := h
/-- A pointer that is moved on. -/
theorem rep_p {g : SHeap} {ρ : Ren} {k o n : Nat} {u : Value} (hv : VRep g ρ (.c (.p k o)) u) : VRep g ρ (.c (.p k (o + n))) (.pointer (some ⟨(ρ k).b, (ρ k).o + (o + n), none⟩)) := fun ρ' ha => by
  have h1 : u = .pointer (some ⟨(ρ' k).b, (ρ' k).o + o, none⟩) := hv ρ' ha
  have h2 : u = .pointer (some ⟨(ρ k).b, (ρ k).o + o, none⟩) := hv.here
  rw [h2] at h1
  simp only [Value.pointer.injEq, Option.some.injEq, Addr.mk.injEq, and_true] at h1
  show _ = _
  simp only [Value.pointer.injEq, Option.some.injEq, Addr.mk.injEq, and_true]
  exact ⟨h1.1, by omega⟩
/-- A slice's first cell, moved on. -/
theorem rep_sp {g : SHeap} {ρ : Ren} {k o len n : Nat} {cp : Cap} {u : Value} (hv : VRep g ρ (.c (.s k o len cp)) u) (hl : 0 < len) :
    ∃ c, u = .slice (some ⟨(ρ k).b, (ρ k).o + o, none⟩) len c ∧ VRep g ρ (.c (.p k (o + n))) (.pointer (some ⟨(ρ k).b, (ρ k).o + (o + n), none⟩)) := by
  obtain ⟨a, rfl, hle, ha⟩ := hv.here
  have ha := ha (by omega)
  subst ha
  refine ⟨_, rfl, fun ρ' hag => ?_⟩
  obtain ⟨a', he, hle', ha'⟩ := hv ρ' hag
  have ha' := ha' (by omega)
  subst ha'
  simp only [Value.slice.injEq, Option.some.injEq, Addr.mk.injEq, and_true, true_and] at he
  show _ = _
  simp only [Value.pointer.injEq, Option.some.injEq, Addr.mk.injEq, and_true]
  exact ⟨he.1.1, by omega⟩

def indexAddrS (P : Program) (L : Bool) (h : SHeap) (ev : Operand → Option SV) (t : TypeId) (x ix : Operand) (K : KT) : Prop :=
  match num (ev ix), P.underlying t, ev x with
  | some (z, _, i), some (.slice e), some (.c (.s k off len _)) =>
    match sizeT P e with
    | some n => Nd (L || (z && explicit h k)) (decide (0 ≤ i ∧ i < len)) (0 ≤ i ∧ i < len) (K [] { out := .c (.p k (off + i.toNat * n)) })
    | none => False
  | some (z, _, i), some (.array len e), some (.c (.p k off)) =>
    match sizeT P e with
    | some n => Nd (L || z) (decide (0 ≤ i ∧ i < len)) (0 ≤ i ∧ i < len) (K [] { out := .c (.p k (off + i.toNat * n)) })
    | none => False
  | _, _, _ => False
theorem indexAddrS_sound {L : Bool} {t : TypeId} {x ix : Operand} (ho : o.op = .indexAddr t x ix) (hs : indexAddrS P L h ev t x ix K) : Has P C nm h ev o K := by
  unfold indexAddrS at hs
  split at hs
  · rename_i z kd i e k off len cap hi hu hx
    split at hs
    · rename_i n hn
      obtain ⟨hb, hK⟩ := hs.out
      refine has_pure hK fun g ρ f w hW hE => ?_
      obtain ⟨c, hf, hr⟩ := rep_sp (n := i.toNat * n) (hE x _ hx) (by omega)
      refine ⟨_, ?_, hr⟩
      simp [execOp, ho, Instr.indexAt, run_underlying hu, hf, num_run hE hi, asIntOf, hb, run_sizeOf hn, addr_add_own, Nat.add_assoc]
    · exact hs.elim
  · rename_i z kd i len e k off hi hu hx
    split at hs
    · rename_i n hn
      obtain ⟨hb, hK⟩ := hs.out
      refine has_pure hK fun g ρ f w hW hE => ⟨_, ?_, rep_p (n := i.toNat * n) (hE x _ hx)⟩
      have hf : f x = _ := SC.R_p (hE x _ hx).here
      simp [execOp, ho, Instr.indexAt, run_underlying hu, hf, num_run hE hi, asIntOf, hb, run_sizeOf hn, addr_add_own, Instr.sureAddr, Nat.add_assoc]
    · exact hs.elim
  · exact hs.elim

theorem CsR.cellOf {g : SHeap} {ρ : Ren} {cs : List SC} {vs : List Value} (hr : ∀ ρ', Ag g ρ ρ' → ∃ us : List Value, Value.agg vs.toArray = .agg us.toArray ∧ CsR ρ' cs us) : CRep g ρ cs vs := fun ρ' ha => by
  obtain ⟨us, he, h⟩ := hr ρ' ha
  have : vs = us := by simpa using he
  subst this; exact h
def indexS (P : Program) (L : Bool) (ev : Operand → Option SV) (t : TypeId) (x ix : Operand) (K : KT) : Prop :=
  match num (ev ix), P.underlying t, ev x with
  | some (z, _, i), some (.array len e), some (.a cs) =>
    match sizeT P e, isAggT P e with
    | some n, some true => Nd (L || z) (decide (0 ≤ i ∧ i < len)) (0 ≤ i ∧ i < len) (K [] { out := .a ((cs.drop (i.toNat * n)).take n) })
    | some n, some false =>
      Nd (L || z) (decide (0 ≤ i ∧ i < len)) (0 ≤ i ∧ i < len) (match cs[i.toNat * n]? with
      | some y => K [] { out := .c y }
      | none => False)
    | _, _ => False
  | some (_, _, i), some (.array len e), some (.al xs) =>
    match sizeT P e, isAggT P e with
    | some 1, some false => (0 ≤ i ∧ i < len) ∧ ∃ v : Value, xs[i.toNat]? = some v ∧ K [] { out := .c (.v v) }
    | _, _ => False
  | some (_, _, i), some .string, some (.c (.v (.string s))) =>
    match L with
    | true => (match s.data.toList[i.toNat]? with | some b => Ck (decide (0 ≤ i)) (K [] { out := .c (.v (.int .u8 b.toNat)) }) | none => False)
    | false => ∃ b : UInt8, (0 ≤ i ∧ s.data.toList[i.toNat]? = some b) ∧ K [] { out := .c (.v (.int .u8 b.toNat)) }
  | some (z, _, i), some .string, some (.c (.kv (.string s))) =>
    match L || z with
    | true => (match s.data.toList[i.toNat]? with | some b => Ck (decide (0 ≤ i)) (K [] { out := .c (.kv (.int .u8 b.toNat)) }) | none => False)
    | false => ∃ b : UInt8, (0 ≤ i ∧ s.data.toList[i.toNat]? = some b) ∧ K [] { out := .c (.v (.int .u8 b.toNat)) }
  | _, _, _ => False
theorem bytes_get {s : ByteArray} {i : Nat} {b : UInt8} (h : s.data.toList[i]? = some b) : s[i]? = some b := by
  have : s.data[i]? = some b := by simpa using h
  obtain ⟨h1, h2⟩ := Array.getElem?_eq_some_iff.1 this
  exact getElem?_eq_some_iff.2 ⟨h1, h2⟩
theorem indexS_sound {L : Bool} {t : TypeId} {x ix : Operand} (ho : o.op = .index t x ix) (hs : indexS P L ev t x ix K) : Has P C nm h ev o K := by
  unfold indexS at hs
  have str : ∀ {z : Bool} {kd : IntKind} {i : Int} {s : ByteArray} {v : SV} {b : UInt8} {c : SC}, num (ev ix) = some (z, kd, i) → P.underlying t = some .string → ev x = some v → v.lit = some (.string s) → 0 ≤ i → s.data.toList[i.toNat]? = some b →
      (∀ ρ, c.R ρ (.int .u8 b.toNat)) → K [] { out := .c c } → Has P C nm h ev o K := fun {z kd i s v b c} hi hu hx hl h0 hb hc hK => by
    refine has_pure hK fun g ρ f w hW hE => ⟨.int .u8 b.toNat, ?_, fun ρ' _ => hc ρ'⟩
    have hf : f x = .string s := VRep.of_lit hl (hE x _ hx)
    have hfi := num_run hE hi
    have hb' := bytes_get hb
    simp [execOp, ho, Instr.index, run_underlying hu, hf, hfi, asIntOf, h0, hb']
  split at hs
  · rename_i z kd i len e cs hi hu hx
    split at hs
    · rename_i n hn hag
      obtain ⟨hb, hK⟩ := hs.out
      refine has_pure hK fun g ρ f w hW hE => ?_
      obtain ⟨vs, hf, _⟩ := (hE x _ hx).here
      have hr : CRep g ρ cs vs := CsR.cellOf fun ρ' ha => by rw [← hf]; exact hE x _ hx ρ' ha
      refine ⟨.agg ((vs.drop (i.toNat * n)).take n).toArray, ?_, fun ρ' ha => ⟨_, rfl, ((hr ρ' ha).drop).take⟩⟩
      simp [execOp, ho, Instr.index, run_underlying hu, hf, num_run hE hi, asIntOf, hb, run_sizeOf hn, part, run_isAgg hag, List.extract_eq_take_drop]
    · rename_i n hn hag
      obtain ⟨hb, hs⟩ := hs.out
      split at hs
      · rename_i y hy
        refine has_pure hs fun g ρ f w hW hE => ?_
        obtain ⟨vs, hf, _⟩ := (hE x _ hx).here
        have hr : CRep g ρ cs vs := CsR.cellOf fun ρ' ha => by rw [← hf]; exact hE x _ hx ρ' ha
        obtain ⟨v, hv, _⟩ := hr.here.get hy
        refine ⟨v, ?_, fun ρ' ha => ?_⟩
        · simp [execOp, ho, Instr.index, run_underlying hu, hf, num_run hE hi, asIntOf, hb, run_sizeOf hn, part, run_isAgg hag, hv]
        · obtain ⟨v', hv', hr'⟩ := (hr ρ' ha).get hy
          rw [hv] at hv'; cases hv'; exact hr'
      · exact hs.elim
    · exact hs.elim
  · rename_i z kd i len e xs hi hu hx
    split at hs
    · rename_i hn hag
      obtain ⟨hb, v, hv, hK⟩ := hs
      refine has_pure hK fun g ρ f w hW hE => ⟨v, ?_, fun _ _ => rfl⟩
      have hf : f x = .agg xs.toArray := (hE x _ hx).here
      simp [execOp, ho, Instr.index, run_underlying hu, hf, num_run hE hi, asIntOf, hb, run_sizeOf hn, part, run_isAgg hag, hv]
    · exact hs.elim
  · rename_i z kd i s hi hu hx
    split at hs
    · split at hs
      · rename_i b hb
        obtain ⟨h0, hK⟩ := hs.out
        exact str (c := .v (.int .u8 b.toNat)) hi hu hx rfl (by simpa using h0) hb (fun _ => (rfl : _ = _)) hK
      · exact hs.elim
    · obtain ⟨b, ⟨h0, hb⟩, hK⟩ := hs
      exact str (c := .v (.int .u8 b.toNat)) hi hu hx rfl h0 hb (fun _ => (rfl : _ = _)) hK
  · rename_i z kd i s hi hu hx
    split at hs
    · split at hs
      · rename_i b hb
        obtain ⟨h0, hK⟩ := hs.out
        exact str (c := .kv (.int .u8 b.toNat)) hi hu hx rfl (by simpa using h0) hb (fun _ => (rfl : _ = _)) hK
      · exact hs.elim
    · obtain ⟨b, ⟨h0, hb⟩, hK⟩ := hs
      exact str (c := .v (.int .u8 b.toNat)) hi hu hx rfl h0 hb (fun _ => (rfl : _ = _)) hK
  · exact hs.elim

def fieldS (P : Program) (ev : Operand → Option SV) (t : TypeId) (x : Operand) (i : Nat) (K : KT) : Prop :=
  match P.underlying t, ev x with
  | some (.struct fs), some (.a cs) =>
    match fs[i]? with
    | some fd =>
      match sizeT P fd.type, isAggT P fd.type with
      | some n, some true => K [] { out := .a ((cs.drop fd.offset).take n) }
      | some _, some false =>
        match cs[fd.offset]? with
        | some y => K [] { out := .c y }
        | none => False
      | _, _ => False
    | none => False
  | _, _ => False
theorem fieldS_sound {t : TypeId} {x : Operand} {i : Nat} (ho : o.op = .field t x i) (hs : fieldS P ev t x i K) : Has P C nm h ev o K := by
  unfold fieldS at hs
  split at hs
  · rename_i fs cs hu hx
    split at hs
    · rename_i fd hfd
      split at hs
      · rename_i n hn hag
        refine has_pure hs fun g ρ f w hW hE => ?_
        obtain ⟨vs, hf, _⟩ := (hE x _ hx).here
        have hr : CRep g ρ cs vs := CsR.cellOf fun ρ' ha => by rw [← hf]; exact hE x _ hx ρ' ha
        refine ⟨.agg ((vs.drop fd.offset).take n).toArray, ?_, fun ρ' ha => ⟨_, rfl, ((hr ρ' ha).drop).take⟩⟩
        simp [execOp, ho, Instr.field, run_underlying hu, hf, hfd, asAgg, run_sizeOf hn, part, run_isAgg hag, List.extract_eq_take_drop]
      · rename_i n hn hag
        split at hs
        · rename_i y hy
          refine has_pure hs fun g ρ f w hW hE => ?_
          obtain ⟨vs, hf, _⟩ := (hE x _ hx).here
          have hr : CRep g ρ cs vs := CsR.cellOf fun ρ' ha => by rw [← hf]; exact hE x _ hx ρ' ha
          obtain ⟨v, hv, _⟩ := hr.here.get hy
          refine ⟨v, ?_, fun ρ' ha => ?_⟩
          · simp [execOp, ho, Instr.field, run_underlying hu, hf, hfd, asAgg, part, run_isAgg hag, hv]
          · obtain ⟨v', hv', hr'⟩ := (hr ρ' ha).get hy
            rw [hv] at hv'; cases hv'; exact hr'
        · exact hs.elim
      · exact hs.elim
    · exact hs.elim
  · exact hs.elim

def binS (P : Program) (L : Bool) (ev : Operand → Option SV) (op : BinOp) (t : TypeId) (x y : Operand) (K : KT) : Prop :=
  match ev x, ev y with
  | some u, some v =>
    match u.lit, v.lit with
    | some a, some b => binV P L op t x y a b fun r => K [] { out := .c (tagIf (u.known && v.known) r) }
    | _, _ =>
      match P.underlying t, op, u, v with
      | some (.pointer _), .eql, .c (.p _ _), .c (.v (.pointer none)) => K [] { out := .c (.b false) }
      | some (.pointer _), .neq, .c (.p _ _), .c (.v (.pointer none)) => K [] { out := .c (.b true) }
      | _, _, _, _ => False
  | _, _ => False
theorem binS_sound {L : Bool} {op : BinOp} {t yt : TypeId} {x y : Operand} (ho : o.op = .binOp op t x y yt) (hs : binS P L ev op t x y K) : Has P C nm h ev o K := by
  unfold binS at hs
  split at hs
  · rename_i u v hx hy
    split at hs
    · rename_i a b ha hb
      obtain ⟨r, hK, hr⟩ := binV_sound hs
      refine has_pure hK fun g ρ f w hW hE => ⟨r, ?_, fun _ _ => tagIf_R _ _ _⟩
      have hfx : f x = a := VRep.of_lit ha (hE x _ hx)
      have hfy : f y = b := VRep.of_lit hb (hE y _ hy)
      have := hr w
      simp only [execOp, ho, hfx, hfy]
      rw [Sem.run_bind, this]
      rfl
    · split at hs
      · rename_i _ k off hu _
        refine has_pure hs fun g ρ f w hW hE => ⟨.bool false, ?_, fun _ _ => rfl⟩
        have hfx : f x = _ := SC.R_p (hE x _ hx).here
        have hfy : f y = .pointer none := (hE y _ hy).here
        have := run_eql_pointer_nil (P := P) w t (some ⟨(ρ k).b, (ρ k).o + off, none⟩) (by simp [Program.pointee, hu])
        simp only [execOp, ho, hfx, hfy, eqGuard]
        simp [this]
      · rename_i _ k off hu _
        refine has_pure hs fun g ρ f w hW hE => ⟨.bool true, ?_, fun _ _ => rfl⟩
        have hfx : f x = _ := SC.R_p (hE x _ hx).here
        have hfy : f y = .pointer none := (hE y _ hy).here
        have := run_neq_pointer_nil (P := P) w t (some ⟨(ρ k).b, (ρ k).o + off, none⟩) (by simp [Program.pointee, hu])
        simp only [execOp, ho, hfx, hfy, eqGuard]
        simp [this]
      · exact hs.elim
  · exact hs.elim

def unS (P : Program) (ev : Operand → Option SV) (op : UnOp) (x : Operand) (K : KT) : Prop :=
  match op, ev x with
  | .not, some (.c (.b z)) => K [] { out := .c (.b (!z)) }
  | op, some u =>
    match u.lit with
    | some a =>
      match pureRun P (Op.unary op a) with
      | some r => K [] { out := .c (tagIf u.known r) }
      | none => False
    | none => False
  | _, none => False
theorem unS_sound {op : UnOp} {t : TypeId} {x : Operand} (ho : o.op = .unOp op t x) (hs : unS P ev op x K) : Has P C nm h ev o K := by
  unfold unS at hs
  split at hs
  · rename_i z hx
    refine has_pure hs fun g ρ f w hW hE => ⟨.bool (!z), ?_, fun _ _ => rfl⟩
    have hfx : f x = .bool z := (hE x _ hx).here
    simp [execOp, ho, hfx, Op.unary]
  · rename_i u _ hx
    split at hs
    · rename_i a ha
      split at hs
      · rename_i r hr
        refine has_pure hs fun g ρ f w hW hE => ⟨r, ?_, fun _ _ => tagIf_R _ _ _⟩
        have hfx : f x = a := VRep.of_lit ha (hE x _ hx)
        simp only [execOp, ho, hfx]
        rw [Sem.run_bind, pureRun_run hr w]
        rfl
      · exact hs.elim
    · exact hs.elim
  · exact hs.elim

def convS (P : Program) (ev : Operand → Option SV) (src dst : TypeId) (x : Operand) (K : KT) : Prop :=
  match ev x with
  | some u =>
    match u.lit with
    | some a =>
      match pureRun P (convert src dst a) with
      | some r => K [] { out := .c (tagIf u.known r) }
      | none => False
    | none => False
  | none => False
theorem convS_sound {src dst : TypeId} {x : Operand} (ho : o.op = .convert src dst x) (hs : convS P ev src dst x K) : Has P C nm h ev o K := by
  unfold convS at hs
  split at hs
  · rename_i u hx
    split at hs
    · rename_i a ha
      split at hs
      · rename_i r hr
        refine has_pure hs fun g ρ f w hW hE => ⟨r, ?_, fun _ _ => tagIf_R _ _ _⟩
        have hfx : f x = a := VRep.of_lit ha (hE x _ hx)
        simp only [execOp, ho, hfx]
        rw [Sem.run_bind, pureRun_run hr w]
        rfl
      · exact hs.elim
    · exact hs.elim
  · exact hs.elim

theorem TsR.get {ρ : Ren} : ∀ {cs : List (SC ⊕ List SC)} {vs : List Value}, TsR ρ cs vs → ∀ {i : Nat} {c : SC ⊕ List SC}, cs[i]? = some c → ∃ v, vs[i]? = some v ∧ R1 ρ c v
  | _ :: _, v :: _, ⟨a, _⟩, 0, c, h => by simp at h; subst h; exact ⟨v, rfl, a⟩
  | _ :: _, _ :: _, ⟨_, b⟩, i + 1, c, h => by simpa using TsR.get b (by simpa using h)
  | [], [], _, i, c, h => by simp at h
  | [], _ :: _, h, _, _, _ => h.elim
  | _ :: _, [], h, _, _, _ => h.elim
def one : SC ⊕ List SC → SV
  | .inl y => .c y
  | .inr cs => .a cs
theorem one_R {ρ : Ren} {y : SC ⊕ List SC} {v : Value} : (one y).R ρ v ↔ R1 ρ y v := by cases y <;> exact Iff.rfl
def extractS (ev : Operand → Option SV) (x : Operand) (i : Nat) (K : KT) : Prop :=
  match ev x with
  | some (.t vs) =>
    match vs[i]? with
    | some y => K [] { out := one y }
    | none => False
  | _ => False
theorem extractS_sound {x : Operand} {i : Nat} (ho : o.op = .extract x i) (hs : extractS ev x i K) : Has P C nm h ev o K := by
  unfold extractS at hs
  split at hs
  · rename_i vs hx
    split at hs
    · rename_i y hy
      refine has_pure hs fun g ρ f w hW hE => ?_
      obtain ⟨us, hf, hr⟩ := (hE x _ hx).here
      obtain ⟨v, hv, _⟩ := hr.get hy
      refine ⟨v, ?_, fun ρ' ha => ?_⟩
      · simp [execOp, ho, hf, Instr.extract, hv]
      · obtain ⟨us', hf', hr'⟩ := hE x _ hx ρ' ha
        rw [hf] at hf'
        have : us = us' := by simpa using hf'
        subst this
        obtain ⟨v', hv', hr2⟩ := hr'.get hy
        rw [hv] at hv'; cases hv'
        exact one_R.2 hr2
    · exact hs.elim
  · exact hs.elim

def nilCheckS (ev : Operand → Option SV) (x : Operand) (K : KT) : Prop :=
  match ev x with
  | some (.c (.p k o)) => K [] { out := .c (.p k o) }
  | some (.c (.f g cs)) => K [] { out := .c (.f g cs) }
  | some (.c (.y k)) => K [] { out := .c (.y k) }
  | _ => False
theorem nilCheckS_sound {x : Operand} (ho : o.op = .nilCheck x) (hs : nilCheckS ev x K) : Has P C nm h ev o K := by
  unfold nilCheckS at hs
  split at hs
  · rename_i k off hx
    refine has_pure hs fun g ρ f w hW hE => ⟨f x, ?_, hE x _ hx⟩
    have hf : f x = _ := (hE x _ hx).here
    simp [execOp, ho, hf]
  · rename_i fn cs hx
    refine has_pure hs fun g ρ f w hW hE => ⟨f x, ?_, hE x _ hx⟩
    have hf : f x = _ := (hE x _ hx).here
    simp [execOp, ho, hf]
  · rename_i k hx
    refine has_pure hs fun g ρ f w hW hE => ⟨f x, ?_, hE x _ hx⟩
    have hf : f x = _ := (hE x _ hx).here
    simp [execOp, ho, hf]
  · exact hs.elim

/-- The captured pointers of a function value. -/
def capsS (ev : Operand → Option SV) : List Operand → Option (List (Nat × Nat))
  | [] => some []
  | x :: r =>
    match ev x, capsS ev r with
    | some (.c (.p k o)), some l => some ((k, o) :: l)
    | _, _ => none
theorem capsS_R {g : SHeap} {ρ ρ' : Ren} {f : Operand → Value} (hE : ERep g ρ ev f) (ha : Ag g ρ ρ') : ∀ {xs : List Operand} {l : List (Nat × Nat)}, capsS ev xs = some l →
    xs.map f = l.map (capV ρ')
  | [], l, h => by simp only [capsS, Option.some.injEq] at h; subst h; rfl
  | x :: r, l, h => by
    simp only [capsS] at h
    split at h
    · rename_i k o l' hx hr
      cases h
      have : f x = _ := SC.R_p ((hE x _ hx) ρ' ha)
      simp only [List.map_cons, capsS_R hE ha hr, this]
      rfl
    · cases h
def makeFuncS (ev : Operand → Option SV) (fn : Fn) (first captured : Array Operand) (K : KT) : Prop :=
  match fn, first.toList, capsS ev captured.toList with
  | .func g, [], some l => K [] { out := .c (.f g l) }
  | _, _, _ => False
theorem makeFuncS_sound {fn : Fn} {first captured : Array Operand} (ho : o.op = .makeFunc fn first captured) (hs : makeFuncS ev fn first captured K) : Has P C nm h ev o K := by
  unfold makeFuncS at hs
  split at hs
  · rename_i g l hf hl
    have hfirst : first = #[] := by rw [← Array.toList_inj]; simpa using hf
    subst hfirst
    have hc : ∀ {gh : SHeap} {ρ ρ' : Ren} {f : Operand → Value}, ERep gh ρ ev f → Ag gh ρ ρ' → captured.map f = (l.map (capV ρ')).toArray := fun hE ha => by
      rw [← capsS_R hE ha hl, ← Array.toList_inj]; simp
    refine has_pure hs fun gh ρ f w hW hE => ⟨.func (.func g) #[] (captured.map f), ?_, ?_⟩
    · simp [execOp, ho, Instr.makeFunc]
    · intro ρ' ha
      rw [hc hE ha]
      rfl
  · exact hs.elim
end
end Go.Sy
