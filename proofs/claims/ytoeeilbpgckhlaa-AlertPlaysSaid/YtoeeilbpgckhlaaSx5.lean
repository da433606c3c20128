/- A symbolic run: what each operation comes to, and that it does (indexes, arithmetic, slices, the rest). -/
import Derived.Test.YtoeeilbpgckhlaaSx4b
import Derived.Laws.Slices
import Derived.Laws.Strings2
import Derived.Laws.Strings3
import Derived.Laws.Strings
import Derived.Laws.Pointers
namespace Go.Sx
open Go

section
variable {C : Cfg} {nm : Nat} {h : SHeap} {ev : Operand → Option SV} {o : Oper} {K : KT}

def indexAddrS (C : Cfg) (ev : Operand → Option SV) (t : TypeId) (x ix : Operand) (K : KT) : Prop :=
  match ev ix, C.P.underlying t, ev x with
  | some (.c (.v (.int _ i))), some (.slice e), some (.c v) =>
    match sizeT C.P e, v with
    | some n, .s k off len _ => Ck (decide (0 ≤ i ∧ i < len)) (K none { out := .c (.p k (off + i.toNat * n)) })
    | some n, .v (.slice ad len _) => Ck (decide (0 ≤ i ∧ i < len)) (∃ a, ad = some a ∧ K none { out := .c (.v (.pointer (some (a.add (i.toNat * n))))) })
    | _, _ => False
  | some (.c (.v (.int _ i))), some (.array len e), some (.c v) =>
    match sizeT C.P e, v with
    | some n, .p k off => Ck (decide (0 ≤ i ∧ i < len)) (K none { out := .c (.p k (off + i.toNat * n)) })
    | some n, .v (.pointer (some a)) => Ck (decide (0 ≤ i ∧ i < len)) (K none { out := .c (.v (.pointer (some (a.add (i.toNat * n))))) })
    | _, _ => False
  | _, _, _ => False
theorem indexAddrS_sound {t : TypeId} {x ix : Operand} (ho : o.op = .indexAddr t x ix) (hs : indexAddrS C ev t x ix K) : Has C nm h ev o K := by
  unfold indexAddrS at hs
  split at hs
  · rename_i kd i e v hi hu hx
    have hfi : ∀ {g : SHeap} {ρ f}, ERep g ρ ev f → f ix = .int kd i := fun hE => (hE ix _ hi).here.symm
    split at hs
    · rename_i n k off len cap hn
      obtain ⟨hb, hK⟩ := hs.out
      simp only [decide_eq_true_eq] at hb
      refine has_pure hK fun g ρ f w hW hE => ⟨.pointer (some ⟨ρ k, off + i.toNat * n, none⟩), ?_, ?_⟩
      · have hf : f x = .slice (some ⟨ρ k, off, none⟩) len cap := (hE x _ hx).here.symm
        simp [execOp, ho, Instr.indexAt, run_underlying hu, hf, hfi hE, asIntOf, hb, run_sizeOf hn, addr_add_own]
      · intro ρ' ha
        have := (hE x _ hx) ρ' ha
        rw [← (hE x _ hx).here] at this
        simp only [SV.den, SC.den, Value.slice.injEq, Option.some.injEq, Addr.mk.injEq, and_true] at this
        simp [SV.den, SC.den, this]
    · rename_i n ad len cap hn
      obtain ⟨hb, a, rfl, hK⟩ := hs.out
      simp only [decide_eq_true_eq] at hb
      refine has_pure hK fun g ρ f w hW hE => ⟨_, ?_, fun _ _ => rfl⟩
      have hf : f x = .slice (some a) len cap := (hE x _ hx).here.symm
      simp [execOp, ho, Instr.indexAt, run_underlying hu, hf, hfi hE, asIntOf, hb, run_sizeOf hn]
    · exact hs.elim
  · rename_i kd i len e v hi hu hx
    have hfi : ∀ {g : SHeap} {ρ f}, ERep g ρ ev f → f ix = .int kd i := fun hE => (hE ix _ hi).here.symm
    split at hs
    · rename_i n k off hn
      obtain ⟨hb, hK⟩ := hs.out
      simp only [decide_eq_true_eq] at hb
      refine has_pure hK fun g ρ f w hW hE => ⟨.pointer (some ⟨ρ k, off + i.toNat * n, none⟩), ?_, ?_⟩
      · have hf : f x = .pointer (some ⟨ρ k, off, none⟩) := (hE x _ hx).here.symm
        simp [execOp, ho, Instr.indexAt, run_underlying hu, hf, hfi hE, asIntOf, hb, run_sizeOf hn, addr_add_own, Instr.sureAddr]
      · intro ρ' ha
        have := (hE x _ hx) ρ' ha
        rw [← (hE x _ hx).here] at this
        simp only [SV.den, SC.den, Value.pointer.injEq, Option.some.injEq, Addr.mk.injEq, and_true] at this
        simp [SV.den, SC.den, this]
    · rename_i n a hn
      obtain ⟨hb, hK⟩ := hs.out
      simp only [decide_eq_true_eq] at hb
      refine has_pure hK fun g ρ f w hW hE => ⟨_, ?_, fun _ _ => rfl⟩
      have hf : f x = .pointer (some a) := (hE x _ hx).here.symm
      simp [execOp, ho, Instr.indexAt, run_underlying hu, hf, hfi hE, asIntOf, hb, run_sizeOf hn, Instr.sureAddr]
    · exact hs.elim
  · exact hs.elim

def indexS (C : Cfg) (ev : Operand → Option SV) (t : TypeId) (x ix : Operand) (K : KT) : Prop :=
  match ev ix, C.P.underlying t, ev x with
  | some (.c (.v (.int _ i))), some (.array len e), some (.a cs) =>
    match sizeT C.P e, isAggT C.P e with
    | some n, some true => Ck (decide (0 ≤ i ∧ i < len)) (K none { out := .a ((cs.drop (i.toNat * n)).take n) })
    | some n, some false =>
      Ck (decide (0 ≤ i ∧ i < len)) (match cs[i.toNat * n]? with
      | some y => K none { out := .c y }
      | none => False)
    | _, _ => False
  | some (.c (.v (.int _ i))), some .string, some (.c (.v (.string s))) => Ck (decide (0 ≤ i)) (∃ b : UInt8, s[i.toNat]? = some b ∧ K none { out := .c (.v (.int .u8 b.toNat)) })
  | _, _, _ => False
theorem dens_slice (ρ : Ren) (cs : List SC) (a n : Nat) : (dens ρ cs).extract a (a + n) = dens ρ ((cs.drop a).take n) := by
  rw [← Array.toList_inj]
  simp [dens, List.extract_eq_take_drop, List.map_take, List.map_drop]
theorem indexS_sound {t : TypeId} {x ix : Operand} (ho : o.op = .index t x ix) (hs : indexS C ev t x ix K) : Has C nm h ev o K := by
  unfold indexS at hs
  split at hs
  · rename_i kd i len e cs hi hu hx
    have hfi : ∀ {g : SHeap} {ρ f}, ERep g ρ ev f → f ix = .int kd i := fun hE => (hE ix _ hi).here.symm
    split at hs
    · rename_i n hn hag
      obtain ⟨hb, hK⟩ := hs.out
      simp only [decide_eq_true_eq] at hb
      refine has_pure hK fun g ρ f w hW hE => ⟨.agg (dens ρ ((cs.drop (i.toNat * n)).take n)), ?_, ?_⟩
      · have hf : f x = .agg (dens ρ cs) := (hE x _ hx).here.symm
        simp [execOp, ho, Instr.index, run_underlying hu, hf, hfi hE, asIntOf, hb, run_sizeOf hn, part, run_isAgg hag, dens_slice]
      · intro ρ' ha
        have := (hE x _ hx) ρ' ha
        rw [← (hE x _ hx).here] at this
        simp only [SV.den, Value.agg.injEq] at this
        simp only [SV.den, ← dens_slice, this]
    · rename_i n hn hag
      obtain ⟨hb, hs⟩ := hs.out
      simp only [decide_eq_true_eq] at hb
      split at hs
      · rename_i y hy
        refine has_pure hs fun g ρ f w hW hE => ⟨y.den ρ, ?_, ?_⟩
        · have hf : f x = .agg (dens ρ cs) := (hE x _ hx).here.symm
          have hy2 : (dens ρ cs)[i.toNat * n]? = some (y.den ρ) := by simp [dens, hy]
          simp [execOp, ho, Instr.index, run_underlying hu, hf, hfi hE, asIntOf, hb, run_sizeOf hn, part, run_isAgg hag, hy2]
        · intro ρ' ha
          have := (hE x _ hx) ρ' ha
          rw [← (hE x _ hx).here] at this
          simp only [SV.den, Value.agg.injEq] at this
          have h1 : (dens ρ' cs)[i.toNat * n]? = some (y.den ρ') := by simp [dens, hy]
          rw [this] at h1
          have h2 : (dens ρ cs)[i.toNat * n]? = some (y.den ρ) := by simp [dens, hy]
          rw [h2] at h1
          simpa [SV.den] using h1.symm
      · exact hs.elim
    · exact hs.elim
  · rename_i kd i s hi hu hx
    obtain ⟨h0, b, hb, hK⟩ := hs.out
    simp only [decide_eq_true_eq] at h0
    refine has_pure hK fun g ρ f w hW hE => ⟨_, ?_, fun _ _ => rfl⟩
    have hf : f x = .string s := (hE x _ hx).here.symm
    have hfi : f ix = .int kd i := (hE ix _ hi).here.symm
    simp [execOp, ho, Instr.index, run_underlying hu, hf, hfi, asIntOf, h0, hb]
  · exact hs.elim

def fieldS (C : Cfg) (ev : Operand → Option SV) (t : TypeId) (x : Operand) (i : Nat) (K : KT) : Prop :=
  match C.P.underlying t, ev x with
  | some (.struct fs), some (.a cs) =>
    match fs[i]? with
    | some fd =>
      match sizeT C.P fd.type, isAggT C.P fd.type with
      | some n, some true => K none { out := .a ((cs.drop fd.offset).take n) }
      | some _, some false =>
        match cs[fd.offset]? with
        | some y => K none { out := .c y }
        | none => False
      | _, _ => False
    | none => False
  | _, _ => False
theorem fieldS_sound {t : TypeId} {x : Operand} {i : Nat} (ho : o.op = .field t x i) (hs : fieldS C ev t x i K) : Has C nm h ev o K := by
  unfold fieldS at hs
  split at hs
  · rename_i fs cs hu hx
    split at hs
    · rename_i fd hfd
      split at hs
      · rename_i n hn hag
        refine has_pure hs fun g ρ f w hW hE => ⟨.agg (dens ρ ((cs.drop fd.offset).take n)), ?_, ?_⟩
        · have hf : f x = .agg (dens ρ cs) := (hE x _ hx).here.symm
          simp [execOp, ho, Instr.field, run_underlying hu, hf, hfd, asAgg, run_sizeOf hn, part, run_isAgg hag, dens_slice]
        · intro ρ' ha
          have := (hE x _ hx) ρ' ha
          rw [← (hE x _ hx).here] at this
          simp only [SV.den, Value.agg.injEq] at this
          simp only [SV.den, ← dens_slice, this]
      · rename_i n hn hag
        split at hs
        · rename_i y hy
          refine has_pure hs fun g ρ f w hW hE => ⟨y.den ρ, ?_, ?_⟩
          · have hf : f x = .agg (dens ρ cs) := (hE x _ hx).here.symm
            have hy2 : (dens ρ cs)[fd.offset]? = some (y.den ρ) := by simp [dens, hy]
            simp [execOp, ho, Instr.field, run_underlying hu, hf, hfd, asAgg, part, run_isAgg hag, hy2]
          · intro ρ' ha
            have := (hE x _ hx) ρ' ha
            rw [← (hE x _ hx).here] at this
            simp only [SV.den, Value.agg.injEq] at this
            have h1 : (dens ρ' cs)[fd.offset]? = some (y.den ρ') := by simp [dens, hy]
            rw [this] at h1
            have h2 : (dens ρ cs)[fd.offset]? = some (y.den ρ) := by simp [dens, hy]
            rw [h2] at h1
            simpa [SV.den] using h1.symm
        · exact hs.elim
      · exact hs.elim
    · exact hs.elim
  · exact hs.elim

/-! ### what uses no name -/
def binS (C : Cfg) (ev : Operand → Option SV) (op : BinOp) (t : TypeId) (x y : Operand) (K : KT) : Prop :=
  match ev x, ev y with
  | some u, some v =>
    match u.lit, v.lit with
    | some (.agg xs), some (.agg ys) =>
      match eqAgg C.P op t (.agg xs) (.agg ys) with
      | some r => K none { out := .c (.v (.bool r)) }
      | none => False
    | some a, some b =>
      match pureRun C.P (do eqGuard op t x y a b; binOp op t a b) with
      | some r => K none { out := .c (.v r) }
      | none => False
    | _, _ =>
      match C.P.underlying t, op, u, v with
      | some (.pointer _), .eql, .c (.p _ _), .c (.v (.pointer none)) => K none { out := .c (.v (.bool false)) }
      | some (.pointer _), .neq, .c (.p _ _), .c (.v (.pointer none)) => K none { out := .c (.v (.bool true)) }
      | _, _, _, _ => False
  | _, _ => False
theorem binS_sound {op : BinOp} {t yt : TypeId} {x y : Operand} (ho : o.op = .binOp op t x y yt) (hs : binS C ev op t x y K) : Has C nm h ev o K := by
  unfold binS at hs
  split at hs
  · rename_i u v hx hy
    split at hs
    · rename_i xs ys ha hb
      split at hs
      · rename_i r hr
        refine has_pure hs fun g ρ f w hW hE => ⟨.bool r, ?_, fun _ _ => rfl⟩
        have hfx : f x = .agg xs := VRep.of_lit ha (hE x _ hx)
        have hfy : f y = .agg ys := VRep.of_lit hb (hE y _ hy)
        have := eqAgg_run (x := x) (y := y) hr w
        simp only [execOp, ho, hfx, hfy]
        rw [Sem.run_bind, this]
        rfl
      · exact hs.elim
    · rename_i a b _ ha hb
      split at hs
      · rename_i r hr
        refine has_pure hs fun g ρ f w hW hE => ⟨r, ?_, fun _ _ => rfl⟩
        have hfx : f x = a := VRep.of_lit ha (hE x _ hx)
        have hfy : f y = b := VRep.of_lit hb (hE y _ hy)
        have := pureRun_run hr w
        simp only [execOp, ho, hfx, hfy]
        rw [Sem.run_bind, this]
        rfl
      · exact hs.elim
    · split at hs
      · rename_i k off hu _ _
        refine has_pure hs fun g ρ f w hW hE => ⟨_, ?_, fun _ _ => rfl⟩
        have hfx : f x = .pointer (some ⟨ρ k, off, none⟩) := (hE x _ hx).here.symm
        have hfy : f y = .pointer none := (hE y _ hy).here.symm
        have := run_eql_pointer_nil (P := C.P) w t (some ⟨ρ k, off, none⟩) (by simp [Program.pointee, hu])
        simp only [execOp, ho, hfx, hfy, eqGuard]
        simp [this]
      · rename_i k off hu _ _
        refine has_pure hs fun g ρ f w hW hE => ⟨_, ?_, fun _ _ => rfl⟩
        have hfx : f x = .pointer (some ⟨ρ k, off, none⟩) := (hE x _ hx).here.symm
        have hfy : f y = .pointer none := (hE y _ hy).here.symm
        have := run_neq_pointer_nil (P := C.P) w t (some ⟨ρ k, off, none⟩) (by simp [Program.pointee, hu])
        simp only [execOp, ho, hfx, hfy, eqGuard]
        simp [this]
      · exact hs.elim
  · exact hs.elim

def unS (C : Cfg) (ev : Operand → Option SV) (op : UnOp) (x : Operand) (K : KT) : Prop :=
  match op, ev x with
  | .not, some (.c (.b z)) => K none { out := .c (.b (!z)) }
  | op, some u =>
    match u.lit with
    | some a =>
      match pureRun C.P (Op.unary op a) with
      | some r => K none { out := .c (.v r) }
      | none => False
    | none => False
  | _, none => False
theorem unS_sound {op : UnOp} {t : TypeId} {x : Operand} (ho : o.op = .unOp op t x) (hs : unS C ev op x K) : Has C nm h ev o K := by
  unfold unS at hs
  split at hs
  · rename_i z hx
    refine has_pure hs fun g ρ f w hW hE => ⟨.bool (!z), ?_, fun _ _ => rfl⟩
    have hfx : f x = .bool z := (hE x _ hx).here.symm
    simp [execOp, ho, hfx, Op.unary]
  · rename_i u _ hx
    split at hs
    · rename_i a ha
      split at hs
      · rename_i r hr
        refine has_pure hs fun g ρ f w hW hE => ⟨r, ?_, fun _ _ => rfl⟩
        have hfx : f x = a := VRep.of_lit ha (hE x _ hx)
        simp only [execOp, ho, hfx]
        rw [Sem.run_bind, pureRun_run hr w]
        rfl
      · exact hs.elim
    · exact hs.elim
  · exact hs.elim

def convS (C : Cfg) (ev : Operand → Option SV) (src dst : TypeId) (x : Operand) (K : KT) : Prop :=
  match ev x with
  | some u =>
    match u.lit with
    | some a =>
      match pureRun C.P (convert src dst a) with
      | some r => K none { out := .c (.v r) }
      | none => False
    | none => False
  | none => False
theorem convS_sound {src dst : TypeId} {x : Operand} (ho : o.op = .convert src dst x) (hs : convS C ev src dst x K) : Has C nm h ev o K := by
  unfold convS at hs
  split at hs
  · rename_i u hx
    split at hs
    · rename_i a ha
      split at hs
      · rename_i r hr
        refine has_pure hs fun g ρ f w hW hE => ⟨r, ?_, fun _ _ => rfl⟩
        have hfx : f x = a := VRep.of_lit ha (hE x _ hx)
        simp only [execOp, ho, hfx]
        rw [Sem.run_bind, pureRun_run hr w]
        rfl
      · exact hs.elim
    · exact hs.elim
  · exact hs.elim

def extractS (ev : Operand → Option SV) (x : Operand) (i : Nat) (K : KT) : Prop :=
  match ev x with
  | some (.t vs) =>
    match vs[i]? with
    | some (.inl y) => K none { out := .c y }
    | some (.inr cs) => K none { out := .a cs }
    | none => False
  | _ => False
theorem extractS_sound {x : Operand} {i : Nat} (ho : o.op = .extract x i) (hs : extractS ev x i K) : Has C nm h ev o K := by
  unfold extractS at hs
  split at hs
  · rename_i vs hx
    have hf : ∀ {g : SHeap} {ρ f}, ERep g ρ ev f → ∀ ρ', Ag g ρ ρ' → f x = .tuple (vs.map (den1 ρ')).toArray := fun hE ρ' ha => ((hE x _ hx) ρ' ha).symm
    have key : ∀ (y : SC ⊕ List SC) (v : SV), vs[i]? = some y → (∀ ρ, v.den ρ = den1 ρ y) → K none { out := v } → Has C nm h ev o K := fun y v hy hd hK => by
      refine has_pure hK fun g ρ f w hW hE => ⟨den1 ρ y, ?_, ?_⟩
      · have := hf hE ρ (Ag.refl _ _)
        simp [execOp, ho, this, Instr.extract, hy]
      · intro ρ' ha
        have h1 := hf hE ρ' ha
        have h2 := hf hE ρ (Ag.refl _ _)
        rw [h1] at h2
        simp only [Value.tuple.injEq] at h2
        have h3 : (vs.map (den1 ρ')).toArray[i]? = some (den1 ρ' y) := by simp [hy]
        rw [h2] at h3
        have h4 : (vs.map (den1 ρ)).toArray[i]? = some (den1 ρ y) := by simp [hy]
        rw [h4] at h3
        rw [hd]
        simpa using h3.symm
    split at hs
    · rename_i y hy; exact key _ _ hy (fun _ => rfl) hs
    · rename_i cs hy; exact key _ _ hy (fun _ => rfl) hs
    · exact hs.elim
  · exact hs.elim

def nilCheckS (ev : Operand → Option SV) (x : Operand) (K : KT) : Prop :=
  match ev x with
  | some (.c (.p k o)) => K none { out := .c (.p k o) }
  | some (.c (.v (.pointer (some a)))) => K none { out := .c (.v (.pointer (some a))) }
  | some (.c (.f g cs)) => K none { out := .c (.f g cs) }
  | _ => False
theorem nilCheckS_sound {x : Operand} (ho : o.op = .nilCheck x) (hs : nilCheckS ev x K) : Has C nm h ev o K := by
  unfold nilCheckS at hs
  split at hs
  · rename_i k off hx
    refine has_pure hs fun g ρ f w hW hE => ⟨f x, ?_, hE x _ hx⟩
    have hf := (hE x _ hx).here
    simp only [SV.den, SC.den] at hf
    simp [execOp, ho, ← hf]
  · rename_i a hx
    refine has_pure hs fun g ρ f w hW hE => ⟨f x, ?_, hE x _ hx⟩
    have hf := (hE x _ hx).here
    simp only [SV.den, SC.den] at hf
    simp [execOp, ho, ← hf]
  · rename_i fn cs hx
    refine has_pure hs fun g ρ f w hW hE => ⟨f x, ?_, hE x _ hx⟩
    have hf := (hE x _ hx).here
    simp only [SV.den, SC.den] at hf
    simp [execOp, ho, ← hf]
  · exact hs.elim

/-- The captured pointers of a function value. -/
def capsS (ev : Operand → Option SV) : List Operand → Option (List (Nat × Nat))
  | [] => some []
  | x :: r =>
    match ev x, capsS ev r with
    | some (.c (.p k o)), some l => some ((k, o) :: l)
    | _, _ => none
theorem capsS_den {g : SHeap} {ρ ρ' : Ren} {f : Operand → Value} (hE : ERep g ρ ev f) (ha : Ag g ρ ρ') : ∀ {xs : List Operand} {l : List (Nat × Nat)}, capsS ev xs = some l →
    xs.map f = l.map fun (k, o) => Value.pointer (some ⟨ρ' k, o, none⟩)
  | [], l, h => by simp only [capsS, Option.some.injEq] at h; subst h; rfl
  | x :: r, l, h => by
    simp only [capsS] at h
    split at h
    · rename_i k o l' hx hr
      cases h
      have := (hE x _ hx) ρ' ha
      simp only [SV.den, SC.den] at this
      simp [capsS_den hE ha hr, ← this]
    · cases h
def makeFuncS (ev : Operand → Option SV) (fn : Fn) (first captured : Array Operand) (K : KT) : Prop :=
  match fn, first.toList, capsS ev captured.toList with
  | .func g, [], some l => K none { out := .c (.f g l) }
  | _, _, _ => False
theorem makeFuncS_sound {fn : Fn} {first captured : Array Operand} (ho : o.op = .makeFunc fn first captured) (hs : makeFuncS ev fn first captured K) : Has C nm h ev o K := by
  unfold makeFuncS at hs
  split at hs
  · rename_i g l hf hl
    have hfirst : first = #[] := by rw [← Array.toList_inj]; simpa using hf
    subst hfirst
    have hc : ∀ {gh : SHeap} {ρ ρ' : Ren} {f : Operand → Value}, ERep gh ρ ev f → Ag gh ρ ρ' → captured.map f = (l.map fun (k, o) => Value.pointer (some ⟨ρ' k, o, none⟩)).toArray := fun hE ha => by
      rw [← capsS_den hE ha hl, ← Array.toList_inj]; simp
    refine has_pure hs fun gh ρ f w hW hE => ⟨.func (.func g) #[] (captured.map f), ?_, ?_⟩
    · simp [execOp, ho, Instr.makeFunc]
    · intro ρ' ha
      rw [hc hE ha]
      rfl
  · exact hs.elim
end
end Go.Sx
