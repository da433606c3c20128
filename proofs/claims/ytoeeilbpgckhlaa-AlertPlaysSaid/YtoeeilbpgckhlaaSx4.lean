/- A symbolic run: what each operation comes to, and that it does (stores, structs, addresses). -/
import Derived.Test.YtoeeilbpgckhlaaSx3
import Derived.Laws.Tables
namespace Go.Sx
open Go

def splice (l : List SC) (off : Nat) (cs : List SC) : List SC := l.take off ++ cs ++ l.drop (off + cs.length)

theorem splice_den (ρ : Ren) (l cs : List SC) (off : Nat) : dens ρ (splice l off cs) = ((dens ρ l).toList.take off ++ (dens ρ cs).toList ++ (dens ρ l).toList.drop (off + cs.length)).toArray := by
  simp [dens, splice, List.map_take, List.map_drop]

section
variable {C : Cfg} {nm : Nat} {h : SHeap} {ev : Operand → Option SV} {o : Oper} {K : KT}

def storeS (C : Cfg) (h : SHeap) (ev : Operand → Option SV) (t : TypeId) (a x : Operand) (K : KT) : Prop :=
  match ev a, ev x, sizeT C.P t with
  | some (.c (.p k off)), some v, some n =>
    match h[k]?, v.cells with
    | some (some (.cells l t0)), some cs =>
      Ck (decide (cs.length = n) && flats cs && decide (off + cs.length ≤ l.length)) (K (some (k, .cells l t0)) { out := .t [], he := .set k (.cells (splice l off cs) t0) })
    | _, _ => False
  | _, _, _ => False
theorem storeS_sound {t : TypeId} {a x : Operand} (ho : o.op = .store t a x) (hs : storeS C h ev t a x K) : Has C nm h ev o K := by
  unfold storeS at hs
  split at hs
  · rename_i k off v n ha hx hn
    split at hs
    · rename_i l t0 cs hk hc
      obtain ⟨hh, hK⟩ := hs.out
      simp only [Bool.and_eq_true, decide_eq_true_eq] at hh
      obtain ⟨⟨hl, hfl⟩, hle⟩ := hh
      refine ⟨_, _, fun k' q e => by cases e; exact hk, ?_, hK⟩
      intro g ρ f w hT _ hW hE
      have hg : g[k]? = some (some (.cells l t0)) := hT _ _ rfl
      obtain ⟨cur, hcur, hr⟩ := hW.objs k l t0 hg
      have hfa : f a = .pointer (some ⟨ρ k, off, none⟩) := (hE a _ ha).here.symm
      have hfx : (f x).cells = dens ρ cs := by rw [← (hE x _ hx).here, SV.cells_den hc]
      have hsz : cur.size = l.length := by rw [← hr.here, dens_length]
      have hst := run_storeCells_at C.P (ρ k) off t0 (dens ρ cs).toList 0 cur w hcur (by simp [dens_length, hsz]; omega) (flats_den hfl ρ)
      refine ⟨undef, w.setRow (ρ k) (cur.toList.take (off + 0) ++ (dens ρ cs).toList ++ cur.toList.drop (off + 0 + (dens ρ cs).toList.length)).toArray, .inr ⟨?_, rfl⟩, fun _ _ => rfl, ?_⟩
      rotate_left
      · exact hW.set hg hcur (fun ρ' ha' => by
          have h1 := hr ρ' ha'
          have h2 : dens ρ' cs = dens ρ cs := by
            rw [← SV.cells_den hc, ← SV.cells_den hc, (hE x _ hx) ρ' ha', (hE x _ hx).here]
          rw [splice_den, h1, h2]
          simp [dens_length])
      · simp [execOp, ho, hfa, Instr.storeAt, Instr.sureAddr, storeVar, run_sizeOf hn, hfx, dens_length, hl, hst]
    · exact hs.elim
  · exact hs.elim

/-! ### structs built -/
def sfill (place : Nat → Option (Nat × Nat)) (cells : List SC) : List (Nat × List SC) → Option (List SC)
  | [] => some cells
  | (i, pc) :: rest =>
    match place i with
    | none => none
    | some (off, size) =>
      match decide (pc.length = size), decide (off + pc.length ≤ cells.length) with
      | true, true => sfill place (splice cells off pc) rest
      | _, _ => none

theorem foldl_splice (off : Nat) : ∀ (vs : List Value) (k : Nat) (cells : Array Value), off + k + vs.length ≤ cells.size →
    (vs.zipIdx k).foldl (fun cs (c, j) => cs.setIfInBounds (off + j) c) cells = (cells.toList.take (off + k) ++ vs ++ cells.toList.drop (off + k + vs.length)).toArray
  | [], k, cells, _ => by simp
  | v :: vs, k, cells, hle => by
    simp only [List.zipIdx_cons, List.foldl_cons]
    rw [foldl_splice off vs (k + 1) _ (by simp at hle ⊢; omega)]
    simp only [List.length_cons] at hle
    congr 1
    have hlt : off + k < cells.toList.length := by simp; omega
    simp only [Array.toList_setIfInBounds, List.length_cons]
    rw [show off + (k + 1) = off + k + 1 from by omega, List.take_add_one, List.take_set_of_le (by omega), List.getElem?_set_self hlt,
      List.drop_set_of_lt (by omega), show off + k + 1 + vs.length = off + k + (vs.length + 1) from by omega]
    simp

theorem sfill_den (ρ : Ren) (place : Nat → Option (Nat × Nat)) : ∀ (parts : List (Nat × List SC)) (cells : List SC) (r : List SC) (vs : List (Nat × Value)),
    sfill place cells parts = some r → parts.length = vs.length → (∀ (j i : Nat) (pc : List SC), parts[j]? = some (i, pc) → ∃ v : Value, vs[j]? = some (i, v) ∧ v.cells = dens ρ pc) →
    Instr.fill place (dens ρ cells) vs = some (dens ρ r)
  | [], cells, r, vs, hs, hl, _ => by
    cases vs with
    | nil => simp only [sfill, Option.some.injEq] at hs; subst hs; rfl
    | cons _ _ => simp at hl
  | (i, pc) :: rest, cells, r, vs, hs, hl, hv => by
    cases vs with
    | nil => simp at hl
    | cons u us =>
      obtain ⟨v, hu, hvc⟩ := hv 0 i pc rfl
      simp only [List.getElem?_cons_zero, Option.some.injEq] at hu
      subst hu
      simp only [sfill] at hs
      simp only [Instr.fill]
      split at hs
      · cases hs
      · rename_i off size hp
        split at hs
        · rename_i h1 h2
          simp only [decide_eq_true_eq] at h1 h2
          simp only [hp]
          rw [hvc, dens_length, dens_length, if_neg (by simp; omega)]
          have hf : (dens ρ pc).zipIdx.foldl (fun cs (c, j) => cs.setIfInBounds (off + j) c) (dens ρ cells) = dens ρ (splice cells off pc) := by
            rw [← Array.foldl_toList, Array.toList_zipIdx, foldl_splice off _ 0 _ (by simp [dens_length]; omega), splice_den]
            simp [dens_length]
          rw [hf]
          exact sfill_den ρ place rest _ r us hs (by simpa using hl) (fun j i' pc' hj => hv (j + 1) i' pc' hj)
        · cases hs

def sbuilt (P : Program) (t : TypeId) (parts : List (Nat × List SC)) : Option (List SC) :=
  match P.info? t, P.underlying t with
  | some it, some (.array _ e) =>
    match it.zero, P.info? e with
    | some z, some ie => sfill (fun i => some (i * ie.size, ie.size)) (z.cells.toList.map .v) parts
    | _, _ => none
  | some it, some (.struct fields) =>
    match it.zero, fields.toList.mapM (fun f => (P.info? f.type).map fun i => (f.offset, i.size)) with
    | some z, some places => sfill (places.toArray[·]?) (z.cells.toList.map .v) parts
    | _, _ => none
  | _, _ => none
theorem sbuilt_den {P : Program} {t : TypeId} {parts : List (Nat × List SC)} {r : List SC} (hs : sbuilt P t parts = some r) (ρ : Ren) (vs : List (Nat × Value)) (hl : parts.length = vs.length)
    (hv : ∀ (j i : Nat) (pc : List SC), parts[j]? = some (i, pc) → ∃ v : Value, vs[j]? = some (i, v) ∧ v.cells = dens ρ pc) : P.built t vs = some (dens ρ r) := by
  have z0 : ∀ z : Value, dens ρ (z.cells.toList.map .v) = z.cells := fun z => by rw [dens_v]
  unfold sbuilt at hs
  unfold Program.built
  split at hs
  · rename_i it n e hi hu
    split at hs
    · rename_i z ie hz hie
      simp only [hi, hu, hz, hie]
      have := sfill_den ρ _ parts _ r vs hs hl hv
      rwa [z0] at this
    · cases hs
  · rename_i it fields hi hu
    split at hs
    · rename_i z places hz hp
      simp only [hi, hu, hz, hp]
      have := sfill_den ρ _ parts _ r vs hs hl hv
      rwa [z0] at this
    · cases hs
  · cases hs

/-- The parts' symbols. -/
def partsS (ev : Operand → Option SV) : List (Nat × Operand) → Option (List (Nat × List SC))
  | [] => some []
  | (i, x) :: r =>
    match ev x with
    | some v =>
      match v.cells, partsS ev r with
      | some cs, some l => some ((i, cs) :: l)
      | _, _ => none
    | none => none
theorem partsS_den {g : SHeap} {ρ ρ' : Ren} {f : Operand → Value} (hE : ERep g ρ ev f) (ha : Ag g ρ ρ') : ∀ {parts : List (Nat × Operand)} {l : List (Nat × List SC)}, partsS ev parts = some l →
    l.length = (parts.map fun (i, x) => (i, f x)).length ∧ ∀ (j i : Nat) (pc : List SC), l[j]? = some (i, pc) → ∃ v : Value, (parts.map fun (i, x) => (i, f x))[j]? = some (i, v) ∧ v.cells = dens ρ' pc
  | [], l, h => by simp only [partsS, Option.some.injEq] at h; subst h; simp
  | (i, x) :: r, l, h => by
    simp only [partsS] at h
    split at h
    · rename_i v hv
      split at h
      · rename_i cs l' hc hr
        cases h
        obtain ⟨h1, h2⟩ := partsS_den hE ha hr
        refine ⟨by simpa using h1, ?_⟩
        intro j i' pc hj
        cases j with
        | zero =>
          simp only [List.getElem?_cons_zero, Option.some.injEq, Prod.mk.injEq] at hj
          obtain ⟨rfl, rfl⟩ := hj
          exact ⟨f x, by simp, by rw [← hE x v hv ρ' ha, SV.cells_den hc]⟩
        | succ j =>
          simp only [List.getElem?_cons_succ] at hj
          obtain ⟨v', hv', hc'⟩ := h2 j i' pc hj
          exact ⟨v', by simpa using hv', hc'⟩
      · cases h
    · cases h

def buildS (C : Cfg) (ev : Operand → Option SV) (t : TypeId) (parts : Array (Nat × Operand)) (K : KT) : Prop :=
  match partsS ev parts.toList with
  | some l =>
    match sbuilt C.P t l with
    | some r => K none { out := .a r }
    | none => False
  | none => False
theorem buildS_sound {t : TypeId} {parts : Array (Nat × Operand)} (ho : o.op = .build t parts) (hs : buildS C ev t parts K) : Has C nm h ev o K := by
  unfold buildS at hs
  split at hs
  · rename_i l hl
    split at hs
    · rename_i r hr
      refine has_pure hs fun g ρ f w hW hE => ⟨.agg (dens ρ r), ?_, ?_⟩
      · obtain ⟨h1, h2⟩ := partsS_den hE (Ag.refl g ρ) hl
        have hb := sbuilt_den hr ρ _ h1 h2
        have := run_build w t (parts.map fun (i, x) => (i, f x)) (dens ρ r) (by simpa using hb)
        simp [execOp, ho, this]
      · intro ρ' ha
        obtain ⟨h1, h2⟩ := partsS_den hE (Ag.refl g ρ) hl
        obtain ⟨h3, h4⟩ := partsS_den hE ha hl
        have e1 := sbuilt_den hr ρ _ h1 h2
        have e2 := sbuilt_den hr ρ' _ h3 h4
        rw [e1] at e2
        simp only [Option.some.injEq] at e2
        simp [SV.den, e2]
    · exact hs.elim
  · exact hs.elim

/-! ### addresses -/
def fieldAddrS (C : Cfg) (ev : Operand → Option SV) (s : TypeId) (x : Operand) (i : Nat) (K : KT) : Prop :=
  match C.P.underlying s, ev x with
  | some (.struct fs), some v =>
    match fs[i]? with
    | some fd =>
      match sizeT C.P fd.type, v with
      | some (_ + 1), .c (.p k off) => K none { out := .c (.p k (off + fd.offset)) }
      | some (_ + 1), .c (.v (.pointer (some a))) => K none { out := .c (.v (.pointer (some (a.add fd.offset)))) }
      | _, _ => False
    | none => False
  | _, _ => False
theorem fieldAddrS_sound {s : TypeId} {x : Operand} {i : Nat} (ho : o.op = .fieldAddr s x i) (hs : fieldAddrS C ev s x i K) : Has C nm h ev o K := by
  unfold fieldAddrS at hs
  split at hs
  · rename_i fs v hu hx
    split at hs
    · rename_i fd hfd
      split at hs
      · rename_i n k off hn
        refine has_pure hs fun g ρ f w hW hE => ⟨.pointer (some ⟨ρ k, off + fd.offset, none⟩), ?_, ?_⟩
        · have hf : f x = .pointer (some ⟨ρ k, off, none⟩) := (hE x _ hx).here.symm
          simp [execOp, ho, Instr.fieldAt, run_underlying hu, hfd, hf, Instr.sureAddr, fieldPlace, run_sizeOf hn, addr_add_own]
        · intro ρ' ha
          have := (hE x _ hx) ρ' ha
          rw [← (hE x _ hx).here] at this
          simp only [SV.den, SC.den, Value.pointer.injEq, Option.some.injEq, Addr.mk.injEq, and_true] at this
          simp [SV.den, SC.den, this]
      · rename_i n a hn
        refine has_pure hs fun g ρ f w hW hE => ⟨_, ?_, fun _ _ => rfl⟩
        have hf : f x = .pointer (some a) := (hE x _ hx).here.symm
        simp [execOp, ho, Instr.fieldAt, run_underlying hu, hfd, hf, Instr.sureAddr, fieldPlace, run_sizeOf hn]
      · exact hs.elim
    · exact hs.elim
  · exact hs.elim
end
end Go.Sx
