/- A symbolic run, second making: slices that are made, cut; texts cut; lengths; bytes and texts. -/
import Derived.Test.YtoeeilbpgckhlaaSy5
import Derived.Laws.MakeOwn
import Derived.Laws.BytesString
import Derived.Great.BuildSlice
import Derived.Deep.AppendSrc
import Derived.Deep.Upon
import Derived.Lib.Strings
namespace Go.Sy
open Go

/-! ### bytes as lists -/
def bl (s : ByteArray) : List UInt8 := s.data.toList
def mkB (l : List UInt8) : ByteArray := ⟨l.toArray⟩
theorem bl_mkB (l : List UInt8) : bl (mkB l) = l := by simp [bl, mkB]
theorem mkB_bl (s : ByteArray) : mkB (bl s) = s := by simp [bl, mkB]
theorem size_mkB (l : List UInt8) : (mkB l).size = l.length := rfl
theorem size_bl (s : ByteArray) : s.size = (bl s).length := rfl
def byteV (b : UInt8) : Value := .int .u8 b.toNat
def byteD (b : UInt8) : D := .v (.int .u8 b.toNat)
def bytesD (l : List UInt8) : List D := l.map byteD
theorem bytesD_v (l : List UInt8) : bytesD l = (l.map byteV).map .v := by simp [bytesD, byteD, byteV, Function.comp_def]

/-! ### noughts -/
/-- n elements of nought. -/
def zerosL {α : Type} (z : List α) : Nat → List α
  | 0 => []
  | n + 1 => z ++ zerosL z n
theorem zerosL_length {α : Type} (z : List α) : ∀ n, (zerosL z n).length = n * z.length
  | 0 => by simp [zerosL]
  | n + 1 => by simp [zerosL, zerosL_length z n, Nat.add_mul, Nat.add_comm]
theorem zerosL_get {α : Type} (z : List α) (hz : 0 < z.length) : ∀ (n j : Nat), j < n * z.length → (zerosL z n)[j]? = z[j % z.length]?
  | 0, j, h => by simp at h
  | n + 1, j, h => by
    simp only [zerosL]
    rcases Nat.lt_or_ge j z.length with hj | hj
    · rw [List.getElem?_append_left hj, Nat.mod_eq_of_lt hj]
    · rw [List.getElem?_append_right hj, zerosL_get z hz n (j - z.length) (by rw [Nat.add_mul] at h; omega), ← Nat.mod_eq_sub_mod hj]
theorem zerosL_map {α β : Type} (f : α → β) (z : List α) : ∀ n, zerosL (z.map f) n = (zerosL z n).map f
  | 0 => rfl
  | n + 1 => by simp [zerosL, zerosL_map f z n]
theorem zerosL_one {α : Type} (v : α) : ∀ n, zerosL [v] n = List.replicate n v
  | 0 => rfl
  | n + 1 => by simp [zerosL, zerosL_one v n, List.replicate_succ]
theorem zerosL_add {α : Type} (z : List α) (b : Nat) : ∀ n, zerosL z (n + b) = zerosL z n ++ zerosL z b
  | 0 => by simp [zerosL]
  | n + 1 => by rw [show n + 1 + b = (n + b) + 1 from by omega]; simp [zerosL, zerosL_add z b n]
theorem madeCells_list (z : Array Value) (hz : 0 < z.size) (n : Nat) : madeCells z (n * z.size) = (zerosL z.toList n).toArray := by
  rw [← Array.toList_inj]
  apply List.ext_getElem?
  intro j
  rcases Nat.lt_or_ge j (n * z.size) with hj | hj
  · rw [show (zerosL z.toList n).toArray.toList = zerosL z.toList n from rfl, zerosL_get z.toList (by simpa using hz) _ _ (by simpa using hj)]
    have hm := Nat.mod_lt j hz
    simp [madeCells, hj, hm]
  · rw [List.getElem?_eq_none (by simpa [madeCells] using hj), List.getElem?_eq_none (by simp [zerosL_length]; exact hj)]
/-- A nought as a datum. -/
def zD (v : Value) : D :=
  match v with
  | .slice none 0 0 => .s 0 []
  | v => .v v
theorem nil_rep (w : World) (fz : Nat → Prop) : DRep w fz (.s 0 []) (.slice none 0 0) :=
  .s none 0 [] (fun _ => undef) ⟨0, 0, 0⟩ (Nat.le_refl _) (fun h => absurd h (Nat.lt_irrefl _)) (fun j d h => by simp at h) (fun j d h => by simp at h) (fun j d h => by simp at h)
theorem zD_rep (w : World) (fz : Nat → Prop) (v : Value) (ho : v.oneCell' = true) : DRep w fz (zD v) v := by
  unfold zD
  split
  · exact nil_rep w fz
  · exact .v _ ho
theorem DsRep.zD (w : World) (fz : Nat → Prop) (l : List Value) (ho : ∀ v ∈ l, v.oneCell' = true) : DsRep w fz (l.map zD) l := by
  refine ⟨by simp, fun i d v h1 h2 => ?_⟩
  simp only [List.getElem?_map, h2, Option.map_some, Option.some.injEq] at h1
  subst h1
  exact zD_rep w fz v (ho v (List.mem_of_getElem? h2))
def ones : List Value → Bool
  | [] => true
  | v :: r => v.oneCell' && ones r
theorem ones_spec : ∀ {l : List Value}, ones l = true → ∀ v ∈ l, v.oneCell' = true
  | [], _ => by simp
  | x :: r, h => by
    simp only [ones, Bool.and_eq_true] at h
    intro v hv
    rcases List.mem_cons.1 hv with rfl | hv
    · exact h.1
    · exact ones_spec h.2 v hv
theorem zerosL_mem {α : Type} {z : List α} {v : α} : ∀ {n : Nat}, v ∈ zerosL z n → v ∈ z
  | 0, h => by simp [zerosL] at h
  | n + 1, h => by
    simp only [zerosL, List.mem_append] at h
    rcases h with h | h
    · exact h
    · exact zerosL_mem h
/-- So many noughts, as data. -/
def zerosD (z : List Value) (n : Nat) : List D :=
  match z with
  | [v] => List.replicate n (zD v)
  | z => zerosL (z.map zD) n
theorem zerosD_eq (z : List Value) (n : Nat) : zerosD z n = (zerosL z n).map zD := by
  unfold zerosD
  split
  · rw [zerosL_one]; simp
  · rw [zerosL_map]

section
variable {P : Program} {C : Cfg} {nm : Nat} {h : SHeap} {ev : Operand → Option SV} {o : Oper} {K : KT}

/-- The symbol of a slice of a new block. -/
theorem VRep.new_s {g : SHeap} {ρ : Ren} {nm : Nat} {q : SO} {x : Blk} {len : Nat} {v : Value} (hn : g[nm]? = some none) (hv : ∃ a, v = .slice a len x.cap ∧ len ≤ x.cap ∧ (0 < x.cap → a = some ⟨x.b, x.o, none⟩)) :
    VRep (g.set nm (some q)) (upd ρ nm x) (.c (.s nm 0 len (.hid 0))) v := by
  intro ρ' ha
  have := ha nm _ (List.getElem?_set_self (given_lt hn))
  rw [upd_same] at this
  obtain ⟨a, h1, h2, h3⟩ := hv
  exact ⟨a, by rw [this]; exact h1, by rw [this]; exact h2, by rw [this]; exact h3⟩

/-- A new block that a slice leads to. -/
theorem has_slice {q : SO} {len : Nat} (hK : K [] { out := .c (.s nm 0 len (.hid 0)), news := [q] })
    (hr : ∀ (g : SHeap) ρ f w fz, WRepF C ρ g w fz → ERep g ρ ev f → ∃ (cap : Nat) (ob : Obj), len ≤ cap ∧ (execOp f o).run P w = .ok (.value (.slice (some ⟨w.heap.size, 0, none⟩) len cap)) (w.alloc ob) ∧
      q.Rep g ρ (w.alloc ob) fz ⟨w.heap.size, 0, cap⟩) : Has P C nm h ev o K := by
  refine ⟨[], _, by simp, ?_, hK⟩
  intro g ρ f w _ hn hW hE
  have hn := hn.one
  obtain ⟨fz, hW⟩ := hW
  obtain ⟨cap, ob, hl, hrun, hq⟩ := hr g ρ f w fz hW hE
  exact ⟨upd ρ nm ⟨w.heap.size, 0, cap⟩, _, _, upd_ag hn, .inl hrun, VRep.new_s (x := ⟨w.heap.size, 0, cap⟩) hn ⟨_, rfl, hl, fun _ => rfl⟩, fz, hW.alloc hn rfl hq⟩

def makeSliceS (P : Program) (L : Bool) (nm : Nat) (ev : Operand → Option SV) (t : TypeId) (l c : Operand) (K : KT) : Prop :=
  match P.underlying t, num (ev l), num (ev c) with
  | some (.slice e), some (z1, _, n), some (z2, _, m) =>
    match P.info? e with
    | some i =>
      match i.zero with
      | some z =>
        Nd (L || (z1 && z2)) (decide (0 ≤ n ∧ n ≤ m ∧ (i.bytes : Int) * m ≤ 281474976710656 ∧ m ≤ 9223372036854775807)) (0 ≤ n ∧ n ≤ m ∧ (i.bytes : Int) * m ≤ 281474976710656 ∧ m ≤ 9223372036854775807) <|
        Ck (decide (0 < z.cells.size ∧ z.cells.size = i.size) && ones z.cells.toList) <|
        K [] { out := .c (.s nm 0 n.toNat (.hid 0)), news := [match L || z1 with
          | true => .cells ((zerosL z.cells.toList n.toNat).map tag) e (.hid i.size)
          | false => .row (zerosD z.cells.toList n.toNat) e (.hid i.size)] }
      | none => False
    | none => False
  | _, _, _ => False
theorem makeSliceS_sound {L : Bool} {t : TypeId} {l c : Operand} (ho : o.op = .makeSlice t l c) (hs : makeSliceS P L nm ev t l c K) : Has P C nm h ev o K := by
  unfold makeSliceS at hs
  split at hs
  · rename_i e z1 kl n z2 kc m hu hl hc
    split at hs
    · rename_i i hi
      split at hs
      · rename_i z hz
        obtain ⟨⟨b0, b1, b2, b3⟩, hs⟩ := hs.out
        obtain ⟨hzs, hs⟩ := hs.out
        simp only [Bool.and_eq_true, decide_eq_true_eq] at hzs
        obtain ⟨hzs, hone⟩ := hzs
        refine has_slice hs fun g ρ f w fz hW hE => ?_
        have hr := run_make (P := P) w t e i z hu hi hz kl kc n m b0 b1 b2 b3
        rw [← hzs.2, madeCells_list _ hzs.1, show m.toNat = n.toNat + (m.toNat - n.toNat) from by omega, zerosL_add] at hr
        rw [show n.toNat + (m.toNat - n.toNat) = m.toNat from by omega] at hr
        refine ⟨m.toNat, .cells (zerosL z.cells.toList n.toNat ++ zerosL z.cells.toList (m.toNat - n.toNat)).toArray e, by omega, ?_, ?_⟩
        rotate_left
        · have hH := HoldsC.alloc w e (zerosL z.cells.toList n.toNat ++ zerosL z.cells.toList (m.toNat - n.toNat))
          have hsz : (zerosL z.cells.toList n.toNat).length + (zerosL z.cells.toList (m.toNat - n.toNat)).length = m.toNat * i.size := by
            rw [zerosL_length, zerosL_length, ← hzs.2, Array.length_toList, ← Nat.add_mul]
            congr 1; omega
          cases L || z1 with
          | true => exact ⟨rfl, _, _, hH, hsz, fun ρ' _ => CsR.tags _⟩
          | false => exact ⟨rfl, _, _, fun _ => hH, hsz, by rw [zerosD_eq]; exact DsRep.zD _ _ _ fun v hv => ones_spec hone v (zerosL_mem hv)⟩
        · simp [execOp, ho, num_run hE hl, num_run hE hc, hr]
      · exact hs.elim
    · exact hs.elim
  · exact hs.elim

def buildSliceS (P : Program) (nm : Nat) (ev : Operand → Option SV) (t : TypeId) (len : Nat) (parts : Array (Nat × Operand)) (K : KT) : Prop :=
  match P.underlying t, partsS ev parts.toList with
  | some (.slice e), some l =>
    match P.info? e with
    | some i =>
      match i.zero with
      | some z =>
        match len with
        | 0 => Ck (decide (parts.size = 0)) (K [] { out := .c (.s nm 0 0 (.hid 0)), news := [.cells [] e (.hid i.size)] })
        | _ =>
          match sfill (fun j => some (j * i.size, i.size)) ((zerosL z.cells.toList len).map tag) l with
          | some r =>
            Ck (decide (¬ len * i.size > 2 ^ 24 ∧ ¬ len * i.size = 0 ∧ 0 < z.cells.size ∧ z.cells.size = i.size ∧ r.length = len * i.size)) <|
            K [] { out := .c (.s nm 0 len (.hid 0)), news := [.cells r e (.hid i.size)] }
          | none => False
      | none => False
    | none => False
  | _, _ => False
theorem buildSliceS_sound {t : TypeId} {len : Nat} {parts : Array (Nat × Operand)} (ho : o.op = .buildSlice t len parts) (hs : buildSliceS P nm ev t len parts K) : Has P C nm h ev o K := by
  unfold buildSliceS at hs
  split at hs
  · rename_i e l hu hl
    split at hs
    · rename_i i hi
      split at hs
      · rename_i z hz
        split at hs
        · obtain ⟨hb, hs⟩ := hs.out
          have hb : parts.size = 0 := of_decide_eq_true hb
          have hp : parts = #[] := Array.eq_empty_of_size_eq_zero hb
          subst hp
          refine has_slice hs fun g ρ f w fz hW hE => ⟨0, .cells #[] e, Nat.le_refl _, ?_, ⟨rfl, [], [], HoldsC.alloc w e [], by simp [Tail.Ok], fun _ _ => trivial⟩⟩
          have : (Array.map (fun _ => default) (Array.range 0) : Array Value) = #[] := by simp
          simp [execOp, ho, Instr.buildSlice, run_underlying hu, sizeOf, typeInfo, hi, newRow, Instr.fill, this]
        · split at hs
          · rename_i r hr
            obtain ⟨hb, hs⟩ := hs.out
            simp only [decide_eq_true_eq] at hb
            obtain ⟨b0, b1, b2, b3, b4⟩ := hb
            refine has_slice hs fun g ρ f w fz hW hE => ?_
            have fill : ∀ ρ', Ag g ρ ρ' → ∃ rv : List Value, Instr.fill (fun j => some (j * i.size, i.size)) (zerosL z.cells.toList len).toArray (parts.toList.map fun (j, x) => (j, f x)) = some rv.toArray ∧ CsR ρ' r rv := fun ρ' ha =>
              sfill_R ρ' _ l _ r _ _ hr (CsR.tags _) (partsS_R hE ha hl)
            obtain ⟨rv, hrv, hrr⟩ := fill ρ (Ag.refl _ _)
            have hrun := run_buildSlice (P := P) w t e len (parts.map fun (j, x) => (j, f x)) rv.toArray i z hu hi hz b0 b1 (by
              rw [← madeCells_list _ b2, b3] at hrv
              simpa [madeCells] using hrv)
            refine ⟨_, .cells rv.toArray e, Nat.le_refl _, by simp [execOp, ho, hrun], ⟨rfl, rv, [], ?_, ?_, fun ρ' ha => ?_⟩⟩
            · rw [List.append_nil]; exact HoldsC.alloc _ _ _
            · simp [Tail.Ok, hrr.length, b4]
            · obtain ⟨rv', hrv', hrr'⟩ := fill ρ' ha
              rw [hrv] at hrv'
              have : rv = rv' := by simpa using hrv'
              subst this
              exact hrr'
          · exact hs.elim
      · exact hs.elim
    · exact hs.elim
  · exact hs.elim

/-! ### len, cap -/
def lenS (P : Program) (L : Bool) (h : SHeap) (ev : Operand → Option SV) (c : Call) (K : KT) : Prop :=
  match c.callee, c.args.toList, c.argTypes.toList with
  | .builtin .len, [x], [t] =>
    match P.underlying t, ev x with
    | some (.slice _), some (.c (.s k _ l _)) => K [] { out := .c (tagIf (L || explicit h k) (.int .i64 l)) }
    | some (.slice _), some (.c (.v (.slice none 0 0))) => K [] { out := .c (.kv (.int .i64 0)) }
    | some .string, some (.c (.v (.string s))) => K [] { out := .c (.v (.int .i64 s.size)) }
    | some .string, some (.c (.kv (.string s))) => K [] { out := .c (.kv (.int .i64 s.size)) }
    | some (.array n _), _ => K [] { out := .c (.kv (.int .i64 n)) }
    | _, _ => False
  | .builtin .cap, [x], [t] =>
    match P.underlying t, ev x with
    | some (.slice _), some (.c (.s k _ _ (.lit n))) => K [] { out := .c (tagIf (L || explicit h k) (.int .i64 n)) }
    | some (.slice _), some (.c (.v (.slice none 0 0))) => K [] { out := .c (.kv (.int .i64 0)) }
    | _, _ => False
  | _, _, _ => False
theorem lenS_sound {L : Bool} {c : Call} (ho : o.op = .call c) (hs : lenS P L h ev c K) : Has P C nm h ev o K := by
  unfold lenS at hs
  split at hs
  · rename_i x t hc ha ht
    have ha' : c.args = #[x] := by rw [← Array.toList_inj]; simpa using ha
    have ht' : c.argTypes = #[t] := by rw [← Array.toList_inj]; simpa using ht
    split at hs
    · rename_i e k off l cp hu hx
      refine has_pure hs fun g ρ f w hW hE => ⟨.int .i64 l, ?_, fun ρ' _ => tagIf_R _ _ _⟩
      obtain ⟨a, hf, _⟩ := (hE x _ hx).here
      simp [execOp, ho, resolve, hc, ha', ht', invoke, builtin, Builtin.len_, run_underlying hu, hf, goInt]
    · rename_i e hu hx
      refine has_pure hs fun g ρ f w hW hE => ⟨.int .i64 0, ?_, fun ρ' _ => rfl⟩
      have hf : f x = .slice none 0 0 := (hE x _ hx).here
      simp [execOp, ho, resolve, hc, ha', ht', invoke, builtin, Builtin.len_, run_underlying hu, hf, goInt]
    · rename_i s hu hx
      refine has_pure hs fun g ρ f w hW hE => ⟨_, ?_, fun _ _ => rfl⟩
      have hf : f x = .string s := (hE x _ hx).here
      simp [execOp, ho, resolve, hc, ha', ht', invoke, builtin, Builtin.len_, run_underlying hu, hf, goInt]
    · rename_i s hu hx
      refine has_pure hs fun g ρ f w hW hE => ⟨_, ?_, fun _ _ => rfl⟩
      have hf : f x = .string s := (hE x _ hx).here
      simp [execOp, ho, resolve, hc, ha', ht', invoke, builtin, Builtin.len_, run_underlying hu, hf, goInt]
    · rename_i n e hu
      refine has_pure hs fun g ρ f w hW hE => ⟨.int .i64 n, ?_, fun ρ' _ => rfl⟩
      simp [execOp, ho, resolve, hc, ha', ht', invoke, builtin, Builtin.len_, run_underlying hu, goInt]
    · exact hs.elim
  · rename_i x t hc ha ht
    have ha' : c.args = #[x] := by rw [← Array.toList_inj]; simpa using ha
    have ht' : c.argTypes = #[t] := by rw [← Array.toList_inj]; simpa using ht
    split at hs
    · rename_i e k off l n hu hx
      refine has_pure hs fun g ρ f w hW hE => ⟨.int .i64 n, ?_, fun ρ' _ => tagIf_R _ _ _⟩
      obtain ⟨a, hf, _⟩ := (hE x _ hx).here
      simp [execOp, ho, resolve, hc, ha', ht', invoke, builtin, Builtin.cap_, run_underlying hu, hf, goInt, Cap.den]
    · rename_i e hu hx
      refine has_pure hs fun g ρ f w hW hE => ⟨.int .i64 0, ?_, fun ρ' _ => rfl⟩
      have hf : f x = .slice none 0 0 := (hE x _ hx).here
      simp [execOp, ho, resolve, hc, ha', ht', invoke, builtin, Builtin.cap_, run_underlying hu, hf, goInt]
    · exact hs.elim
  · exact hs.elim

/-! ### slice expressions -/
/-- A bound: none; or a number, known or not. -/
def bnd (ev : Operand → Option SV) : Option Operand → Option (Option (Bool × IntKind × Int))
  | none => some none
  | some x => match num (ev x) with | some y => some (some y) | none => none
def bkn : Option (Bool × IntKind × Int) → Bool
  | none => true
  | some (z, _, _) => z
def bval (d : Nat) : Option (Bool × IntKind × Int) → Nat
  | none => d
  | some (_, _, i) => i.toNat
def bOk (lo : Int) (hi : Nat) : Option (Bool × IntKind × Int) → Prop
  | none => True
  | some (_, _, i) => lo ≤ i ∧ i ≤ hi
instance (lo : Int) (hi : Nat) (b) : Decidable (bOk lo hi b) := by cases b <;> unfold bOk <;> infer_instance
def bv : Option (Bool × IntKind × Int) → Option Value
  | none => none
  | some (_, k, i) => some (.int k i)
theorem bnd_run {g : SHeap} {ρ : Ren} {ev : Operand → Option SV} {f : Operand → Value} {x : Option Operand} {b : Option (Bool × IntKind × Int)} (hE : ERep g ρ ev f) (h : bnd ev x = some b) : x.map f = bv b := by
  unfold bnd at h
  split at h
  · cases h; rfl
  · split at h
    · rename_i x y hy
      cases h
      obtain ⟨z, k, i⟩ := y
      simp [bv, num_run hE hy]
    · cases h
theorem run_sliceBound {P : Program} {w : World} {k : IntKind} {i : Int} {y : Nat} {code : BoundsCode} (h : 0 ≤ i ∧ i ≤ y) : (Instr.sliceBound (.int k i) y code).run P w = .ok i.toNat w := by
  simp [Instr.sliceBound, asIntOf, h]
/-- The three bounds. -/
theorem run_bounds {P : Program} {w : World} (isSlice : Bool) {len cap : Nat} {lo hi mx : Option (Bool × IntKind × Int)} {h m : Nat} (hm : m = bval cap mx) (hh : h = bval len hi) (okm : bOk 0 cap mx) (okh : bOk 0 m hi) (hmh : hi = none → mx = none)
    (okl : bOk 0 h lo) : (Instr.sliceBounds isSlice len cap (bv lo) (bv hi) (bv mx)).run P w = .ok (bval 0 lo, h, m) w := by
  subst hm; subst hh
  unfold Instr.sliceBounds
  cases mx with
  | none =>
    cases hi with
    | none =>
      cases lo with
      | none => simp [bv, bval]
      | some l => obtain ⟨_, kl, l⟩ := l; simp only [bval] at okl; simp [bv, bval, run_sliceBound okl]
    | some hi =>
      obtain ⟨_, kh, hi⟩ := hi
      simp only [bval] at okh
      cases lo with
      | none => simp [bv, bval, run_sliceBound okh]
      | some l => obtain ⟨_, kl, l⟩ := l; simp only [bval] at okl; simp [bv, bval, run_sliceBound okh, run_sliceBound okl]
  | some m =>
    obtain ⟨_, km, m⟩ := m
    cases hi with
    | none => exact absurd (hmh rfl) (by simp)
    | some hi =>
      obtain ⟨_, kh, hi⟩ := hi
      simp only [bval] at okh
      cases lo with
      | none => simp [bv, bval, run_sliceBound okm, run_sliceBound okh]
      | some l => obtain ⟨_, kl, l⟩ := l; simp only [bval] at okl; simp [bv, bval, run_sliceBound okm, run_sliceBound okh, run_sliceBound okl]

/-- How far a slice's own room is known to go, beyond its length. -/
def reach (h : SHeap) (k off : Nat) (size : Nat) : Cap → Option (SO × List D)
  | .hid 0 =>
    match off, h[k]? with
    | 0, some (some (.row xs t (.hid es))) => match Nat.beq es size with | true => some (.row xs t (.hid es), xs) | false => none
    | _, _ => none
  | _ => none
def capB (len : Nat) : Cap → Nat
  | .lit n => n
  | .hid _ => len
def offM (off : Nat) (lo : Option (Bool × IntKind × Int)) (size : Nat) : Nat :=
  match lo with
  | none => off
  | some (_, _, i) => off + i.toNat * size
theorem offM_eq (off : Nat) (lo : Option (Bool × IntKind × Int)) (size : Nat) : offM off lo size = off + bval 0 lo * size := by
  cases lo with
  | none => simp [offM, bval]
  | some l => rfl
def lenM (h : Nat) (lo : Option (Bool × IntKind × Int)) : Nat :=
  match lo with
  | none => h
  | some (_, _, i) => h - i.toNat
theorem lenM_eq (h : Nat) (lo : Option (Bool × IntKind × Int)) : lenM h lo = h - bval 0 lo := by
  cases lo with
  | none => simp [lenM, bval]
  | some l => rfl
def capM (cp : Cap) (lo mx : Option (Bool × IntKind × Int)) : Cap :=
  match mx, cp with
  | some (_, _, m), _ => .lit (m.toNat - bval 0 lo)
  | none, .lit n => .lit (n - bval 0 lo)
  | none, .hid d => .hid (match lo with | none => d | some (_, _, i) => d + i.toNat)
theorem capM_den (x : Blk) (cp : Cap) (lo mx : Option (Bool × IntKind × Int)) : (capM cp lo mx).den x = bval (cp.den x) mx - bval 0 lo := by
  cases mx with
  | some m => rfl
  | none =>
    cases cp with
    | lit n => rfl
    | hid d =>
      cases lo with
      | none => simp [capM, Cap.den, bval]
      | some l => simp only [capM, Cap.den, bval]; omega
def sub (s : ByteArray) (l h : Nat) : ByteArray := mkB (((bl s).drop l).take (h - l))
theorem sub_eq (s : ByteArray) (l h : Nat) : s.extract l h = sub s l h := by
  have h1 := Lib.extract_data s l h
  have h2 : (s.extract l h).data.toList = ((bl s).drop l).take (h - l) := by rw [h1]; rfl
  rw [← mkB_bl (s.extract l h)]
  unfold sub
  rw [show bl (s.extract l h) = (s.extract l h).data.toList from rfl, h2]

def sliceS (P : Program) (L : Bool) (h : SHeap) (ev : Operand → Option SV) (t : TypeId) (x : Operand) (lo hi mx : Option Operand) (K : KT) : Prop :=
  match P.underlying t, ev x, bnd ev lo, bnd ev hi, bnd ev mx with
  | some (.slice e), some (.c (.s k off len cp)), some bl, some bh, some bm =>
    match sizeT P e with
    | some size =>
      Ck (match bh with | some _ => true | none => bm.isNone) <|
      match reach h k off size cp, bh, bm with
      | some (q, xs), some (z, _, i), none =>
        Nd (L || (bkn bl && z && explicit h k)) (decide (0 ≤ i ∧ (i ≤ len ∨ i.toNat * size ≤ xs.length) ∧ bOk 0 i.toNat bl)) (0 ≤ i ∧ (i ≤ len ∨ i.toNat * size ≤ xs.length) ∧ bOk 0 i.toNat bl) <|
        Ck (decide (0 < size)) <|
        K [(k, q)] { out := .c (.s k (offM off bl size) (lenM i.toNat bl) (capM cp bl none)) }
      | _, _, _ =>
        Nd (L || (bkn bl && bkn bh && bkn bm && explicit h k)) (decide (bOk 0 (capB len cp) bm ∧ bOk 0 (bval (capB len cp) bm) bh ∧ bOk 0 (bval len bh) bl)) (bOk 0 (capB len cp) bm ∧ bOk 0 (bval (capB len cp) bm) bh ∧ bOk 0 (bval len bh) bl) <|
        K [] { out := .c (.s k (offM off bl size) (lenM (bval len bh) bl) (capM cp bl bm)) }
    | none => False
  | some (.slice e), some (.c (.v (.slice none 0 0))), some bl, some bh, some bm =>
    match sizeT P e with
    | some _ =>
      Ck (match bh with | some _ => true | none => bm.isNone) <|
      Nd (L || (bkn bl && bkn bh && bkn bm)) (decide (bOk 0 0 bm ∧ bOk 0 0 bh ∧ bOk 0 0 bl)) (bOk 0 0 bm ∧ bOk 0 0 bh ∧ bOk 0 0 bl) <|
      K [] { out := .c (.v (.slice none 0 0)) }
    | none => False
  | some .string, some (.c (.v (.string s))), some bl, some bh, some none =>
    Nd L (decide (bOk 0 s.size bh ∧ bOk 0 (bval s.size bh) bl)) (bOk 0 s.size bh ∧ bOk 0 (bval s.size bh) bl) <|
    K [] { out := .c (.v (.string (sub s (bval 0 bl) (bval s.size bh)))) }
  | some .string, some (.c (.kv (.string s))), some bl, some bh, some none =>
    Nd (L || (bkn bl && bkn bh)) (decide (bOk 0 s.size bh ∧ bOk 0 (bval s.size bh) bl)) (bOk 0 s.size bh ∧ bOk 0 (bval s.size bh) bl) <|
    K [] { out := .c (tagIf (bkn bl && bkn bh) (.string (sub s (bval 0 bl) (bval s.size bh)))) }
  | _, _, _, _, _ => False
theorem has_look0 {v : SV} {k : Nat} {q : SO} (hk : h[k]? = some (some q)) (hK : K [(k, q)] { out := v })
    (hr : ∀ (g : SHeap) ρ f w fz, g[k]? = some (some q) → WRepF C ρ g w fz → ERep g ρ ev f → ∃ x, (execOp f o).run P w = .ok (.value x) w ∧ VRep g ρ v x) : Has P C nm h ev o K :=
  has_look hk hK fun g ρ f w hg hW hE => let ⟨fz, hW⟩ := hW; hr g ρ f w fz hg hW hE

/-- What cutting a slice comes to. -/
theorem slice_run {g : SHeap} {ρ : Ren} {w : World} {t e : TypeId} {size k off len : Nat} {cp : Cap} {bl bh bm : Option (Bool × IntKind × Int)} {u : Value} {hh mm : Nat} (hu : P.underlying t = some (.slice e)) (hn : sizeT P e = some size) (hx : VRep g ρ (.c (.s k off len cp)) u)
    (hm : mm = bval (cp.den (ρ k)) bm) (hhh : hh = bval len bh) (okm : bOk 0 (cp.den (ρ k)) bm) (okh : bOk 0 mm bh) (okl : bOk 0 hh bl) (hmh : bh = none → bm = none) :
    ∃ x, (Instr.slice t u (bv bl) (bv bh) (bv bm)).run P w = .ok x w ∧ VRep g ρ (.c (.s k (offM off bl size) (lenM hh bl) (capM cp bl bm))) x := by
  have nat : ∀ {b : Option (Bool × IntKind × Int)} {d y : Nat}, bOk 0 y b → d ≤ y → bval d b ≤ y := fun {b d y} hb hd => by
    cases b with
    | none => exact hd
    | some b => simp only [bOk] at hb; simp only [bval]; omega
  obtain ⟨a, hf, hle, ha⟩ := hx.here
  subst hf
  have hhm : hh ≤ mm := by
    subst hm; subst hhh
    cases bh with
    | none =>
      rw [hmh rfl]
      exact hle
    | some b => simp only [bOk, bval] at okh ⊢; omega
  have hlh : bval 0 bl ≤ hh := nat okl (Nat.zero_le _)
  have hmc : mm ≤ cp.den (ρ k) := by subst hm; exact nat okm (Nat.le_refl _)
  have hb := run_bounds (P := P) (w := w) true hm hhh okm okh hmh okl
  refine ⟨.slice (if mm = bval 0 bl then a else a.map (·.add (bval 0 bl * size))) (hh - bval 0 bl) (mm - bval 0 bl), ?_, fun ρ' hag => ?_⟩
  · simp [Instr.slice, run_underlying hu, hb, run_sizeOf hn]
  · obtain ⟨a', he, hle', ha'⟩ := hx ρ' hag
    simp only [Value.slice.injEq, true_and] at he
    obtain ⟨rfl, hcd⟩ := he
    have hcap : (capM cp bl bm).den (ρ' k) = mm - bval 0 bl := by rw [capM_den, ← hcd, hm]
    refine ⟨if mm = bval 0 bl then a else a.map (·.add (bval 0 bl * size)), ?_, ?_, fun h0 => ?_⟩
    · rw [lenM_eq, hcap]
    · rw [lenM_eq, hcap]; omega
    · rw [hcap] at h0
      have h1 : a = some ⟨(ρ' k).b, (ρ' k).o + off, none⟩ := ha' (by omega)
      rw [if_neg (by omega), h1, offM_eq]
      simp only [Option.map_some, addr_add_own, Nat.add_assoc]
theorem reach_spec {h : SHeap} {k off size : Nat} {cp : Cap} {q : SO} {xs : List D} (hr : reach h k off size cp = some (q, xs)) : cp = .hid 0 ∧ off = 0 ∧ h[k]? = some (some q) ∧ ∃ t, q = .row xs t (.hid size) := by
  unfold reach at hr
  split at hr
  · split at hr
    · split at hr
      · rename_i hb
        rename_i hk _
        cases hr
        have := Nat.eq_of_beq_eq_true hb
        subst this
        exact ⟨rfl, rfl, hk, _, rfl⟩
      · cases hr
    · cases hr
  · cases hr
theorem bnd_ok_none {bh bm : Option (Bool × IntKind × Int)} (h : (match bh with | some _ => true | none => bm.isNone) = true) : bh = none → bm = none := fun e => by
  subst e; simpa using h
theorem sliceS_sound {L : Bool} {t : TypeId} {x : Operand} {lo hi mx : Option Operand} (ho : o.op = .slice t x lo hi mx) (hs : sliceS P L h ev t x lo hi mx K) : Has P C nm h ev o K := by
  unfold sliceS at hs
  have ex : ((∃ e, P.underlying t = some (.slice e)) ∨ P.underlying t = some .string) → ∀ {g : SHeap} {ρ f} {bl bh bm : Option (Bool × IntKind × Int)} {w : World} {y : Value}, ERep g ρ ev f → bnd ev lo = some bl → bnd ev hi = some bh → bnd ev mx = some bm → (Instr.slice t (f x) (bv bl) (bv bh) (bv bm)).run P w = .ok y w → (execOp f o).run P w = .ok (.value y) w :=
    fun hu {g ρ f bl bh bm w y} hE h1 h2 h3 hr => by
      simp only [execOp, ho, bnd_run hE h1, bnd_run hE h2, bnd_run hE h3]
      have : (Instr.sliceAt t (f x) (bv bl) (bv bh) (bv bm)).run P w = .ok y w := by
        rcases hu with ⟨e, hu⟩ | hu <;> (rw [← hr]; simp [Instr.sliceAt, run_underlying hu])
      rw [Sem.run_bind, this]
      rfl
  split at hs
  · rename_i e k off len cp bl bh bm hu hx hlo hhi hmx
    split at hs
    · rename_i size hn
      obtain ⟨hmh, hs⟩ := hs.out
      split at hs
      · rename_i q xs z kh i hr _
        obtain ⟨⟨h0, h1, h2⟩, hs⟩ := hs.out
        obtain ⟨hpos, hK⟩ := hs.out
        have hpos : 0 < size := of_decide_eq_true hpos
        obtain ⟨rfl, rfl, hk, t0, rfl⟩ := reach_spec hr
        refine has_look0 hk hK fun g ρ f w fz hg hW hE => ?_
        have hle : i ≤ (ρ k).cap := by
          rcases h1 with h1 | h1
          · obtain ⟨a, _, hle, _⟩ := (hE x _ hx).here
            have hle : len ≤ (ρ k).cap - 0 := hle
            omega
          · obtain ⟨_, vs, tail, _, h4, h5⟩ := (hW.objs k _ hg : SO.Rep _ _ _ _ _ _)
            have h4 : vs.length + tail.length = (ρ k).cap * size := h4
            have h6 := h5.1
            have : i.toNat * size ≤ (ρ k).cap * size := by omega
            have := Nat.le_of_mul_le_mul_right this hpos
            omega
        obtain ⟨y, hy, hrep⟩ := slice_run (P := P) (w := w) (bl := bl) (bh := some (z, kh, i)) (bm := none) hu hn (hE x _ hx) rfl rfl trivial ⟨h0, hle⟩ h2 (fun h => by cases h)
        exact ⟨y, ex (.inl ⟨_, hu⟩) hE hlo hhi hmx hy, hrep⟩
      · rename_i bh bm _ _ _ _ _
        obtain ⟨⟨h0, h1, h2⟩, hK⟩ := hs.out
        refine has_pure hK fun g ρ f w hW hE => ?_
        obtain ⟨a, _, hle, _⟩ := (hE x _ hx).here
        have hcap : capB len cp ≤ cp.den (ρ k) := by
          cases cp with
          | lit n => exact Nat.le_refl _
          | hid d => exact hle
        have okm : bOk 0 (cp.den (ρ k)) bm := by
          cases bm with
          | none => trivial
          | some b => simp only [bOk] at h0 ⊢; omega
        have okh : bOk 0 (bval (cp.den (ρ k)) bm) bh := by
          cases bm with
          | none =>
            cases bh with
            | none => trivial
            | some b => simp only [bOk, bval] at h1 ⊢; omega
          | some b => exact h1
        obtain ⟨y, hy, hrep⟩ := slice_run (P := P) (w := w) hu hn (hE x _ hx) rfl rfl okm okh h2 (bnd_ok_none hmh)
        exact ⟨y, ex (.inl ⟨_, hu⟩) hE hlo hhi hmx hy, hrep⟩
    · exact hs.elim
  · rename_i e bl bh bm hu hx hlo hhi hmx
    split at hs
    · rename_i size hn
      obtain ⟨hmh, hs⟩ := hs.out
      obtain ⟨⟨h0, h1, h2⟩, hK⟩ := hs.out
      refine has_pure hK fun g ρ f w hW hE => ⟨.slice none 0 0, ?_, fun _ _ => rfl⟩
      have hf : f x = .slice none 0 0 := (hE x _ hx).here
      refine ex (.inl ⟨_, hu⟩) hE hlo hhi hmx ?_
      have zero : ∀ {b : Option (Bool × IntKind × Int)}, bOk 0 0 b → bval 0 b = 0 := fun {b} hb => by
        cases b with
        | none => rfl
        | some b => simp only [bOk] at hb; simp only [bval]; omega
      have hb := run_bounds (P := P) (w := w) true (len := 0) (cap := 0) (lo := bl) (hi := bh) (mx := bm) (h := 0) (m := 0) (zero h0).symm (zero h1).symm h0 h1 (bnd_ok_none hmh) h2
      rw [hf]
      simp [Instr.slice, run_underlying hu, hb, run_sizeOf hn, zero h2]
    · exact hs.elim
  · rename_i s bl bh hu hx hlo hhi hmx
    obtain ⟨⟨h0, h1⟩, hK⟩ := hs.out
    refine has_pure hK fun g ρ f w hW hE => ⟨_, ?_, fun _ _ => rfl⟩
    have hf : f x = .string s := (hE x _ hx).here
    refine ex (.inr hu) hE hlo hhi hmx ?_
    have hb := run_bounds (P := P) (w := w) false (len := s.size) (cap := s.size) (lo := bl) (hi := bh) (mx := none) rfl rfl trivial h0 (fun _ => rfl) h1
    rw [hf, ← sub_eq]
    simp only [bv] at hb ⊢
    simp [Instr.slice, run_underlying hu, hb]
  · rename_i s bl bh hu hx hlo hhi hmx
    obtain ⟨⟨h0, h1⟩, hK⟩ := hs.out
    refine has_pure hK fun g ρ f w hW hE => ⟨_, ?_, fun _ _ => tagIf_R _ _ _⟩
    have hf : f x = .string s := (hE x _ hx).here
    refine ex (.inr hu) hE hlo hhi hmx ?_
    have hb := run_bounds (P := P) (w := w) false (len := s.size) (cap := s.size) (lo := bl) (hi := bh) (mx := none) rfl rfl trivial h0 (fun _ => rfl) h1
    rw [hf, ← sub_eq]
    simp only [bv] at hb ⊢
    simp [Instr.slice, run_underlying hu, hb]
  · exact hs.elim
end
end Go.Sy
