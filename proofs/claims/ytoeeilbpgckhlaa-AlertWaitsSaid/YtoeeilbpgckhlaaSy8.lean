/- A symbolic run, second making: bytes and texts; the least and the greatest; what is appended in place; noughts laid; all operations together. -/
import Derived.Test.YtoeeilbpgckhlaaSy7
namespace Go.Sy
open Go

/-! ### bytes and texts -/
def toBytes : List Value → Option (List UInt8)
  | [] => some []
  | .int .u8 n :: r => match toBytes r with | some l => some (UInt8.ofNat n.toNat :: l) | none => none
  | _ => none
theorem toBytes_spec : ∀ {vs : List Value} {l : List UInt8}, toBytes vs = some l → ∃ ns : List Int, vs = ns.map (Value.int .u8) ∧ l = ns.map fun n => UInt8.ofNat n.toNat
  | [], l, h => by cases h; exact ⟨[], rfl, rfl⟩
  | v :: r, l, h => by
    unfold toBytes at h
    split at h
    · rename_i he; cases he
    · rename_i n r' he
      cases he
      split at h
      · rename_i l' hl
        cases h
        obtain ⟨ns, h1, h2⟩ := toBytes_spec hl
        exact ⟨n :: ns, by simp [h1], by simp [h2]⟩
      · cases h
    · cases h
theorem foldl_push : ∀ (ns : List Int) (s : ByteArray), ns.foldl (fun r n => r.push (UInt8.ofNat n.toNat)) s = mkB (bl s ++ ns.map fun n => UInt8.ofNat n.toNat)
  | [], s => by simp [mkB_bl]
  | n :: ns, s => by
    rw [List.foldl_cons, foldl_push ns]
    have : bl (s.push (UInt8.ofNat n.toNat)) = bl s ++ [UInt8.ofNat n.toNat] := by
      obtain ⟨⟨x⟩⟩ := s
      simp [bl, ByteArray.push]
    rw [this]
    simp
theorem bytesV_ints (l : List UInt8) : l.map byteV = (l.map fun b => (b.toNat : Int)).map (Value.int .u8) := by simp [byteV, Function.comp_def]
theorem bytes_back (l : List UInt8) : (l.map fun b => (b.toNat : Int)).map (fun n => UInt8.ofNat n.toNat) = l := by simp [Function.comp_def]

theorem run_bytes {P : Program} {w : World} {g : SHeap} {ρ : Ren} {src dst e : TypeId} {k off len : Nat} {cp : Cap} {u : Value} {ns : List Int} (hs : P.underlying src = some (.slice e)) (he : P.underlying e = some (.int .u8)) (hd : P.underlying dst = some .string)
    (hx : VRep g ρ (.c (.s k off len cp)) u) (hl : ns.length = len) (hc : ∀ (j : Nat) n, ns[j]? = some n → w.cell? ⟨(ρ k).b, (ρ k).o + off + j, none⟩ = some (.int .u8 n)) :
    (convert src dst u).run P w = .ok (.string (mkB (ns.map fun n => UInt8.ofNat n.toNat))) w := by
  obtain ⟨a, rfl, hle, ha⟩ := hx.here
  rw [run_convert_bytes_string w src dst e a len _ hs he hd]
  rcases Nat.eq_zero_or_pos len with h0 | h0
  · subst h0
    have : ns = [] := List.eq_nil_of_length_eq_zero hl
    subst this
    cases a with
    | none => rfl
    | some a =>
      have := run_bytesToString (P := P) w a 0 (cp.den (ρ k)) [] (by simpa using run_loadCells_list (P := P) w a [] (fun j v h => by simp at h))
      rw [this]
      rfl
  · have ha := ha (by omega)
    subst ha
    have := run_bytesToString (P := P) w ⟨(ρ k).b, (ρ k).o + off, none⟩ len (cp.den (ρ k)) ns (by
      have := run_loadCells_list (P := P) w ⟨(ρ k).b, (ρ k).o + off, none⟩ (ns.map (Value.int .u8)) (fun j v hj => by
        rw [addr_add_own]
        simp only [List.getElem?_map, Option.map_eq_some_iff] at hj
        obtain ⟨n, hn, rfl⟩ := hj
        exact hc j n hn)
      rwa [List.length_map, hl] at this)
    rw [this, foldl_push]
    rfl

theorem freeze_alloc (w : World) (cs : Array Value) (e : TypeId) (n : Nat) : (w.alloc (.cells cs e)).freeze ⟨w.heap.size, n, none⟩ 1 = w.alloc (.cells cs e (n, n + 1)) := by
  unfold World.freeze World.alloc
  simp only [show ¬ (1 = 0) by omega, if_false]
  congr 1
  apply Array.ext
  · simp
  · intro j h1 h2
    simp only [Array.getElem_modify]
    by_cases hj : w.heap.size = j
    · subst hj; simp
    · simp only [if_neg hj]
      simp at h1
      rw [Array.getElem_push_lt (by omega), Array.getElem_push_lt (by omega)]
theorem run_toBytes {P : Program} (w : World) (src dst e : TypeId) (s : ByteArray) (hs : P.underlying src = some .string) (hd : P.underlying dst = some (.slice e)) (he : P.underlying e = some (.int .u8)) :
    ∃ (cap : Nat), s.size ≤ cap ∧ (convert src dst (.string s)).run P w = .ok (.slice (some ⟨w.heap.size, 0, none⟩) s.size cap)
      (w.drew.alloc (.cells ((bl s).map byteV ++ List.replicate (cap - s.size) (Value.int .u8 0)).toArray e (cap, cap + 1))) := by
  have hge := grownCap_ge w s.size 0 e
  refine ⟨grownCap w s.size 0 e, hge, ?_⟩
  have e1 : (convert src dst (.string s)).run P w = (Conv.stringToBytes e s).run P w := by
    simp [convert, run_underlying hs, run_underlying hd, run_underlying he]
  rw [e1]
  have harr : (s.data.map (fun b => Value.int .u8 b.toNat) ++ Array.replicate (grownCap w s.size 0 e - s.size) (Value.int .u8 0) : Array Value) = ((bl s).map byteV ++ List.replicate (grownCap w s.size 0 e - s.size) (Value.int .u8 0)).toArray := by
    rw [← Array.toList_inj]
    simp [bl]
    intro a _
    rfl
  have hsz : (s.data.map (fun b => Value.int .u8 b.toNat) ++ Array.replicate (grownCap w s.size 0 e - s.size) (Value.int .u8 0) : Array Value).size = grownCap w s.size 0 e := by
    have : s.data.size = s.size := rfl
    simp only [Array.size_append, Array.size_map, Array.size_replicate, this]
    omega
  have hfr := freeze_alloc w.drew (s.data.map (fun b => Value.int .u8 b.toNat) ++ Array.replicate (grownCap w s.size 0 e - s.size) (Value.int .u8 0)) e (grownCap w s.size 0 e)
  rw [harr] at hfr hsz
  have hsh : (w.drew.alloc (.cells ((bl s).map byteV ++ List.replicate (grownCap w s.size 0 e - s.size) (Value.int .u8 0)).toArray e)).shape? w.heap.size = some (e, grownCap w s.size 0 e) := by
    have := heap_alloc_new w.drew (.cells ((bl s).map byteV ++ List.replicate (grownCap w s.size 0 e - s.size) (Value.int .u8 0)).toArray e)
    simp only [World.shape?]
    rw [show w.drew.heap.size = w.heap.size from rfl] at this
    rw [this]
    simp only [hsz]
  unfold Conv.stringToBytes
  simp only [choose, Sem.run_bind, Sem.run, Question.forced, Bool.false_eq_true, if_false, Result.andThen_ok]
  have hnew : ∀ arr : Array Value, (newRow e arr).run P w.drew = .ok ⟨w.heap.size, 0, none⟩ (w.drew.alloc (.cells arr e)) := fun arr => rfl
  have hmark : (markStringish ⟨w.heap.size, 0, none⟩).run P (w.drew.alloc (.cells ((bl s).map byteV ++ List.replicate (grownCap w s.size 0 e - s.size) (Value.int .u8 0)).toArray e)) =
      .ok () (w.drew.alloc (.cells ((bl s).map byteV ++ List.replicate (grownCap w s.size 0 e - s.size) (Value.int .u8 0)).toArray e (grownCap w s.size 0 e, grownCap w s.size 0 e + 1))) := by
    rw [← hfr]
    simp only [markStringish, shape, freeze, Sem.run_bind, Sem.run, hsh, Result.andThen_ok]
    rfl
  rw [show (Question.appendCap s.size 0 e).cut (w.tape w.drawn (.appendCap s.size 0 e)) = grownCap w s.size 0 e from rfl, harr]
  rw [show ({ heap := w.heap, tape := w.tape, drawn := w.drawn + 1, os := w.os, output := w.output } : World) = w.drew from rfl, hnew]
  simp only [Result.andThen_ok, hmark]
  rfl

section
variable {P : Program} {C : Cfg} {nm : Nat} {h : SHeap} {ev : Operand → Option SV} {o : Oper} {K : KT}

def bytesS (P : Program) (L : Bool) (nm : Nat) (h : SHeap) (ev : Operand → Option SV) (src dst : TypeId) (x : Operand) (K : KT) : Prop :=
  match P.underlying src, P.underlying dst, ev x with
  | some (.slice e), some .string, some (.c (.s k off len _)) =>
    match P.underlying e with
    | some (.int .u8) =>
      match h[k]? with
      | some (some (.cells cs t m)) =>
        match lits ((cs.drop off).take len) with
        | some vs =>
          match toBytes vs with
          | some l => Ck (decide (off + len ≤ cs.length)) (K [(k, .cells cs t m)] { out := .c (tagIf (L || knownL ((cs.drop off).take len)) (.string (mkB l))) })
          | none => False
        | none => False
      | some (some (.row xs t m)) => ∃ l : List UInt8, ((xs.drop off).take len = bytesD l ∧ off + len ≤ xs.length) ∧ K [(k, .row xs t m)] { out := .c (.v (.string (mkB l))) }
      | some (some (.ice xs)) => ∃ l : List UInt8, ((xs.drop off).take len = bytesD l ∧ off + len ≤ xs.length) ∧ K [(k, .ice xs)] { out := .c (.v (.string (mkB l))) }
      | _ => False
    | _ => False
  | some (.slice e), some .string, some (.c (.v (.slice none 0 0))) =>
    match P.underlying e with
    | some (.int .u8) => K [] { out := .c (.kv (.string (mkB []))) }
    | _ => False
  | some .string, some (.slice e), some (.c (.v (.string s))) =>
    match P.underlying e with
    | some (.int .u8) => K [] { out := .c (.s nm 0 s.size (.hid 0)), news := [match L with | true => .cells ((bl s).map fun b => tag (byteV b)) e (.hid 1) | false => .row (bytesD (bl s)) e (.hid 1)] }
    | _ => False
  | some .string, some (.slice e), some (.c (.kv (.string s))) =>
    match P.underlying e with
    | some (.int .u8) => K [] { out := .c (.s nm 0 s.size (.hid 0)), news := [.cells ((bl s).map fun b => tag (byteV b)) e (.hid 1)] }
    | _ => False
  | _, _, _ => False
theorem bytesS_sound {L : Bool} {src dst : TypeId} {x : Operand} (ho : o.op = .convert src dst x) (hs : bytesS P L nm h ev src dst x K) : Has P C nm h ev o K := by
  have ex : ∀ {f : Operand → Value} {u v : Value} {w w' : World}, f x = u → (convert src dst u).run P w = .ok v w' → (execOp f o).run P w = .ok (.value v) w' := fun {f u v w w'} hf hr => by
    simp only [execOp, ho, hf]
    rw [Sem.run_bind, hr]
    rfl
  have data : ∀ {e : TypeId} {k off len : Nat} {cp : Cap} {q : SO} {xs : List D} {l : List UInt8}, P.underlying src = some (.slice e) → P.underlying e = some (.int .u8) → P.underlying dst = some .string → ev x = some (.c (.s k off len cp)) → h[k]? = some (some q) → dataO q = some xs →
      (xs.drop off).take len = bytesD l → off + len ≤ xs.length → K [(k, q)] { out := .c (.v (.string (mkB l))) } → Has P C nm h ev o K := fun {e k off len cp q xs l} hu he hd hx hk hq hl hle hK => by
    refine has_look0 hk hK fun g ρ f w fz hg hW hE => ⟨_, ?_, fun _ _ => rfl⟩
    have hL := (hW.lies hg hq).drop (n := off) |>.take (n := len)
    rw [hl, bytesD_v, bytesV_ints] at hL
    obtain ⟨ns, hn, hc⟩ := lies_vals hL
    have hn := hn.vals_eq
    subst hn
    have hlen : (l.map fun b => (b.toNat : Int)).length = len := by
      have := congrArg List.length hl
      simp [bytesD] at this
      simp; omega
    have hr := run_bytes (P := P) (w := w) hu he hd (hE x _ hx) hlen (fun j n hj => hc j _ (by rw [List.getElem?_map, hj]; rfl))
    rw [bytes_back] at hr
    exact ex rfl hr
  have made : ∀ {e : TypeId} {s : ByteArray} {v : SV} {q : SO}, P.underlying src = some .string → P.underlying dst = some (.slice e) → P.underlying e = some (.int .u8) → ev x = some v → v.lit = some (.string s) →
      (q = .cells ((bl s).map fun b => tag (byteV b)) e (.hid 1) ∨ q = .row (bytesD (bl s)) e (.hid 1)) → K [] { out := .c (.s nm 0 s.size (.hid 0)), news := [q] } → Has P C nm h ev o K := fun {e s v q} hu hd he hx hl hq hK => by
    refine ⟨[], _, by simp, ?_, hK⟩
    intro g ρ f w _ hn hW hE
    have hn := hn.one
    obtain ⟨fz, hW⟩ := hW
    obtain ⟨cap, hcap, hrun⟩ := run_toBytes (P := P) w src dst e s hu hd he
    have hH : HoldsC (w.drew.alloc (.cells ((bl s).map byteV ++ List.replicate (cap - s.size) (Value.int .u8 0)).toArray e (cap, cap + 1))) w.heap.size e ((bl s).map byteV ++ List.replicate (cap - s.size) (Value.int .u8 0)) := by
      refine ⟨(cap, cap + 1), heap_alloc_new w.drew _, fun j hj h => ?_⟩
      have hsz : (bl s).length = s.size := rfl
      simp only [List.length_append, List.length_map, List.length_replicate, hsz] at hj
      have := h.1
      dsimp only at this
      omega
    have hsum : ((bl s).map byteV).length + (List.replicate (cap - s.size) (Value.int .u8 0)).length = cap * 1 := by
      have hsz : (bl s).length = s.size := rfl
      simp only [List.length_map, List.length_replicate, hsz]
      omega
    have hone : ∀ v ∈ (bl s).map byteV, v.oneCell' = true := fun v hv => by obtain ⟨b, _, rfl⟩ := List.mem_map.1 hv; rfl
    refine ⟨upd ρ nm ⟨w.heap.size, 0, cap⟩, _, _, upd_ag hn, .inl (ex (VRep.of_lit hl (hE x _ hx)) hrun), VRep.new_s (x := ⟨w.heap.size, 0, cap⟩) hn ⟨_, rfl, hcap, fun _ => rfl⟩, fz, hW.drew.alloc hn rfl ?_⟩
    rcases hq with rfl | rfl
    · refine ⟨rfl, _, _, hH, hsum, fun ρ' _ => ?_⟩
      rw [show ((bl s).map fun b => tag (byteV b)) = ((bl s).map byteV).map tag from by simp [Function.comp_def]]
      exact CsR.tags _
    · refine ⟨rfl, _, _, fun _ => hH, hsum, ?_⟩
      rw [bytesD_v]
      exact DsRep.vals _ _ _ hone
  unfold bytesS at hs
  split at hs
  · rename_i e k off len cp hu hd hx
    split at hs
    · rename_i he
      split at hs
      · rename_i cs t m hk
        split at hs
        · rename_i vs hvs
          split at hs
          · rename_i l hl
            obtain ⟨hle, hK⟩ := hs.out
            have hle := of_decide_eq_true hle
            refine has_look0 hk hK fun g ρ f w fz hg hW hE => ⟨_, ?_, fun _ _ => tagIf_R _ _ _⟩
            obtain ⟨h0, us, tail, h1, _, h3⟩ := hW.cellsAt hg
            have hul := h3.here.length
            have hseg := lits_eq hvs ((h3.here.drop).take)
            obtain ⟨ns, hv, hlb⟩ := toBytes_spec hl
            subst hlb
            refine ex rfl (run_bytes (P := P) (w := w) hu he hd (hE x _ hx) ?_ fun j n hj => ?_)
            · have := congrArg List.length (hseg.trans hv)
              simp at this
              omega
            · have hj' : ((us.drop off).take len)[j]? = some (.int .u8 n) := by rw [hseg, hv, List.getElem?_map, hj]; rfl
              rw [List.getElem?_take] at hj'
              split at hj'
              · rw [List.getElem?_drop] at hj'
                rw [h0, Nat.zero_add, h1.cell, List.getElem?_append_left (given_lt hj'), hj']
              · cases hj'
          · exact hs.elim
        · exact hs.elim
      · rename_i xs t m hk
        obtain ⟨l, ⟨hl, hle⟩, hK⟩ := hs
        exact data hu he hd hx hk rfl hl hle hK
      · rename_i xs hk
        obtain ⟨l, ⟨hl, hle⟩, hK⟩ := hs
        exact data hu he hd hx hk rfl hl hle hK
      · exact hs.elim
    · exact hs.elim
  · rename_i e hu hd hx
    split at hs
    · rename_i he
      refine has_pure hs fun g ρ f w hW hE => ⟨.string (mkB []), ?_, fun _ _ => rfl⟩
      have hf : f x = .slice none 0 0 := (hE x _ hx).here
      refine ex hf ?_
      rw [run_convert_bytes_string w src dst e none 0 0 hu he hd]
      rfl
    · exact hs.elim
  · rename_i e s hu hd hx
    split at hs
    · rename_i he
      cases L with
      | true => exact made hu hd he hx rfl (.inl rfl) hs
      | false => exact made hu hd he hx rfl (.inr rfl) hs
    · exact hs.elim
  · rename_i e s hu hd hx
    split at hs
    · rename_i he
      exact made hu hd he hx rfl (.inl rfl) hs
    · exact hs.elim
  · exact hs.elim

/-! ### the least, the greatest -/
def litsE (ev : Operand → Option SV) : List Operand → Option (Bool × List Value)
  | [] => some (true, [])
  | x :: r =>
    match ev x with
    | some v =>
      match v.lit, litsE ev r with
      | some a, some (z, l) => some (v.known && z, a :: l)
      | _, _ => none
    | none => none
theorem litsE_run {g : SHeap} {ρ : Ren} {ev : Operand → Option SV} {f : Operand → Value} (hE : ERep g ρ ev f) : ∀ {xs : List Operand} {z : Bool} {l : List Value}, litsE ev xs = some (z, l) → xs.map f = l
  | [], z, l, h => by cases h; rfl
  | x :: r, z, l, h => by
    simp only [litsE] at h
    split at h
    · rename_i v hv
      split at h
      · rename_i a z' l' ha hr
        cases h
        simp [litsE_run hE hr, VRep.of_lit ha (hE x v hv)]
      · cases h
    · cases h
def minmaxS (P : Program) (ev : Operand → Option SV) (c : Call) (K : KT) : Prop :=
  match litsE ev c.args.toList with
  | some (z, l) =>
    match c.callee with
    | .builtin .min => match pureRun P (Builtin.min_ c.argTypes 0 l.toArray) with | some r => K [] { out := .c (tagIf z r) } | none => False
    | .builtin .max => match pureRun P (Builtin.max_ c.argTypes 0 l.toArray) with | some r => K [] { out := .c (tagIf z r) } | none => False
    | _ => False
  | none => False
theorem minmaxS_sound {c : Call} (ho : o.op = .call c) (hs : minmaxS P ev c K) : Has P C nm h ev o K := by
  unfold minmaxS at hs
  split at hs
  · rename_i z l hl
    have hargs : ∀ {g : SHeap} {ρ : Ren} {f : Operand → Value}, ERep g ρ ev f → c.args.map f = l.toArray := fun hE => by
      rw [← Array.toList_inj]
      simp [litsE_run hE hl]
    split at hs
    · rename_i hc
      split at hs
      · rename_i r hr
        refine has_pure hs fun g ρ f w hW hE => ⟨r, ?_, fun _ _ => tagIf_R _ _ _⟩
        have h1 := pureRun_run hr w
        have h2 : (Builtin.min_ c.argTypes o.type l.toArray).run P w = .ok r w := h1
        simp [execOp, ho, resolve, hc, invoke, builtin, hargs hE, h2]
      · exact hs.elim
    · rename_i hc
      split at hs
      · rename_i r hr
        refine has_pure hs fun g ρ f w hW hE => ⟨r, ?_, fun _ _ => tagIf_R _ _ _⟩
        have h1 := pureRun_run hr w
        have h2 : (Builtin.max_ c.argTypes o.type l.toArray).run P w = .ok r w := h1
        simp [execOp, ho, resolve, hc, invoke, builtin, hargs hE, h2]
      · exact hs.elim
    · exact hs.elim
  · exact hs.elim
end
end Go.Sy
