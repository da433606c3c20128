/- A symbolic run, second making: what is appended in place, noughts laid, cells copied; all operations together. -/
import Derived.Test.YtoeeilbpgckhlaaSy8
namespace Go.Sy
open Go

section
variable {P : Program} {C : Cfg} {nm : Nat} {h : SHeap} {ev : Operand → Option SV} {o : Oper} {K : KT}

/-- There is room. -/
theorem append_room {w w' : World} {t tx ty e : TypeId} {i : TypeInfo} (ht : P.underlying t = some (.slice e)) (hi : P.info? e = some i) {b n cap : Nat} {a : Option Addr} (ha : 0 < cap → a = some ⟨b, 0, none⟩) {x : Value} {m : Nat} {news : List Value} (hs : Src P i.size tx x m news w)
    (hroom : n + m ≤ cap) (hst : (storeCells ⟨b, n * i.size, none⟩ news 0).run P w = .ok () w') : (Builtin.append_ #[t, tx] ty #[.slice a n cap, x]).run P w = .ok (.slice a (n + m) cap) w' := by
  rcases Nat.eq_zero_or_pos cap with h0 | h0
  · obtain rfl : n = 0 := by omega
    obtain rfl : m = 0 := by omega
    have hnil : news = [] := List.eq_nil_of_length_eq_zero (by simpa using hs.newsLen)
    subst hnil
    have : w = w' := by
      have h1 : (storeCells ⟨b, 0 * i.size, none⟩ [] 0).run P w = .ok () w := rfl
      rw [h1] at hst
      cases hst
      rfl
    subst this
    exact run_append_nothing (P := P) w t tx ty e i ht hi a 0 cap (by omega) x hs
  · have ha := ha h0
    subst ha
    rcases hs.kind with ⟨e', hk⟩ | hk <;> simp [Builtin.append_, run_underlying ht, run_underlying hk, sizeOf, typeInfo, hi, hs.len, hroom, hs.cells, Addr.add_lit, hst]
/-- Is what is appended a part of the very block? -/
def sameName (ev : Operand → Option SV) (c : Call) : Bool :=
  match c.args.toList with
  | [s, x] =>
    match ev s, ev x with
    | some (.c (.s k 0 _ (.hid 0))), some (.c (.s k' _ _ _)) => Nat.beq k k'
    | _, _ => false
  | _ => false
def segS (cs : List SC) (off n : Nat) : List SC := (cs.drop off).take n
def segD (xs : List D) (off n : Nat) : List D := (xs.drop off).take n

def appendInS (P : Program) (L : Bool) (h : SHeap) (ev : Operand → Option SV) (c : Call) (K : KT) : Prop :=
  match c.callee, c.args.toList, c.argTypes.toList with
  | .builtin .append, [s, x], [t, tx] =>
    match P.underlying t, P.underlying tx, ev s, ev x with
    | some (.slice e), some (.slice _), some (.c (.s k 0 n (.hid 0))), some (.c (.s k' off m _)) =>
      match P.info? e with
      | some i =>
        Ck (Nat.beq k k' && decide (0 < i.size)) <|
        match h[k]? with
        | some (some (.cells l t0 (.hid es))) =>
          Ck (Nat.beq es i.size && flats l) <|
          Nd L (decide ((n + m) * i.size ≤ l.length ∧ off + m * i.size ≤ l.length)) ((n + m) * i.size ≤ l.length ∧ off + m * i.size ≤ l.length) <|
          K [(k, .cells l t0 (.hid es))] { out := .c (.s k 0 (n + m) (.hid 0)), sets := [(k, .cells (splice l (n * i.size) (segS l off (m * i.size))) t0 (.hid es))] }
        | some (some (.row xs t0 (.hid es))) =>
          Ck (Nat.beq es i.size) <|
          ((n + m) * i.size ≤ xs.length ∧ off + m * i.size ≤ xs.length) ∧
          K [(k, .row xs t0 (.hid es))] { out := .c (.s k 0 (n + m) (.hid 0)), sets := [(k, .row (over xs (n * i.size) (segD xs off (m * i.size))) t0 (.hid es))] }
        | _ => False
      | none => False
    | _, _, _, _ => False
  | _, _, _ => False
theorem appendInS_sound {L : Bool} {c : Call} (ho : o.op = .call c) (hs : appendInS P L h ev c K) : Has P C nm h ev o K := by
  unfold appendInS at hs
  split at hs
  · rename_i s x t tx hc ha ht
    have ha' : c.args = #[s, x] := by rw [← Array.toList_inj]; simpa using ha
    have ht' : c.argTypes = #[t, tx] := by rw [← Array.toList_inj]; simpa using ht
    have hexec : ∀ (f : Operand → Value) (w : World) r w', (Builtin.append_ #[t, tx] o.type #[f s, f x]).run P w = .ok r w' → (execOp f o).run P w = .ok (.value r) w' := fun f w r w' hr => by
      simp [execOp, ho, resolve, hc, ha', ht', invoke, builtin, hr]
    split at hs
    · rename_i e e' k n k' off m cp hu hux hsv hxv
      split at hs
      · rename_i i hi
        obtain ⟨hb, hs1⟩ := hs.out
        clear hs
        simp only [Bool.and_eq_true, decide_eq_true_eq] at hb
        obtain ⟨hb, hpos⟩ := hb
        have hb := Nat.eq_of_beq_eq_true hb
        subst hb
        have go : ∀ {g : SHeap} {ρ : Ren} {f : Operand → Value} {w w' : World} {ns : List Value} {cells tl : Nat}, ERep g ρ ev f → (ρ k).o = 0 → cells + tl = (ρ k).cap * i.size → (n + m) * i.size ≤ cells → Src P i.size tx (f x) m ns w →
            (storeCells ⟨(ρ k).b, (ρ k).o + n * i.size, none⟩ ns 0).run P w = .ok () w' → ∃ v, (execOp f o).run P w = .ok (.value v) w' ∧ ∀ ρ', Ag g ρ ρ' → (SC.s k 0 (n + m) (.hid 0)).R ρ' v := fun {g ρ f w w' ns cells tl} hE h0 htl hle hS hst => by
          obtain ⟨a, hf, hncap, ha⟩ := (hE s _ hsv).here
          simp only [Cap.den, Nat.sub_zero] at hf hncap ha
          rw [h0] at ha
          have hroom : n + m ≤ (ρ k).cap := Nat.le_of_mul_le_mul_right (Nat.le_trans hle (by omega)) hpos
          rw [h0, Nat.zero_add] at hst
          have hr := append_room (P := P) (ty := o.type) hu hi (n := n) (cap := (ρ k).cap) ha hS hroom hst
          rw [← hf] at hr
          refine ⟨_, hexec f w _ _ hr, fun ρ' hag => ?_⟩
          obtain ⟨a2, hf2, hncap2, ha2⟩ := hE s _ hsv ρ' hag
          simp only [Cap.den, Nat.sub_zero] at hf2 hncap2 ha2
          rw [hf] at hf2
          simp only [Value.slice.injEq, true_and] at hf2
          obtain ⟨rfl, hcc⟩ := hf2
          exact ⟨a, by simp [Cap.den, hcc], by simp only [Cap.den, Nat.sub_zero]; omega, by simpa [Cap.den] using ha2⟩
        split at hs1
        · rename_i l t0 es hk
          obtain ⟨hb, hs⟩ := hs1.out
          simp only [Bool.and_eq_true] at hb
          obtain ⟨hb, hfl⟩ := hb
          have hb := Nat.eq_of_beq_eq_true hb
          subst hb
          obtain ⟨⟨h1, h2⟩, hK⟩ := hs.out
          refine ⟨_, _, fun y hy => by simp only [List.mem_cons, List.not_mem_nil, or_false] at hy; subst hy; exact hk, ?_, hK⟩
          intro g ρ f w hT _ hW hE
          obtain ⟨fz, hW⟩ := hW
          have hg := hT _ (List.mem_singleton.2 rfl)
          obtain ⟨h0, vs, tail, hH, htl, h3⟩ := hW.cellsAt hg
          have hvl := h3.here.length
          have hr : CRep g ρ (segS l off (m * i.size)) ((vs.drop off).take (m * i.size)) := fun ρ' ha => ((h3 ρ' ha).drop).take
          have hone : ∀ v ∈ (vs.drop off).take (m * i.size), v.oneCell' = true := fun v hv => flats_one hfl h3.here v (List.mem_of_mem_drop (List.mem_of_mem_take hv))
          have hS : Src P i.size tx (f x) m ((vs.drop off).take (m * i.size)) w := src_lies hux (hE x _ hxv) (by simp; omega) (fun j v hj => by
            rw [h0, Nat.zero_add, hH.cell]
            rw [List.getElem?_take] at hj
            split at hj
            · rw [List.getElem?_drop] at hj
              rw [List.getElem?_append_left (given_lt hj), hj]
            · cases hj) hone
          have hlen : (segS l off (m * i.size)).length = m * i.size := by simp [segS]; omega
          obtain ⟨w', hst, hW'⟩ := hW.cellsWrite (P := P) (off := n * i.size) hg (by rw [hlen]; rw [← Nat.add_mul]; exact h1) hr hone
          obtain ⟨v, hrun, hv⟩ := go hE h0 htl (by rw [hvl]; exact h1) hS hst
          exact ⟨ρ, v, w', Ag.refl _ _, .inl hrun, fun ρ' ha => hv ρ' (ha.sub sub_set), fz, hW'⟩
        · rename_i xs t0 es hk
          obtain ⟨hb, hs⟩ := hs1.out
          have hb := Nat.eq_of_beq_eq_true hb
          subst hb
          obtain ⟨⟨h1, h2⟩, hK⟩ := hs
          refine ⟨_, _, fun y hy => by simp only [List.mem_cons, List.not_mem_nil, or_false] at hy; subst hy; exact hk, ?_, hK⟩
          intro g ρ f w hT _ hW hE
          obtain ⟨fz, hW⟩ := hW
          have hg := hT _ (List.mem_singleton.2 rfl)
          obtain ⟨h0, vs, tail, hH, htl, h3⟩ := (hW.objs k _ hg : SO.Rep _ _ _ _ _ _)
          have hL := ((hW.lies_row hg).drop (n := off)).take (n := m * i.size)
          obtain ⟨ns, hn, hc'⟩ := lies_vals hL
          have hn : DsRep w fz (segD xs off (m * i.size)) ns := hn
          have hS : Src P i.size tx (f x) m ns w := src_lies hux (hE x _ hxv) (by rw [hn.1]; simp [segD]; omega) hc' hn.one
          have hlen : (segD xs off (m * i.size)).length = m * i.size := by simp [segD]; omega
          obtain ⟨w', hst, hW'⟩ := hW.rowWrite (P := P) (off := n * i.size) hg (by rw [hlen]; rw [← Nat.add_mul]; exact h1) hn hn.one
          obtain ⟨v, hrun, hv⟩ := go hE h0 htl (by rw [h3.1]; exact h1) hS hst
          exact ⟨ρ, v, w', Ag.refl _ _, .inl hrun, fun ρ' ha => hv ρ' (ha.sub sub_set), fz, hW'⟩
        · exact hs1.elim
      · exact hs.elim
    · exact hs.elim
  · exact hs.elim

/-- 'clear' of a slice. -/
def clearS (P : Program) (L : Bool) (h : SHeap) (ev : Operand → Option SV) (c : Call) (K : KT) : Prop :=
  match c.callee, c.args.toList, c.argTypes.toList with
  | .builtin .clear, [x], [t] =>
    match P.underlying t, ev x with
    | some (.slice e), some (.c (.s k off n _)) =>
      match P.info? e with
      | some i =>
        match i.zero with
        | some z =>
          Ck (decide (z.cells.size = i.size ∧ 0 < i.size) && ones z.cells.toList) <|
          match h[k]? with
          | some (some (.cells l t0 m)) =>
            Nd L (decide (off + n * i.size ≤ l.length)) (off + n * i.size ≤ l.length) <|
            K [(k, .cells l t0 m)] { out := .t [], sets := [(k, .cells (splice l off ((zerosL z.cells.toList n).map tag)) t0 m)] }
          | some (some (.row xs t0 m)) =>
            off + n * i.size ≤ xs.length ∧ K [(k, .row xs t0 m)] { out := .t [], sets := [(k, .row (over xs off (zerosD z.cells.toList n)) t0 m)] }
          | _ => False
        | none => False
      | none => False
    | some (.slice _), some (.c (.v (.slice none 0 0))) => K [] { out := .t [] }
    | _, _ => False
  | _, _, _ => False
theorem zeroCells_list (z : Array Value) (hz : 0 < z.size) (n : Nat) : (Builtin.zeroCells z n).toList = zerosL z.toList n := by
  have := madeCells_list z hz n
  rw [← Array.toList_inj] at this
  exact this
theorem clearS_sound {L : Bool} {c : Call} (ho : o.op = .call c) (hs : clearS P L h ev c K) : Has P C nm h ev o K := by
  unfold clearS at hs
  split at hs
  · rename_i x t hc ha ht
    have ha' : c.args = #[x] := by rw [← Array.toList_inj]; simpa using ha
    have ht' : c.argTypes = #[t] := by rw [← Array.toList_inj]; simpa using ht
    have hexec : ∀ (f : Operand → Value) (w w' : World), (Builtin.clear_ #[t] o.type #[f x]).run P w = .ok (.tuple #[]) w' → (execOp f o).run P w = .ok (.value undef) w' := fun f w w' hr => by
      simp [execOp, ho, resolve, hc, ha', ht', invoke, builtin, hr]; rfl
    split at hs
    · rename_i e k off n cp hu hx
      split at hs
      · rename_i i hi
        split at hs
        · rename_i z hz
          obtain ⟨hb, hs⟩ := hs.out
          simp only [Bool.and_eq_true, decide_eq_true_eq] at hb
          obtain ⟨⟨hzs, hpos⟩, hone⟩ := hb
          have hz0 : 0 < z.cells.size := by omega
          have go : ∀ {g : SHeap} {ρ : Ren} {f : Operand → Value} {w w' : World}, ERep g ρ ev f → (storeCells ⟨(ρ k).b, (ρ k).o + off, none⟩ (zerosL z.cells.toList n) 0).run P w = .ok () w' → (execOp f o).run P w = .ok (.value undef) w' := fun {g ρ f w w'} hE hst => by
            obtain ⟨a, hf, hle, ha⟩ := (hE x _ hx).here
            refine hexec f w w' ?_
            rw [hf]
            rcases Nat.eq_zero_or_pos n with h0 | h0
            · subst h0
              have : w = w' := by
                have h1 : (storeCells ⟨(ρ k).b, (ρ k).o + off, none⟩ (zerosL z.cells.toList 0) 0).run P w = .ok () w := rfl
                rw [h1] at hst; cases hst; rfl
              subst this
              cases a <;> simp [Builtin.clear_, run_underlying hu]
            · have ha := ha (by omega)
              subst ha
              obtain ⟨n', rfl⟩ : ∃ n', n = n' + 1 := ⟨n - 1, by omega⟩
              have hzl := zeroCells_list z.cells hz0 (n' + 1)
              simp [Builtin.clear_, run_underlying hu, zeroValue, typeInfo, hi, hz, hzl, hst]
          split at hs
          · rename_i l t0 m hk
            obtain ⟨hle, hK⟩ := hs.out
            refine ⟨_, _, fun y hy => by simp only [List.mem_cons, List.not_mem_nil, or_false] at hy; subst hy; exact hk, ?_, hK⟩
            intro g ρ f w hT _ hW hE
            obtain ⟨fz, hW⟩ := hW
            have hg := hT _ (List.mem_singleton.2 rfl)
            obtain ⟨w', hst, hW'⟩ := hW.cellsWrite (P := P) (off := off) (cs := (zerosL z.cells.toList n).map tag) hg (by simp [zerosL_length, hzs]; exact hle) (fun ρ' _ => CsR.tags _) (fun v hv => ones_spec hone v (zerosL_mem hv))
            exact ⟨ρ, undef, w', Ag.refl _ _, .inl (go hE hst), fun _ _ => ⟨[], rfl, trivial⟩, fz, hW'⟩
          · rename_i xs t0 m hk
            obtain ⟨hle, hK⟩ := hs
            refine ⟨_, _, fun y hy => by simp only [List.mem_cons, List.not_mem_nil, or_false] at hy; subst hy; exact hk, ?_, hK⟩
            intro g ρ f w hT _ hW hE
            obtain ⟨fz, hW⟩ := hW
            have hg := hT _ (List.mem_singleton.2 rfl)
            obtain ⟨w', hst, hW'⟩ := hW.rowWrite (P := P) (off := off) (ys := zerosD z.cells.toList n) (news := zerosL z.cells.toList n) hg (by rw [zerosD_eq, List.length_map, zerosL_length, Array.length_toList, hzs]; exact hle)
              (by rw [zerosD_eq]; exact DsRep.zD _ _ _ fun v hv => ones_spec hone v (zerosL_mem hv)) (fun v hv => ones_spec hone v (zerosL_mem hv))
            exact ⟨ρ, undef, w', Ag.refl _ _, .inl (go hE hst), fun _ _ => ⟨[], rfl, trivial⟩, fz, hW'⟩
          · exact hs.elim
        · exact hs.elim
      · exact hs.elim
    · rename_i e hu hx
      refine has_pure hs fun g ρ f w hW hE => ⟨undef, hexec f w w ?_, fun _ _ => ⟨[], rfl, trivial⟩⟩
      have hf : f x = .slice none 0 0 := (hE x _ hx).here
      rw [hf]
      simp [Builtin.clear_, run_underlying hu]
    · exact hs.elim
  · exact hs.elim

/-! ### all operations -/
def callB (P : Program) (L : Bool) (nm : Nat) (h : SHeap) (ev : Operand → Option SV) (c : Call) (K : KT) : Prop :=
  match c.callee with
  | .builtin .append => match sameName ev c with | true => appendInS P L h ev c K | false => appendS P L nm h ev c K
  | .builtin .len => lenS P L h ev c K
  | .builtin .cap => lenS P L h ev c K
  | .builtin .min => minmaxS P ev c K
  | .builtin .max => minmaxS P ev c K
  | .builtin .clear => clearS P L h ev c K
  | _ => False
/-- All operations but calls, by their kinds. -/
def opS (P : Program) (L : Bool) (nm : Nat) (h : SHeap) (ev : Operand → Option SV) (o : Oper) (K : KT) : Prop :=
  match o.op with
  | .move x => moveS ev x K
  | .assign x => moveS ev x K
  | .pick c a b => pickS ev c a b K
  | .alloc t => allocS P nm t K
  | .box t x => boxS ev nm t x K
  | .build t ps => buildS P ev t ps K
  | .buildSlice t n ps => buildSliceS P nm ev t n ps K
  | .makeSlice t l c => makeSliceS P L nm ev t l c K
  | .load t a => loadS P nm h ev t a K
  | .store t a x => storeS P h ev t a x K
  | .nilCheck x => nilCheckS ev x K
  | .binOp op t x y _ => binS P L ev op t x y K
  | .unOp op _ x => unS P ev op x K
  | .convert src dst x =>
    match P.underlying src, P.underlying dst with
    | some (.slice _), _ => bytesS P L nm h ev src dst x K
    | _, some (.slice _) => bytesS P L nm h ev src dst x K
    | _, _ => convS P ev src dst x K
  | .makeFunc fn first captured => makeFuncS ev fn first captured K
  | .fieldAddr s x f => fieldAddrS P ev s x f K
  | .field t x f => fieldS P ev t x f K
  | .indexAddr t x i => indexAddrS P L h ev t x i K
  | .index t x i => indexS P L ev t x i K
  | .slice t x lo hi mx => sliceS P L h ev t x lo hi mx K
  | .extract x i => extractS ev x i K
  | .call c => callB P L nm h ev c K
  | _ => False
theorem opS_sound {L : Bool} (hs : opS P L nm h ev o K) : Has P C nm h ev o K := by
  unfold opS at hs
  split at hs
  · rename_i hx; exact moveS_sound (.inl hx) hs
  · rename_i hx; exact moveS_sound (.inr hx) hs
  · rename_i hx; exact pickS_sound hx hs
  · rename_i hx; exact allocS_sound hx hs
  · rename_i hx; exact boxS_sound hx hs
  · rename_i hx; exact buildS_sound hx hs
  · rename_i hx; exact buildSliceS_sound hx hs
  · rename_i hx; exact makeSliceS_sound hx hs
  · rename_i hx; exact loadS_sound hx hs
  · rename_i hx; exact storeS_sound hx hs
  · rename_i hx; exact nilCheckS_sound hx hs
  · rename_i hx; exact binS_sound hx hs
  · rename_i hx; exact unS_sound hx hs
  · rename_i hx
    split at hs
    · exact bytesS_sound hx hs
    · exact bytesS_sound hx hs
    · exact convS_sound hx hs
  · rename_i hx; exact makeFuncS_sound hx hs
  · rename_i hx; exact fieldAddrS_sound hx hs
  · rename_i hx; exact fieldS_sound hx hs
  · rename_i hx; exact indexAddrS_sound hx hs
  · rename_i hx; exact indexS_sound hx hs
  · rename_i hx; exact sliceS_sound hx hs
  · rename_i hx; exact extractS_sound hx hs
  · rename_i c hx
    unfold callB at hs
    split at hs
    · split at hs
      · exact appendInS_sound hx hs
      · exact appendS_sound hx hs
    · exact lenS_sound hx hs
    · exact lenS_sound hx hs
    · exact minmaxS_sound hx hs
    · exact minmaxS_sound hx hs
    · exact clearS_sound hx hs
    · exact hs.elim
  · exact hs.elim
end
end Go.Sy
