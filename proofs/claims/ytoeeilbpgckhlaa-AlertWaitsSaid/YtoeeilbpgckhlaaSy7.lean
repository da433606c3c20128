/- A symbolic run, second making: append. -/
import Derived.Test.YtoeeilbpgckhlaaSy6
namespace Go.Sy
open Go

/-- The known cells of a block that may grow. -/
def SO.Cont (h : SHeap) (ρ : Ren) (w : World) (fz : Nat → Prop) : SO → List Value → Prop
  | .cells cs _ _, vs => CRep h ρ cs vs
  | .row xs _ _, vs => DsRep w fz xs vs
  | _, _ => False
def SO.grows (t : TypeId) (es : Nat) : SO → Prop
  | .cells _ t' m => t' = t ∧ m = .hid es
  | .row _ t' m => t' = t ∧ m = .hid es
  | _ => False
section
variable {C : Cfg} {ρ ρ' : Ren} {h g : SHeap} {w w' : World} {fz fz' : Nat → Prop}
theorem SO.Cont.later {q : SO} {vs : List Value} (r : q.Cont h ρ w fz vs) (s : Sub h g) (ha : Ag h ρ ρ') (hz : ∀ b, fz b → fz' b) (hw : ∀ b, fz b → w'.heap[b]? = w.heap[b]?) : q.Cont g ρ' w' fz' vs := by
  cases q with
  | cells cs t m => exact CRep.later r s ha
  | row xs t m => exact DsRep.later r hw hz
  | _ => exact r.elim
theorem SO.Rep.open {q : SO} {x : Blk} {t : TypeId} {es : Nat} (r : q.Rep h ρ w fz x) (hg : q.grows t es) :
    x.o = 0 ∧ ∃ vs tail : List Value, (q.here x → HoldsC w x.b t (vs ++ tail)) ∧ (¬ q.here x → x.cap = 0) ∧ vs.length + tail.length = x.cap * es ∧ q.Cont h ρ w fz vs := by
  cases q with
  | cells cs t' m =>
    obtain ⟨rfl, rfl⟩ := hg
    obtain ⟨h0, vs, tail, h1, h2, h3⟩ := r
    exact ⟨h0, vs, tail, fun _ => h1, fun hn => absurd trivial hn, h2, h3⟩
  | row xs t' m =>
    obtain ⟨rfl, rfl⟩ := hg
    obtain ⟨h0, vs, tail, h1, h2, h3⟩ := r
    exact ⟨h0, vs, tail, h1, fun hn => Nat.eq_zero_of_not_pos hn, h2, h3⟩
  | _ => exact hg.elim
theorem SO.Rep.shut {q : SO} {x : Blk} {t : TypeId} {es : Nat} {vs tail : List Value} (hg : q.grows t es) (h0 : x.o = 0) (h1 : HoldsC w x.b t (vs ++ tail)) (h2 : vs.length + tail.length = x.cap * es) (h3 : q.Cont h ρ w fz vs) : q.Rep h ρ w fz x := by
  cases q with
  | cells cs t' m =>
    obtain ⟨rfl, rfl⟩ := hg
    exact ⟨h0, vs, tail, h1, h2, h3⟩
  | row xs t' m =>
    obtain ⟨rfl, rfl⟩ := hg
    exact ⟨h0, vs, tail, fun _ => h1, h2, h3⟩
  | _ => exact hg.elim
theorem SO.Rep.shut0 {q : SO} {x : Blk} {t : TypeId} {es : Nat} (hg : q.grows t es) (h0 : x.o = 0) (hc : x.cap = 0) (hn : ¬ q.here x) (h3 : q.Cont h ρ w fz []) : q.Rep h ρ w fz x := by
  cases q with
  | cells cs t' m => exact absurd trivial hn
  | row xs t' m =>
    obtain ⟨rfl, rfl⟩ := hg
    exact ⟨h0, [], [], fun hh => absurd hh hn, by show _ = _ * _; rw [hc]; simp, h3⟩
  | _ => exact hg.elim

/-! ### what is appended -/
abbrev News := List SC ⊕ List D
def NewsRep (g : SHeap) (ρ : Ren) (w : World) (fz : Nat → Prop) : News → List Value → Prop
  | .inl cs, ns => CRep g ρ cs ns
  | .inr ds, ns => DsRep w fz ds ns

def srcS (P : Program) (L : Bool) (h : SHeap) (ev : Operand → Option SV) (size : Nat) (tx : TypeId) (x : Operand) (K : Nat → News → List (Nat × SO) → Prop) : Prop :=
  match P.underlying tx, ev x with
  | some (.slice _), some (.c (.s k off m _)) =>
    match h[k]? with
    | some (some (.cells l t mo)) => Ck (decide (off + m * size ≤ l.length) && flats l) (K m (.inl ((l.drop off).take (m * size))) [(k, .cells l t mo)])
    | some (some (.row xs t mo)) => off + m * size ≤ xs.length ∧ K m (.inr ((xs.drop off).take (m * size))) [(k, .row xs t mo)]
    | some (some (.ice xs)) => off + m * size ≤ xs.length ∧ K m (.inr ((xs.drop off).take (m * size))) [(k, .ice xs)]
    | _ => False
  | some (.slice _), some (.c (.v (.slice none 0 0))) => K 0 (.inl []) []
  | some .string, some (.c (.v (.string s))) => Ck (Nat.beq size 1) (match L with | true => K s.size (.inl ((bl s).map fun b => tag (byteV b))) [] | false => K s.size (.inr (bytesD (bl s))) [])
  | some .string, some (.c (.kv (.string s))) => Ck (Nat.beq size 1) (K s.size (.inl ((bl s).map fun b => tag (byteV b))) [])
  | _, _ => False
end

section
variable {P : Program} {C : Cfg} {nm : Nat} {h : SHeap} {ev : Operand → Option SV} {o : Oper} {K : KT}

/-- Values that lie in a row, as they are appended. -/
theorem src_lies {g : SHeap} {ρ : Ren} {w : World} {size : Nat} {tx e' : TypeId} {k off m : Nat} {cp : Cap} {u : Value} {ns : List Value} (hu : P.underlying tx = some (.slice e')) (hx : VRep g ρ (.c (.s k off m cp)) u)
    (hl : ns.length = m * size) (hc : ∀ j v, ns[j]? = some v → w.cell? ⟨(ρ k).b, (ρ k).o + off + j, none⟩ = some v) (hone : ∀ v ∈ ns, v.oneCell' = true) : Src P size tx u m ns w := by
  obtain ⟨a, rfl, hle, ha⟩ := hx.here
  rcases Nat.eq_zero_or_pos m with rfl | hm
  · have : ns = [] := List.eq_nil_of_length_eq_zero (by simpa using hl)
    subst this
    cases a with
    | none => exact Src.ofNil w hu _
    | some a => exact Src.ofSlice w hu a 0 _ [] (by simp) (fun j u hj => by simp at hj) (fun _ h => by cases h)
  · have ha := ha (by omega)
    subst ha
    exact Src.ofSlice w hu _ m _ ns hl (fun j u hj => by rw [addr_add_own]; exact hc j u hj) hone
theorem lies_vals {w : World} {fz : Nat → Prop} {b o : Nat} : ∀ {xs : List D}, Lies w fz b o xs → ∃ ns : List Value, DsRep w fz xs ns ∧ ∀ j v, ns[j]? = some v → w.cell? ⟨b, o + j, none⟩ = some v := by
  intro xs hL
  have hv : ∀ (j : Nat) (hj : j < xs.length), ∃ v, w.cell? ⟨b, o + j, none⟩ = some v ∧ DRep w fz xs[j] v := fun j hj => hL j _ (List.getElem?_eq_getElem hj)
  refine ⟨(List.range xs.length).map fun j => (w.cell? ⟨b, o + j, none⟩).getD undef, ⟨by simp, fun i d v h1 h2 => ?_⟩, fun j v hj => ?_⟩
  · obtain ⟨u, h3, h4⟩ := hL i d h1
    have hi := given_lt h1
    simp only [List.getElem?_map, List.getElem?_range hi, Option.map_some, Option.some.injEq] at h2
    subst h2
    rw [h3]
    exact h4
  · have hi : j < xs.length := by
      rcases Nat.lt_or_ge j xs.length with h | h
      · exact h
      · rw [List.getElem?_eq_none (by simpa using h)] at hj; cases hj
    obtain ⟨u, h3, _⟩ := hL j _ (List.getElem?_eq_getElem hi)
    simp only [List.getElem?_map, List.getElem?_range hi, Option.map_some, Option.some.injEq] at hj
    rw [h3] at hj ⊢
    simp at hj
    rw [hj]
theorem Lies.take {w : World} {fz : Nat → Prop} {b o n : Nat} {xs : List D} (h : Lies w fz b o xs) : Lies w fz b o (xs.take n) := fun j d hj => by
  rw [List.getElem?_take] at hj
  split at hj
  · exact h j d hj
  · cases hj

/-- What the source is good for, wherever the blocks of T are what they are. -/
def SrcOk (P : Program) (C : Cfg) (ev : Operand → Option SV) (size : Nat) (tx : TypeId) (x : Operand) (m : Nat) (news : News) (T : List (Nat × SO)) : Prop :=
  ∀ (g : SHeap) (ρ : Ren) (f : Operand → Value) (w : World) (fz : Nat → Prop), (∀ y ∈ T, g[y.1]? = some (some y.2)) → WRepF C ρ g w fz → ERep g ρ ev f → ∃ ns, Src P size tx (f x) m ns w ∧ NewsRep g ρ w fz news ns
theorem srcS_spec {L : Bool} {size : Nat} {tx : TypeId} {x : Operand} {K : Nat → News → List (Nat × SO) → Prop} (hs : srcS P L h ev size tx x K) :
    ∃ m news T, (∀ y ∈ T, h[y.1]? = some (some y.2)) ∧ K m news T ∧ SrcOk P C ev size tx x m news T := by
  unfold srcS at hs
  have data : ∀ {e' : TypeId} {k off m : Nat} {cp : Cap} {q : SO} {xs : List D}, P.underlying tx = some (.slice e') → ev x = some (.c (.s k off m cp)) → dataO q = some xs → off + m * size ≤ xs.length → SrcOk P C ev size tx x m (.inr ((xs.drop off).take (m * size))) [(k, q)] :=
    fun {e' k off m cp q xs} hu hx hd hle g ρ f w fz hT hW hE => by
      have hg := hT _ (List.mem_singleton.2 rfl)
      have hL := ((hW.lies hg hd).drop (n := off)).take (n := m * size)
      obtain ⟨ns, hn, hc⟩ := lies_vals hL
      exact ⟨ns, src_lies hu (hE x _ hx) (by rw [hn.1]; simp; omega) hc hn.one, hn⟩
  have str : ∀ {s : ByteArray} {v : SV}, P.underlying tx = some .string → ev x = some v → v.lit = some (.string s) → Nat.beq size 1 = true → SrcOk P C ev size tx x s.size (.inl ((bl s).map fun b => tag (byteV b))) [] ∧ SrcOk P C ev size tx x s.size (.inr (bytesD (bl s))) [] := fun {s v} hu hx hl hb => by
    have hb := Nat.eq_of_beq_eq_true hb
    subst hb
    have e1 : byteCells s = (bl s).map byteV := rfl
    refine ⟨fun g ρ f w fz _ _ hE => ⟨byteCells s, ?_, fun ρ' _ => ?_⟩, fun g ρ f w fz _ _ hE => ⟨byteCells s, ?_, ?_⟩⟩
    · rw [VRep.of_lit hl (hE x _ hx)]; exact Src.ofString w hu s
    · rw [e1, show ((bl s).map fun b => tag (byteV b)) = ((bl s).map byteV).map tag from by simp [Function.comp_def]]
      exact CsR.tags _
    · rw [VRep.of_lit hl (hE x _ hx)]; exact Src.ofString w hu s
    · show DsRep w fz _ _
      rw [bytesD_v, e1]
      exact DsRep.vals _ _ _ fun v hv => by obtain ⟨b, _, rfl⟩ := List.mem_map.1 hv; rfl
  split at hs
  · rename_i e' k off m cp hu hx
    split at hs
    · rename_i l t mo hk
      obtain ⟨hb, hK⟩ := hs.out
      simp only [Bool.and_eq_true, decide_eq_true_eq] at hb
      obtain ⟨hle, hfl⟩ := hb
      refine ⟨_, _, _, fun y hy => by simp only [List.mem_cons, List.not_mem_nil, or_false] at hy; subst hy; exact hk, hK, fun g ρ f w fz hT hW hE => ?_⟩
      have hg := hT _ (List.mem_singleton.2 rfl)
      obtain ⟨h0, vs, tail, h1, _, h3⟩ := hW.cellsAt hg
      have hvl := h3.here.length
      refine ⟨(vs.drop off).take (m * size), src_lies hu (hE x _ hx) (by simp; omega) (fun j v hj => ?_) (fun v hv => flats_one hfl h3.here v (List.mem_of_mem_drop (List.mem_of_mem_take hv))), fun ρ' ha => ((h3 ρ' ha).drop).take⟩
      rw [h0, Nat.zero_add, h1.cell]
      rw [List.getElem?_take] at hj
      split at hj
      · rw [List.getElem?_drop] at hj
        rw [List.getElem?_append_left (given_lt hj), hj]
      · cases hj
    · rename_i xs t mo hk
      exact ⟨_, _, _, fun y hy => by simp only [List.mem_cons, List.not_mem_nil, or_false] at hy; subst hy; exact hk, hs.2, data hu hx rfl hs.1⟩
    · rename_i xs hk
      exact ⟨_, _, _, fun y hy => by simp only [List.mem_cons, List.not_mem_nil, or_false] at hy; subst hy; exact hk, hs.2, data hu hx rfl hs.1⟩
    · exact hs.elim
  · rename_i e' hu hx
    refine ⟨_, _, _, by simp, hs, fun g ρ f w fz _ hW hE => ⟨[], ?_, fun _ _ => trivial⟩⟩
    rw [show f x = .slice none 0 0 from (hE x _ hx).here]
    exact Src.ofNil w hu 0
  · rename_i s hu hx
    obtain ⟨hb, hs⟩ := hs.out
    split at hs
    · exact ⟨_, _, _, by simp, hs, (str hu hx rfl hb).1⟩
    · exact ⟨_, _, _, by simp, hs, (str hu hx rfl hb).2⟩
  · rename_i s hu hx
    obtain ⟨hb, hs⟩ := hs.out
    exact ⟨_, _, _, by simp, hs, (str hu hx rfl hb).1⟩
  · exact hs.elim

/-- An append on a slice that may grow: there is room, and the cells are written behind; or there is none, and a new block is laid. -/
theorem append_run {w : World} {t tx ty e : TypeId} {i : TypeInfo} {z : Value} (ht : P.underlying t = some (.slice e)) (hi : P.info? e = some i) (hz : i.zero = some z) (hzs : z.cells.size = i.size)
    {b n cap : Nat} {a : Option Addr} {cur : List Value} (ha : 0 < cap → a = some ⟨b, 0, none⟩) (hb : 0 < cap → HoldsC w b e cur) (hcur : cur.length = cap * i.size) (hn : n ≤ cap) {x : Value} {m : Nat} {news : List Value} (hs : Src P i.size tx x m news w)
    (hm : n + m ≤ maxLen) (hbytes : (n + m) * i.bytes ≤ 140737488355328) :
    (n + m ≤ cap ∧ ∃ w', (Builtin.append_ #[t, tx] ty #[.slice a n cap, x]).run P w = .ok (.slice a (n + m) cap) w' ∧
      (0 < cap → w' = w.setRow b (cur.take (n * i.size) ++ news ++ cur.drop (n * i.size + news.length)).toArray ∧ HoldsC w' b e (cur.take (n * i.size) ++ news ++ cur.drop (n * i.size + news.length))) ∧ (cap = 0 → w' = w)) ∨
    (∃ (cap' : Nat) (rest : List Value), n + m ≤ cap' ∧ 0 < cap' ∧ rest.length = (cap' - (n + m)) * i.size ∧ (Builtin.append_ #[t, tx] ty #[.slice a n cap, x]).run P w =
      .ok (.slice (some ⟨w.heap.size, 0, none⟩) (n + m) cap') (w.drew.alloc (.cells (cur.take (n * i.size) ++ news ++ rest).toArray e))) := by
  have hnc : n * i.size ≤ cur.length := by rw [hcur]; exact Nat.mul_le_mul_right _ hn
  by_cases hroom : n + m ≤ cap
  · refine .inl ⟨hroom, ?_⟩
    rcases Nat.eq_zero_or_pos cap with h0 | h0
    · obtain rfl : n = 0 := by omega
      obtain rfl : m = 0 := by omega
      have hnil : news = [] := List.eq_nil_of_length_eq_zero (by simpa using hs.newsLen)
      subst hnil
      exact ⟨w, run_append_nothing (P := P) w t tx ty e i ht hi a 0 cap (by omega) x hs, fun h => by omega, fun _ => rfl⟩
    · have ha := ha h0
      subst ha
      have hfit : n * i.size + news.length ≤ cur.length := by rw [hs.newsLen, hcur, ← Nat.add_mul]; exact Nat.mul_le_mul_right _ hroom
      obtain ⟨hst, hH⟩ := (hb h0).write (P := P) news 0 (o := n * i.size) (by simpa using hfit) hs.one
      simp only [Nat.add_zero] at hst hH
      refine ⟨_, ?_, fun _ => ⟨rfl, hH⟩, fun h => by omega⟩
      rcases hs.kind with ⟨e', hk⟩ | hk <;> simp [Builtin.append_, run_underlying ht, run_underlying hk, sizeOf, typeInfo, hi, hs.len, hroom, hs.cells, Addr.add_lit, hst]
  · right
    have hsmall : n + m ≤ 9223372036854775807 := by simp only [maxLen] at hm; omega
    have holds : (Builtin.firstCells i.size n (.slice a n cap)).run P w.drew = .ok (cur.take (n * i.size)).toArray w.drew := by
      rcases Nat.eq_zero_or_pos cap with h0 | h0
      · obtain rfl : n = 0 := by omega
        cases a with
        | none => simpa using run_firstCells_none (P := P) w.drew i.size 0 0 cap
        | some a => simpa using run_firstCells_some (P := P) w.drew i.size 0 a 0 cap [] (by simp) (fun j v hj => by simp at hj)
      · have ha := ha h0
        subst ha
        refine run_firstCells_some (P := P) w.drew i.size n ⟨b, 0, none⟩ n cap (cur.take (n * i.size)) (by simp; omega) (fun j v hv => ?_)
        rw [addr_add_own, Nat.zero_add]
        have : w.drew.cell? ⟨b, j, none⟩ = w.cell? ⟨b, j, none⟩ := rfl
        rw [this, (hb h0).cell]
        rw [List.getElem?_take] at hv
        split at hv
        · exact hv
        · cases hv
    have hr := run_append_grow_src (P := P) w t tx ty e i z ht hi hz a n cap _ holds x m news hs (by omega) (by omega) (growslice_fits (by omega) hbytes)
    refine ⟨grownCap w (n + m) cap e, (Builtin.zeroCells z.cells (grownCap w (n + m) cap e - (n + m))).toList, grownCap_ge _ _ _ _, by have := grownCap_ge w (n + m) cap e; omega, by rw [Array.length_toList, size_zeroCells, hzs], ?_⟩
    rw [hr]
    congr 2
    congr 1
    rw [← Array.toList_inj]
    simp

/-- The same, by symbols: the old name is looked at no more, the new one holds what was and what came. -/
theorem append_own {g : SHeap} {ρ : Ren} {w : World} {fz : Nat → Prop} {t tx ty e : TypeId} {i : TypeInfo} {z : Value} (hu : P.underlying t = some (.slice e)) (hi : P.info? e = some i) (hz : i.zero = some z) (hzs : z.cells.size = i.size)
    (hW : WRepF C ρ g w fz) {k : Nat} {q q' : SO} (hk : g[k]? = some (some q)) (hg : q.grows e i.size) (hn : g[nm]? = some none) (hg' : q'.grows e i.size) {s x : Value} {n m : Nat} {news : List Value}
    (hsv : VRep g ρ (.c (.s k 0 n (.hid 0))) s) (hs : Src P i.size tx x m news w)
    (hrep : ∀ (w' : World) (fz' : Nat → Prop) (cs : List Value), (∀ b, fz b → w'.heap[b]? = w.heap[b]?) → (∀ b, fz b → fz' b) → q.Cont g ρ w fz cs → n * i.size ≤ cs.length ∧ q'.Cont g ρ w' fz' (cs.take (n * i.size) ++ news))
    (hh' : ∀ x, q'.here x → q.here x ∨ 0 < x.cap)
    (hm : n + m ≤ maxLen) (hbytes : (n + m) * i.bytes ≤ 140737488355328) :
    ∃ ρ' v w', Ag g ρ ρ' ∧ (Builtin.append_ #[t, tx] ty #[s, x]).run P w = .ok v w' ∧
      VRep (setNew [q'] nm (setAll [(k, .gone)] g)) ρ' (.c (.s nm 0 (n + m) (.hid 0))) v ∧ WRepF C ρ' (setNew [q'] nm (setAll [(k, .gone)] g)) w' fz := by
  obtain ⟨a, rfl, hncap, ha⟩ := hsv.here
  simp only [Cap.den, Nat.sub_zero] at hncap ha ⊢
  have hO := (hW.objs k q hk).open hg
  obtain ⟨h0, vs, tail, hcur, hnh, htl, hC⟩ := hO
  have hkn : k ≠ nm := ne_free hk hn
  have hlt := given_lt hn
  have hvn : n * i.size ≤ vs.length := (hrep w fz vs (fun _ _ => rfl) (fun _ h => h) hC).1
  have hhere : 0 < (ρ k).cap → q.here (ρ k) := fun hc => Classical.byContradiction fun hn => by have := hnh hn; omega
  have ha' : 0 < (ρ k).cap → a = some ⟨(ρ k).b, 0, none⟩ := fun hc => by rw [ha hc, h0]
  have htake : (vs ++ tail).take (n * i.size) = vs.take (n * i.size) := by rw [List.take_append_of_le_length hvn]
  have hgiven : (setNew [q'] nm (setAll [(k, .gone)] g))[nm]? = some (some q') := by
    simp only [setNew, setAll]
    rw [List.getElem?_set_self (by simpa using hlt)]
  rcases append_run (P := P) (x := x) (m := m) (ty := ty) hu hi hz hzs (cur := vs ++ tail) ha' (fun hc => hcur (hhere hc)) (by simpa using htl) hncap hs hm hbytes with ⟨hroom, w', hrun, h1, h2⟩ | ⟨cap', rest, hge, hpos, hrest, hrun⟩
  · have hstay : WRepF C ρ (g.set k (some q')) w' fz := by
      rcases Nat.eq_zero_or_pos (ρ k).cap with hc | hc
      · obtain rfl := h2 hc
        have hm0 : m = 0 := by omega
        have hn0 : n = 0 := by omega
        subst hm0; subst hn0
        have hnil : news = [] := List.eq_nil_of_length_eq_zero (by simpa using hs.newsLen)
        subst hnil
        obtain ⟨_, hC'⟩ := hrep w' fz vs (fun _ _ => rfl) (fun _ h => h) hC
        by_cases hq' : q'.here (ρ k)
        · have hq : q.here (ρ k) := by rcases hh' _ hq' with h | h; exact h; omega
          refine hW.less hk (fun _ => hq) (SO.Rep.shut (vs := []) (tail := vs ++ tail) hg' h0 (by simpa using hcur hq) ?_ (by simpa using hC'))
          simpa using htl
        · exact hW.less hk (fun h => absurd h hq') (SO.Rep.shut0 hg' h0 hc hq' (by simpa using hC'))
      · obtain ⟨hw', hH⟩ := h1 hc
        have hfit : n * i.size + news.length ≤ vs.length + tail.length := by rw [htl, hs.newsLen, ← Nat.add_mul]; exact Nat.mul_le_mul_right _ hroom
        have hzw : ∀ b, fz b → w'.heap[b]? = w.heap[b]? := fun b hb' => by rw [hw']; exact setRow_other w _ b _ fun e' => hW.frz k _ hk (hhere hc) (e' ▸ hb')
        obtain ⟨z1, z2, z3, z4⟩ := toList_setRow w (ρ k).b ((vs ++ tail).take (n * i.size) ++ news ++ (vs ++ tail).drop (n * i.size + news.length)).toArray
        refine hW.set hk (hhere hc) (fun b hb' => by rw [hw']; exact setRow_other w _ b _ hb') (by rw [hw']; exact z1) (by rw [hw']; exact z2) (by rw [hw']; exact z3) (by rw [hw']; exact z4) ?_
        obtain ⟨_, hC'⟩ := hrep w' fz vs hzw (fun _ h => h) hC
        rw [htake] at hH
        refine SO.Rep.shut hg' h0 hH ?_ hC'
        simp only [List.length_append, List.length_take, List.length_drop]
        omega
    have hren := hstay.rename (nm := nm) (k := k) (q := q') (by rw [List.getElem?_set_self (given_lt hk)]) (by rw [List.getElem?_set_ne hkn]; exact hn)
    rw [List.set_set] at hren
    refine ⟨upd ρ nm (ρ k), _, w', upd_ag hn, hrun, fun ρ'' hag => ?_, hren⟩
    have := hag nm _ hgiven
    rw [upd_same] at this
    exact ⟨a, by rw [this]; simp [Cap.den], by rw [this]; simpa [Cap.den] using hroom, by rw [this]; simpa [Cap.den] using ha⟩
  · have hzw : ∀ b, fz b → (w.drew.alloc (.cells ((vs ++ tail).take (n * i.size) ++ news ++ rest).toArray e)).heap[b]? = w.heap[b]? := fun b hb => heap_alloc_old w.drew _ _ (hW.fzlt b hb)
    obtain ⟨_, hC'⟩ := hrep _ fz vs hzw (fun _ h => h) hC
    rw [htake] at hrun hzw hC'
    have hgone := (hW.drew).gone hk
    have hsub : Sub g (g.set k (some .gone)) := sub_set
    have hal := hgone.alloc (nm := nm) (q := q') (x := ⟨w.heap.size, 0, cap'⟩) (o := .cells (vs.take (n * i.size) ++ news ++ rest).toArray e) (by rw [List.getElem?_set_ne hkn]; exact hn) rfl
      (SO.Rep.shut (vs := vs.take (n * i.size) ++ news) (tail := rest) hg' rfl (HoldsC.alloc w.drew e _) (by
        simp only [List.length_append, List.length_take, hrest, hs.newsLen]
        rw [Nat.min_eq_left hvn, ← Nat.add_mul, ← Nat.add_mul]
        congr 1; omega) (hC'.later hsub (Ag.refl _ _) (fun _ h => h) (fun _ _ => rfl)))
    refine ⟨_, _, _, upd_ag (b := ⟨w.heap.size, 0, cap'⟩) hn, hrun, fun ρ'' hag => ?_, hal⟩
    have := hag nm _ hgiven
    rw [upd_same] at this
    exact ⟨some ⟨w.heap.size, 0, none⟩, by rw [this]; simp [Cap.den], by rw [this]; simpa [Cap.den] using hge, fun _ => by rw [this]⟩

/-- An append on a slice without room: what it has is laid anew, with what comes. -/
theorem append_new {g : SHeap} {ρ : Ren} {w : World} {fz : Nat → Prop} {t tx ty e : TypeId} {i : TypeInfo} {z : Value} (hu : P.underlying t = some (.slice e)) (hi : P.info? e = some i) (hz : i.zero = some z) (hzs : z.cells.size = i.size)
    (hW : WRepF C ρ g w fz) (hn : g[nm]? = some none) {q' : SO} (hg' : q'.grows e i.size) {a : Option Addr} {x : Value} {n m : Nat} {olds news : List Value}
    (holds : (Builtin.firstCells i.size n (.slice a n n)).run P w.drew = .ok olds.toArray w.drew) (hol : olds.length = n * i.size) (hs : Src P i.size tx x m news w) (hm0 : n = 0 ∨ 0 < m)
    (hrep : ∀ (w' : World), (∀ b, fz b → w'.heap[b]? = w.heap[b]?) → q'.Cont g ρ w' fz (olds ++ news)) (hh' : n + m = 0 → ∀ x : Blk, x.cap = 0 → ¬ q'.here x)
    (hm : n + m ≤ maxLen) (hbytes : (n + m) * i.bytes ≤ 140737488355328) :
    ∃ ρ' v w', Ag g ρ ρ' ∧ (Builtin.append_ #[t, tx] ty #[.slice a n n, x]).run P w = .ok v w' ∧
      VRep (setNew [q'] nm g) ρ' (.c (.s nm 0 (n + m) (.hid 0))) v ∧ WRepF C ρ' (setNew [q'] nm g) w' fz := by
  have hlt := given_lt hn
  have hgiven : (setNew [q'] nm g)[nm]? = some (some q') := by
    simp only [setNew]
    rw [List.getElem?_set_self hlt]
  rcases Nat.eq_zero_or_pos m with rfl | hmp
  · obtain rfl : n = 0 := by rcases hm0 with h | h <;> omega
    have hnil : news = [] := List.eq_nil_of_length_eq_zero (by simpa using hs.newsLen)
    subst hnil
    have hnil : olds = [] := List.eq_nil_of_length_eq_zero (by simpa using hol)
    subst hnil
    have hrun := run_append_nothing (P := P) w t tx ty e i hu hi a 0 0 (Nat.le_refl _) x hs
    have hv := hW.view (nm := nm) (q := q') (x := ⟨0, 0, 0⟩) hn (hh' rfl _ rfl) (SO.Rep.shut0 hg' rfl rfl (hh' rfl _ rfl) (hrep w fun _ _ => rfl))
    refine ⟨_, _, _, upd_ag hn, hrun, fun ρ'' hag => ?_, hv⟩
    have := hag nm _ hgiven
    rw [upd_same] at this
    exact ⟨a, by rw [this]; simp [Cap.den], by rw [this]; simp [Cap.den], fun h => by rw [this] at h; simp [Cap.den] at h⟩
  · have hsmall : n + m ≤ 9223372036854775807 := by simp only [maxLen] at hm; omega
    have hr := run_append_grow_src (P := P) w t tx ty e i z hu hi hz a n n _ holds x m news hs (by omega) (by omega) (growslice_fits (by omega) hbytes)
    have hge := grownCap_ge w (n + m) n e
    generalize hcap : grownCap w (n + m) n e = cap' at hr hge
    have hr' : (Builtin.append_ #[t, tx] ty #[.slice a n n, x]).run P w = .ok (.slice (some ⟨w.heap.size, 0, none⟩) (n + m) cap') (w.drew.alloc (.cells (olds ++ news ++ (Builtin.zeroCells z.cells (cap' - (n + m))).toList).toArray e)) := by
      rw [hr]
      congr 2
      congr 1
      rw [← Array.toList_inj]
      simp
    have hzw : ∀ b, fz b → (w.drew.alloc (.cells (olds ++ news ++ (Builtin.zeroCells z.cells (cap' - (n + m))).toList).toArray e)).heap[b]? = w.heap[b]? := fun b hb => heap_alloc_old w.drew _ _ (hW.fzlt b hb)
    have hal := hW.drew.alloc (nm := nm) (q := q') (x := ⟨w.heap.size, 0, cap'⟩) (o := .cells (olds ++ news ++ (Builtin.zeroCells z.cells (cap' - (n + m))).toList).toArray e) hn rfl
      (SO.Rep.shut (vs := olds ++ news) (tail := (Builtin.zeroCells z.cells (cap' - (n + m))).toList) hg' rfl (HoldsC.alloc w.drew e _) (by
        rw [List.length_append, hol, hs.newsLen, Array.length_toList, size_zeroCells, hzs, ← Nat.add_mul, ← Nat.add_mul]
        show _ = cap' * i.size
        congr 1; omega) (hrep _ hzw))
    refine ⟨_, _, _, upd_ag (b := ⟨w.heap.size, 0, cap'⟩) hn, hr', fun ρ'' hag => ?_, hal⟩
    have := hag nm _ hgiven
    rw [upd_same] at this
    exact ⟨some ⟨w.heap.size, 0, none⟩, by rw [this]; simp [Cap.den], by rw [this]; simpa [Cap.den] using hge, fun _ => by rw [this]⟩

/-- What is appended, as data: what is frozen by it, which blocks were looked at. -/
def newsD (P : Program) (h : SHeap) (e : TypeId) (m : Nat) : News → Option (List D × List (Nat × SO) × List (Nat × SO))
  | .inr ds => some (ds, [], [])
  | .inl cs => convs h (zerosL (cellDs P 20 e) m) cs

/-- 'append'. -/
def appendS (P : Program) (L : Bool) (nm : Nat) (h : SHeap) (ev : Operand → Option SV) (c : Call) (K : KT) : Prop :=
  match c.callee, c.args.toList, c.argTypes.toList with
  | .builtin .append, [s, x], [t, tx] =>
    match P.underlying t with
    | some (.slice e) =>
      match P.info? e with
      | some i =>
        match i.zero with
        | some z =>
          Ck (decide (z.cells.size = i.size ∧ 0 < i.size)) <|
          srcS P L h ev i.size tx x fun m news R =>
          match ev s with
          | some (.c (.v (.slice none 0 0))) =>
            match news with
            | .inl cs =>
              match m with
              | 0 => K R { out := .c (.v (.slice none 0 0)) }
              | m + 1 => Ck (decide (m + 1 ≤ maxLen ∧ (m + 1) * i.bytes ≤ 140737488355328)) (K R { out := .c (.s nm 0 (m + 1) (.hid 0)), news := [.cells cs e (.hid i.size)] })
            | .inr ds => (m ≤ maxLen ∧ m * i.bytes ≤ 140737488355328) ∧ K R { out := .c (.s nm 0 m (.hid 0)), news := [.row ds e (.hid i.size)] }
          | some (.c (.s k off n (.lit n'))) =>
            match Nat.beq n 0, Nat.beq n' 0 with
            | true, true =>
              match news with
              | .inl cs =>
                match m with
                | 0 => K R { out := .c (.s k off n (.lit n')) }
                | m + 1 => Ck (decide (m + 1 ≤ maxLen ∧ (m + 1) * i.bytes ≤ 140737488355328)) (K R { out := .c (.s nm 0 (m + 1) (.hid 0)), news := [.cells cs e (.hid i.size)] })
              | .inr ds => (m ≤ maxLen ∧ m * i.bytes ≤ 140737488355328) ∧ K R { out := .c (.s nm 0 m (.hid 0)), news := [.row ds e (.hid i.size)] }
            | _, _ => False
          | some (.c (.s k 0 n (.hid 0))) =>
            Nd L (decide (n + m ≤ maxLen ∧ (n + m) * i.bytes ≤ 140737488355328)) (n + m ≤ maxLen ∧ (n + m) * i.bytes ≤ 140737488355328) <|
            match h[k]? with
            | some (some (.cells l t0 (.hid es))) =>
              Ck (decide (t0 = e ∧ es = i.size ∧ n * i.size ≤ l.length)) <|
              match news with
              | .inl cs => K ((k, .cells l t0 (.hid es)) :: R) { out := .c (.s nm 0 (n + m) (.hid 0)), sets := [(k, .gone)], news := [.cells (l.take (n * i.size) ++ cs) e (.hid i.size)] }
              | .inr ds =>
                match flats l, lits l with
                | true, some ls => K ((k, .cells l t0 (.hid es)) :: R) { out := .c (.s nm 0 (n + m) (.hid 0)), sets := [(k, .gone)], news := [.row ((ls.take (n * i.size)).map .v ++ ds) e (.hid i.size)] }
                | _, _ => False
            | some (some (.row xs t0 (.hid es))) =>
              Ck (decide (t0 = e ∧ es = i.size)) <|
              match newsD P h e m news with
              | some (ds, S, T) =>
                Ck (notAt S k) <|
                n * i.size ≤ xs.length ∧ K ((k, .row xs t0 (.hid es)) :: (T ++ R)) { out := .c (.s nm 0 (n + m) (.hid 0)), sets := S ++ [(k, .gone)], news := [.row (xs.take (n * i.size) ++ ds) e (.hid i.size)] }
              | none => False
            | _ => False
          | _ => False
        | none => False
      | none => False
    | _ => False
  | _, _, _ => False

theorem appendS_sound {L : Bool} {c : Call} (ho : o.op = .call c) (hs : appendS P L nm h ev c K) : Has P C nm h ev o K := by
  unfold appendS at hs
  split at hs
  · rename_i s x t tx hc ha ht
    have ha' : c.args = #[s, x] := by rw [← Array.toList_inj]; simpa using ha
    have ht' : c.argTypes = #[t, tx] := by rw [← Array.toList_inj]; simpa using ht
    have hexec : ∀ (f : Operand → Value) (w : World) r w', (Builtin.append_ #[t, tx] o.type #[f s, f x]).run P w = .ok r w' → (execOp f o).run P w = .ok (.value r) w' := fun f w r w' hr => by
      simp [execOp, ho, resolve, hc, ha', ht', invoke, builtin, hr]
    split at hs
    · rename_i e hu
      split at hs
      · rename_i i hi
        split at hs
        · rename_i z hz
          obtain ⟨hb, hs⟩ := hs.out
          simp only [decide_eq_true_eq] at hb
          obtain ⟨hzs, hpos⟩ := hb
          obtain ⟨m, news, R, hR, hs, hsrc⟩ := srcS_spec (C := C) hs
          -- a slice without room and without elements
          have fresh : ∀ {v : SV} {q' : SO}, (∀ {g : SHeap} {ρ : Ren} {u : Value}, VRep g ρ v u → ∃ a, u = .slice a 0 0) → ev s = some v → q'.grows e i.size → (∀ (g : SHeap) (ρ : Ren) (w : World) (fz : Nat → Prop) ns, NewsRep g ρ w fz news ns → ∀ w', (∀ b, fz b → w'.heap[b]? = w.heap[b]?) → q'.Cont g ρ w' fz ns) →
              (m = 0 → ∀ x : Blk, x.cap = 0 → ¬ q'.here x) → m ≤ maxLen ∧ m * i.bytes ≤ 140737488355328 → K R { out := .c (.s nm 0 m (.hid 0)), news := [q'] } → Has P C nm h ev o K := fun {v q'} hv hsv hg' hrep hh' hm hK => by
            refine ⟨R, _, hR, ?_, hK⟩
            intro g ρ f w hT hn hW hE
            obtain ⟨fz, hW⟩ := hW
            obtain ⟨ns, hS, hN⟩ := hsrc g ρ f w fz hT hW hE
            obtain ⟨a, hf⟩ := hv (hE s _ hsv)
            obtain ⟨ρ', v, w', h1, h2, h3, h4⟩ := append_new (ty := o.type) (n := 0) (olds := []) hu hi hz hzs hW hn.one hg' (a := a) (by
              cases a with
              | none => exact run_firstCells_none (P := P) w.drew i.size 0 0 0
              | some a => simpa using run_firstCells_some (P := P) w.drew i.size 0 a 0 0 [] (by simp) (fun j v hj => by simp at hj)) (by simp) hS (.inl rfl)
              (fun w' hw => by simpa using hrep g ρ w fz ns hN w' hw) (fun h => hh' (by omega)) (by simpa using hm.1) (by simpa using hm.2)
            rw [← hf] at h2
            rw [Nat.zero_add] at h3
            exact ⟨ρ', v, w', h1, .inl (hexec f w v w' h2), h3, fz, h4⟩
          have none' : ∀ {v : SV}, (∀ {g : SHeap} {ρ : Ren} {u : Value}, VRep g ρ v u → ∃ a, u = .slice a 0 0) → ev s = some v → m = 0 → K R { out := v } → Has P C nm h ev o K := fun {v} hv hsv hm hK => by
            refine ⟨R, _, hR, ?_, hK⟩
            intro g ρ f w hT hn hW hE
            obtain ⟨fz, hW⟩ := hW
            obtain ⟨ns, hS, hN⟩ := hsrc g ρ f w fz hT hW hE
            obtain ⟨a, hf⟩ := hv (hE s _ hsv)
            subst hm
            have hns : ns = [] := List.eq_nil_of_length_eq_zero (by simpa using hS.newsLen)
            subst hns
            have hrun := run_append_nothing (P := P) w t tx o.type e i hu hi a 0 0 (Nat.le_refl _) (f x) hS
            rw [← hf] at hrun
            exact ⟨ρ, _, w, Ag.refl _ _, .inl (hexec f w _ _ hrun), hE s _ hsv, fz, hW⟩
          have cells : ∀ {cs : List SC}, news = .inl cs → ∀ (g : SHeap) (ρ : Ren) (w : World) (fz : Nat → Prop) ns, NewsRep g ρ w fz news ns → ∀ w', (∀ b, fz b → w'.heap[b]? = w.heap[b]?) → (SO.cells cs e (.hid i.size)).Cont g ρ w' fz ns := fun {cs} hc g ρ w fz ns hN w' _ => by subst hc; exact hN
          have rows : ∀ {ds : List D}, news = .inr ds → ∀ (g : SHeap) (ρ : Ren) (w : World) (fz : Nat → Prop) ns, NewsRep g ρ w fz news ns → ∀ w', (∀ b, fz b → w'.heap[b]? = w.heap[b]?) → (SO.row ds e (.hid i.size)).Cont g ρ w' fz ns := fun {ds} hc g ρ w fz ns hN w' hw => by subst hc; exact DsRep.later hN hw (fun _ h => h)
          split at hs
          · rename_i hsv
            have hv : ∀ {g : SHeap} {ρ : Ren} {u : Value}, VRep g ρ (.c (.v (.slice none 0 0))) u → ∃ a, u = .slice a 0 0 := fun h => ⟨none, h.here⟩
            split at hs
            · rename_i cs
              split at hs
              · exact none' hv hsv rfl hs
              · rename_i m
                obtain ⟨hb, hs⟩ := hs.out
                simp only [decide_eq_true_eq] at hb
                exact fresh (q' := .cells cs e (.hid i.size)) hv hsv ⟨rfl, rfl⟩ (cells rfl) (fun h => by cases h) hb hs
            · rename_i ds
              exact fresh (q' := .row ds e (.hid i.size)) hv hsv ⟨rfl, rfl⟩ (rows rfl) (fun _ x hx hh => by have : 0 < x.cap := hh; omega) hs.1 hs.2
          · rename_i k off n n' hsv
            split at hs
            · rename_i hb1 hb2
              have hn0 := Nat.eq_of_beq_eq_true hb1
              have hn1 := Nat.eq_of_beq_eq_true hb2
              subst hn0; subst hn1
              have hv : ∀ {g : SHeap} {ρ : Ren} {u : Value}, VRep g ρ (.c (.s k off 0 (.lit 0))) u → ∃ a, u = .slice a 0 0 := fun h => let ⟨a, ha, _⟩ := h.here; ⟨a, ha⟩
              split at hs
              · rename_i cs
                split at hs
                · exact none' hv hsv rfl hs
                · rename_i m
                  obtain ⟨hb, hs⟩ := hs.out
                  simp only [decide_eq_true_eq] at hb
                  exact fresh (q' := .cells cs e (.hid i.size)) hv hsv ⟨rfl, rfl⟩ (cells rfl) (fun h => by cases h) hb hs
              · rename_i ds
                exact fresh (q' := .row ds e (.hid i.size)) hv hsv ⟨rfl, rfl⟩ (rows rfl) (fun _ x hx hh => by have : 0 < x.cap := hh; omega) hs.1 hs.2
            · exact hs.elim
          · rename_i k n hsv
            obtain ⟨⟨hm, hbytes⟩, hs⟩ := hs.out
            -- a slice that goes on under a new name
            have go : ∀ {q q' : SO} {S T : List (Nat × SO)}, h[k]? = some (some q) → (∀ y ∈ T, h[y.1]? = some (some y.2)) → q.grows e i.size → q'.grows e i.size → (∀ x : Blk, q'.here x → q.here x ∨ 0 < x.cap) → notAt S k = true → (∀ y ∈ S, ∃ q, (y.1, q) ∈ T) →
                (∀ (g : SHeap) (ρ : Ren) (f : Operand → Value) (w : World) (fz : Nat → Prop) ns, (∀ y ∈ T, g[y.1]? = some (some y.2)) → WRepF C ρ g w fz → NewsRep g ρ w fz news ns → ∃ fz' : Nat → Prop, WRepF C ρ (setAll S g) w fz' ∧ (∀ b, fz b → fz' b) ∧
                  ∀ (w' : World) (fz2 : Nat → Prop) cs, (∀ b, fz' b → w'.heap[b]? = w.heap[b]?) → (∀ b, fz' b → fz2 b) → q.Cont (setAll S g) ρ w fz' cs → n * i.size ≤ cs.length ∧ q'.Cont (setAll S g) ρ w' fz2 (cs.take (n * i.size) ++ ns)) →
                K ((k, q) :: (T ++ R)) { out := .c (.s nm 0 (n + m) (.hid 0)), sets := S ++ [(k, .gone)], news := [q'] } → Has P C nm h ev o K := fun {q q' S T} hk hT hg hg' hh' hS hST hrep hK => by
              refine ⟨_, _, fun y hy => ?_, ?_, hK⟩
              · rcases List.mem_cons.1 hy with rfl | hy
                · exact hk
                · rcases List.mem_append.1 hy with hy | hy
                  · exact hT y hy
                  · exact hR y hy
              · intro g ρ f w hTg hn hW hE
                obtain ⟨fz, hW⟩ := hW
                have hgk := hTg _ (List.mem_cons_self ..)
                obtain ⟨ns, hSrc, hN⟩ := hsrc g ρ f w fz (fun y hy => hTg y (List.mem_cons_of_mem _ (List.mem_append.2 (.inr hy)))) hW hE
                obtain ⟨fz', hW', hzf, hr⟩ := hrep g ρ f w fz ns (fun y hy => hTg y (List.mem_cons_of_mem _ (List.mem_append.2 (.inl hy)))) hW hN
                have hsub : Sub g (setAll S g) := setAll_sub _ _
                have hnf : (setAll S g)[nm]? = some none := by
                  have : ∀ y ∈ S, y.1 ≠ nm := fun y hy => by
                    obtain ⟨q0, hq0⟩ := hST y hy
                    exact ne_free (hTg (y.1, q0) (List.mem_cons_of_mem _ (List.mem_append.2 (.inl hq0)))) hn.one
                  rw [setAll_get_ne this]; exact hn.one
                obtain ⟨ρ', v, w', h1, h2, h3, h4⟩ := append_own (ty := o.type) (g := setAll S g) hu hi hz hzs hW' (by rw [setAll_get_ne (notAt_spec hS)]; exact hgk) hg hnf hg' ((hE s _ hsv).later hsub (Ag.refl _ _)) hSrc hr hh' hm hbytes
                exact ⟨ρ', v, w', h1.sub hsub, .inl (hexec f w v w' h2), by simp only [Eff.app, setAll_append]; exact h3, fz', by simp only [Eff.app, setAll_append]; exact h4⟩
            split at hs
            · rename_i l t0 es hk
              obtain ⟨hb, hs⟩ := hs.out
              simp only [decide_eq_true_eq] at hb
              obtain ⟨rfl, rfl, hln⟩ := hb
              cases news with
              | inl cs =>
                refine go (q' := .cells (l.take (n * i.size) ++ cs) t0 (.hid i.size)) (S := []) (T := []) hk (by simp) ⟨rfl, rfl⟩ ⟨rfl, rfl⟩ (fun _ _ => .inl trivial) rfl (by simp) (fun g ρ f w fz ns _ hW hN => ⟨fz, hW, fun _ h => h, fun w' fz2 vs _ _ hr => ?_⟩) hs
                have hr : CRep g ρ l vs := hr
                exact ⟨by rw [hr.here.length]; exact hln, fun ρ' ha => ((hr ρ' ha).take).append ((show CRep g ρ cs ns from hN) ρ' ha)⟩
              | inr ds =>
                dsimp only at hs
                split at hs
                · rename_i ls hfl hls
                  refine go (q' := .row ((ls.take (n * i.size)).map D.v ++ ds) t0 (.hid i.size)) (S := []) (T := []) hk (by simp) ⟨rfl, rfl⟩ ⟨rfl, rfl⟩ (fun _ _ => .inl trivial) rfl (by simp) (fun g ρ f w fz ns _ hW hN => ⟨fz, hW, fun _ h => h, fun w' fz2 vs hw hz hr => ?_⟩) hs
                  have hr : CRep g ρ l vs := hr
                  have hone := flats_one hfl hr.here
                  obtain rfl := lits_eq hls hr.here
                  exact ⟨by rw [hr.here.length]; exact hln, (DsRep.vals _ _ _ fun v hv => hone v (List.mem_of_mem_take hv)).append ((show DsRep w fz ds ns from hN).later hw hz)⟩
                · exact hs.elim
            · rename_i xs t0 es hk
              obtain ⟨hb, hs⟩ := hs.out
              simp only [decide_eq_true_eq] at hb
              obtain ⟨rfl, rfl⟩ := hb
              split at hs
              · rename_i ds S T hnd
                obtain ⟨hS, hln, hs⟩ := hs.out
                have hT : (∀ y ∈ T, h[y.1]? = some (some y.2)) ∧ ∀ y ∈ S, ∃ q, (y.1, q) ∈ T := by
                  unfold newsD at hnd
                  split at hnd
                  · cases hnd; simp
                  · exact ⟨(convs_sound hnd).1, (convs_sound hnd).2.1⟩
                refine go (q' := .row (xs.take (n * i.size) ++ ds) t0 (.hid i.size)) (S := S) (T := T) hk hT.1 ⟨rfl, rfl⟩ ⟨rfl, rfl⟩ (fun _ h => .inl h) hS hT.2 (fun g ρ f w fz ns hTg hW hN => ?_) hs
                have fin : ∀ (fz' : Nat → Prop), DsRep w fz' ds ns → ∀ (w' : World) (fz2 : Nat → Prop) vs, (∀ b, fz' b → w'.heap[b]? = w.heap[b]?) → (∀ b, fz' b → fz2 b) → (SO.row xs t0 (.hid i.size)).Cont (setAll S g) ρ w fz' vs → n * i.size ≤ vs.length ∧ (SO.row (xs.take (n * i.size) ++ ds) t0 (.hid i.size)).Cont (setAll S g) ρ w' fz2 (vs.take (n * i.size) ++ ns) :=
                  fun fz' hd w' fz2 vs hw hz hr => by
                    have hr : DsRep w fz' xs vs := hr
                    exact ⟨by rw [hr.1]; exact hln, ((hr.take _).append hd).later hw hz⟩
                unfold newsD at hnd
                split at hnd
                · cases hnd
                  exact ⟨fz, hW, fun _ h => h, fin fz hN⟩
                · obtain ⟨fz', h1, h2, h3⟩ := (convs_sound hnd).2.2 hTg hW hN
                  exact ⟨fz', h1, h2, fin fz' h3⟩
              · exact hs.elim
            · exact hs.elim
          · exact hs.elim
        · exact hs.elim
      · exact hs.elim
    · exact hs.elim
  · exact hs.elim
end
end Go.Sy
