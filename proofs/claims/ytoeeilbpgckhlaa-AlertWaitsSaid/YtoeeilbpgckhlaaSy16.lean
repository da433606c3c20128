/- A symbolic run, second making: less may be said: one state for another, names given anew. -/
import Derived.Test.YtoeeilbpgckhlaaSy15
namespace Go.Sy
open Go

/-! ### which names a symbol uses -/
def givenB (h : SHeap) (k : Nat) : Bool := match h[k]? with | some (some _) => true | _ => false
theorem givenB_spec {h : SHeap} {k : Nat} (e : givenB h k = true) : ∃ q, h[k]? = some (some q) := by
  unfold givenB at e
  split at e
  · rename_i q hq; exact ⟨q, hq⟩
  · cases e
def capsB (h : SHeap) : List (Nat × Nat) → Bool
  | [] => true
  | (k, _) :: r => givenB h k && capsB h r
def onlyC (h : SHeap) : SC → Bool
  | .v _ => true
  | .kv _ => true
  | .b _ => true
  | .p k _ => givenB h k
  | .s k _ _ _ => givenB h k
  | .f _ caps => capsB h caps
  | .y k => givenB h k
def onlyL (h : SHeap) : List SC → Bool
  | [] => true
  | c :: r => onlyC h c && onlyL h r
def onlyT (h : SHeap) : List (SC ⊕ List SC) → Bool
  | [] => true
  | .inl c :: r => onlyC h c && onlyT h r
  | .inr cs :: r => onlyL h cs && onlyT h r
def onlyV (h : SHeap) : SV → Bool
  | .c x => onlyC h x
  | .a cs => onlyL h cs
  | .al _ => true
  | .t vs => onlyT h vs
def onlyS (h : SHeap) : STmps → Bool
  | [] => true
  | none :: r => onlyS h r
  | some v :: r => onlyV h v && onlyS h r
def onlyO (h : SHeap) : SO → Bool
  | .cells l _ _ => onlyL h l
  | .loop L => onlyS h L.tmps && givenB h L.dn
  | _ => true
section
variable {h : SHeap} {ρ ρ' : Ren} (ha : Ag h ρ ρ')
include ha
theorem caps_ag : ∀ {l : List (Nat × Nat)}, capsB h l = true → l.map (capV ρ') = l.map (capV ρ)
  | [], _ => rfl
  | (k, o) :: r, e => by
    simp only [capsB, Bool.and_eq_true] at e
    obtain ⟨q, hq⟩ := givenB_spec e.1
    simp only [List.map_cons, caps_ag e.2, capV, ha k q hq]
theorem onlyC_R {c : SC} {u : Value} (e : onlyC h c = true) : c.R ρ' u ↔ c.R ρ u := by
  cases c with
  | v x => exact Iff.rfl
  | kv x => exact Iff.rfl
  | b x => exact Iff.rfl
  | p k o => obtain ⟨q, hq⟩ := givenB_spec e; simp [SC.R, ha k q hq]
  | s k o l c => obtain ⟨q, hq⟩ := givenB_spec e; simp [SC.R, ha k q hq]
  | f fn caps => simp [SC.R, caps_ag ha e]
  | y k => obtain ⟨q, hq⟩ := givenB_spec e; simp [SC.R, ha k q hq]
theorem onlyL_R : ∀ {cs : List SC} {us : List Value}, onlyL h cs = true → (CsR ρ' cs us ↔ CsR ρ cs us)
  | [], [], _ => Iff.rfl
  | c :: cs, u :: us, e => by
    simp only [onlyL, Bool.and_eq_true] at e
    simp only [CsR, onlyC_R ha e.1, onlyL_R e.2]
  | [], _ :: _, _ => Iff.rfl
  | _ :: _, [], _ => Iff.rfl
theorem onlyT_R : ∀ {cs : List (SC ⊕ List SC)} {us : List Value}, onlyT h cs = true → (TsR ρ' cs us ↔ TsR ρ cs us)
  | [], [], _ => Iff.rfl
  | .inl c :: cs, u :: us, e => by
    simp only [onlyT, Bool.and_eq_true] at e
    simp only [TsR, R1, onlyC_R ha e.1, onlyT_R e.2]
  | .inr c :: cs, u :: us, e => by
    simp only [onlyT, Bool.and_eq_true] at e
    simp only [TsR, R1, onlyL_R ha e.1, onlyT_R e.2]
  | [], _ :: _, _ => Iff.rfl
  | .inl _ :: _, [], _ => Iff.rfl
  | .inr _ :: _, [], _ => Iff.rfl
theorem onlyV_R {v : SV} {u : Value} (e : onlyV h v = true) : v.R ρ' u ↔ v.R ρ u := by
  cases v with
  | c x => exact onlyC_R ha e
  | a cs => simp only [SV.R, onlyL_R ha e]
  | al xs => exact Iff.rfl
  | t vs => simp only [SV.R, onlyT_R ha e]
end
theorem onlyV_rep {h : SHeap} {ρ : Ren} {v : SV} {u : Value} (e : onlyV h v = true) (r : v.R ρ u) : VRep h ρ v u := fun _ ha => (onlyV_R ha e).2 r
theorem onlyS_get {h : SHeap} : ∀ {ts : STmps}, onlyS h ts = true → ∀ {t : Nat} {v : SV}, ts[t]? = some (some v) → onlyV h v = true
  | none :: r, e, 0, v, ht => by simp at ht
  | some u :: r, e, 0, v, ht => by
    simp only [onlyS, Bool.and_eq_true] at e
    simp at ht; subst ht; exact e.1
  | none :: r, e, t + 1, v, ht => onlyS_get (ts := r) e (by simpa using ht)
  | some u :: r, e, t + 1, v, ht => by
    simp only [onlyS, Bool.and_eq_true] at e
    exact onlyS_get e.2 (by simpa using ht)
  | [], _, t, v, ht => by simp at ht

/-! ### names given anew: 'pi l k': what the state calls that which the head calls k; none: the head's k is a row without elements -/
abbrev Nms := List (Option Nat)
def pi (l : Nms) (k : Nat) : Option Nat := match l[k]? with | some x => x | none => some k
def reN (l : Nms) (ρ : Ren) : Ren := fun k => match pi l k with | some j => ρ j | none => ⟨0, 0, 0⟩
/-- Is the state's name j that which the head calls k? -/
def isN (l : Nms) (j k : Nat) : Bool := match pi l k with | some i => Nat.beq i j | none => false
theorem isN_spec {l : Nms} {j k : Nat} {ρ : Ren} (e : isN l j k = true) : reN l ρ k = ρ j := by
  unfold isN at e
  unfold reN
  split at e
  · rename_i i hi
    rw [Nat.eq_of_beq_eq_true e]
  · cases e

/-! ### values -/
def sameX (a b : Value) : Prop :=
  match a, b with
  | .int k m, .int k' n => Ck (decide (k = k')) (m = n)
  | .bool m, .bool n => m = n
  | .string m, .string n => m = n
  | a, b => a = b
theorem sameX_eq {a b : Value} (h : sameX a b) : a = b := by
  unfold sameX at h
  split at h
  · obtain ⟨h1, h2⟩ := h.out; rw [of_decide_eq_true h1, h2]
  · rw [h]
  · rw [h]
  · exact h
def noCap : SC → Option Nat
  | .v (.slice none 0 0) => some 0
  | .s _ _ l (.lit 0) => some l
  | _ => none
def sameC (l : Nms) (u v : SC) : Prop :=
  match u, v with
  | .p k o, .p k' o' => Ck (isN l k k') (o = o')
  | .s k o n c, .s k' o' n' c' =>
    match isN l k k' with
    | true => o = o' ∧ n = n' ∧ c = c'
    | false =>
      match c, c', pi l k' with
      | .lit 0, .hid _, none => n = n'
      | _, _, _ => False
  | .v (.slice none 0 0), .s k' _ n' (.hid _) => match pi l k' with | none => n' = 0 | some _ => False
  | .v (.slice none 0 0), .v (.slice none 0 0) => True
  | .f fn cs, .f fn' cs' => Ck (Nat.beq fn fn' && Nat.beq cs.length cs'.length && (cs.zip cs').all fun x => isN l x.1.1 x.2.1 && Nat.beq x.1.2 x.2.2) True
  | .y k, .y k' => Ck (isN l k k') True
  | u, v =>
    match u.lit, v.lit with
    | some a, some b => sameX a b
    | _, _ => False
theorem caps_same {l : Nms} {ρ : Ren} : ∀ {cs cs' : List (Nat × Nat)}, cs.length = cs'.length → ((cs.zip cs').all fun x => isN l x.1.1 x.2.1 && Nat.beq x.1.2 x.2.2) = true → cs'.map (capV (reN l ρ)) = cs.map (capV ρ)
  | [], [], _, _ => rfl
  | c :: cs, c' :: cs', hl, e => by
    simp only [List.zip_cons_cons, List.all_cons, Bool.and_eq_true] at e
    obtain ⟨⟨e1, e2⟩, e3⟩ := e
    simp only [List.map_cons, caps_same (by simpa using hl) (by simpa using e3), capV, isN_spec e1, Nat.eq_of_beq_eq_true e2]
  | [], _ :: _, hl, _ => by simp at hl
  | _ :: _, [], hl, _ => by simp at hl
theorem sameC_R {l : Nms} {ρ : Ren} {u v : SC} {x : Value} (h : sameC l u v) (r : u.R ρ x) : v.R (reN l ρ) x := by
  unfold sameC at h
  split at h
  · obtain ⟨h1, rfl⟩ := h.out
    rw [show (SC.p _ _).R (reN l ρ) x = _ from rfl]
    have := isN_spec (ρ := ρ) h1
    simp only [SC.R, this] at r ⊢
    exact r
  · split at h
    · rename_i hn
      obtain ⟨rfl, rfl, rfl⟩ := h
      have := isN_spec (ρ := ρ) hn
      simp only [SC.R, this] at r ⊢
      exact r
    · split at h
      · rename_i hp
        subst h
        obtain ⟨a, rfl, hle, _⟩ := r
        simp only [SC.R, reN, hp, Cap.den] at hle ⊢
        exact ⟨a, by simp, by omega, fun h => by omega⟩
      · exact h.elim
  · split at h
    · rename_i hp
      subst h
      have r : x = .slice none 0 0 := r
      subst r
      simp only [SC.R, reN, hp, Cap.den]
      exact ⟨none, by simp, by omega, fun h => by omega⟩
    · exact h.elim
  · exact r
  · obtain ⟨h1, _⟩ := h.out
    simp only [Bool.and_eq_true] at h1
    obtain ⟨⟨h1, h2⟩, h3⟩ := h1
    have h1 := Nat.eq_of_beq_eq_true h1
    have h2 := Nat.eq_of_beq_eq_true h2
    have h4 := caps_same (l := l) (ρ := ρ) h2 (by simpa using h3)
    subst h1
    simp only [SC.R, h4] at r ⊢
    exact r
  · obtain ⟨h1, _⟩ := h.out
    have := isN_spec (ρ := ρ) h1
    simp only [SC.R, this] at r ⊢
    exact r
  · split at h
    · rename_i a b ha hb
      have e := sameX_eq h
      have h1 : x = a := lit_eq (v := .c u) (by cases u <;> simp [SC.lit] at ha <;> simp [SV.lit, ha]) r
      have h2 : (SV.c v).R (reN l ρ) b := lit_mk (by cases v <;> simp [SC.lit] at hb <;> simp [SV.lit, hb])
      rw [h1, e]
      exact h2
    · exact h.elim
def sameL (l : Nms) : List SC → List SC → Prop
  | [], [] => True
  | u :: us, v :: vs => sameC l u v ∧ sameL l us vs
  | _, _ => False
theorem sameL_R {l : Nms} {ρ : Ren} : ∀ {us vs : List SC} {xs : List Value}, sameL l us vs → CsR ρ us xs → CsR (reN l ρ) vs xs
  | [], [], [], _, _ => trivial
  | _ :: _, _ :: _, _ :: _, ⟨a, b⟩, ⟨c, d⟩ => ⟨sameC_R a c, sameL_R b d⟩
  | [], _ :: _, _, h, _ => h.elim
  | _ :: _, [], _, h, _ => h.elim
  | [], [], _ :: _, _, r => r.elim
  | _ :: _, _ :: _, [], _, r => r.elim
def sameT (l : Nms) : List (SC ⊕ List SC) → List (SC ⊕ List SC) → Prop
  | [], [] => True
  | .inl u :: us, .inl v :: vs => sameC l u v ∧ sameT l us vs
  | .inr u :: us, .inr v :: vs => sameL l u v ∧ sameT l us vs
  | _, _ => False
theorem sameT_R {l : Nms} {ρ : Ren} : ∀ {us vs : List (SC ⊕ List SC)} {xs : List Value}, sameT l us vs → TsR ρ us xs → TsR (reN l ρ) vs xs
  | [], [], [], _, _ => trivial
  | .inl _ :: _, .inl _ :: _, _ :: _, ⟨a, b⟩, ⟨c, d⟩ => ⟨sameC_R a c, sameT_R b d⟩
  | .inr _ :: _, .inr _ :: _, _ :: _, ⟨a, b⟩, ⟨⟨ys, c1, c2⟩, d⟩ => ⟨⟨ys, c1, sameL_R a c2⟩, sameT_R b d⟩
  | [], _ :: _, _, h, _ => h.elim
  | .inl _ :: _, [], _, h, _ => h.elim
  | .inr _ :: _, [], _, h, _ => h.elim
  | .inl _ :: _, .inr _ :: _, _, h, _ => h.elim
  | .inr _ :: _, .inl _ :: _, _, h, _ => h.elim
  | [], [], _ :: _, _, r => r.elim
  | .inl _ :: _, .inl _ :: _, [], _, r => r.elim
  | .inr _ :: _, .inr _ :: _, [], _, r => r.elim
def sameV (l : Nms) (u v : SV) : Prop :=
  match u, v with
  | .c x, .c y => sameC l x y
  | .a xs, .a ys => sameL l xs ys
  | .al xs, .al ys => xs = ys
  | .a xs, .al ys => match lits xs with | some vs => vs = ys | none => False
  | .t xs, .t ys => sameT l xs ys
  | _, _ => False
theorem sameV_R {l : Nms} {ρ : Ren} {u v : SV} {x : Value} (h : sameV l u v) (r : u.R ρ x) : v.R (reN l ρ) x := by
  unfold sameV at h
  split at h
  · exact sameC_R h r
  · obtain ⟨vs, e, hr⟩ := r; exact ⟨vs, e, sameL_R h hr⟩
  · subst h; exact r
  · split at h
    · rename_i vs hv
      subst h
      obtain ⟨us, e, hr⟩ := r
      rw [lits_eq hv hr] at e
      exact e
    · exact h.elim
  · obtain ⟨vs, e, hr⟩ := r; exact ⟨vs, e, sameT_R h hr⟩
  · exact h.elim
/-- Slots; of those that the head does not name nothing is said. -/
def sameS (l : Nms) : STmps → STmps → Prop
  | [], [] => True
  | _ :: as, none :: bs => sameS l as bs
  | some v :: as, some u :: bs => sameV l v u ∧ sameS l as bs
  | _, _ => False
theorem sameS_get {l : Nms} : ∀ {as bs : STmps}, sameS l as bs → as.length = bs.length ∧ ∀ (t : Nat) (u : SV), bs[t]? = some (some u) → ∃ v, as[t]? = some (some v) ∧ sameV l v u
  | [], [], _ => ⟨rfl, by simp⟩
  | a :: as, none :: bs, h => by
    have h : sameS l as bs := by cases a <;> exact h
    obtain ⟨h1, h2⟩ := sameS_get h
    refine ⟨by simp [h1], fun t u hu => ?_⟩
    cases t with
    | zero => simp at hu
    | succ t => simpa using h2 t u (by simpa using hu)
  | some v :: as, some u :: bs, ⟨hv, h⟩ => by
    obtain ⟨h1, h2⟩ := sameS_get h
    refine ⟨by simp [h1], fun t w hw => ?_⟩
    cases t with
    | zero => simp at hw; subst hw; exact ⟨v, rfl, hv⟩
    | succ t => simpa using h2 t w (by simpa using hw)
  | [], _ :: _, h => h.elim
  | none :: _, some _ :: _, h => h.elim
  | some _ :: _, [], h => h.elim
  | none :: _, [], h => h.elim
theorem sameS_rep {l : Nms} {h g : SHeap} {ρ : Ren} {as bs : STmps} {tmps : Array Value} (hs : sameS l as bs) (ho : onlyS g bs = true) (r : TRep h ρ as tmps) : TRep g (reN l ρ) bs tmps := by
  obtain ⟨h1, h2⟩ := sameS_get hs
  refine ⟨by rw [r.1, h1], fun t u hu => ?_⟩
  obtain ⟨v, hv, hsv⟩ := h2 t u hu
  obtain ⟨x, hx, hr⟩ := r.2 t v hv
  exact ⟨x, hx, onlyV_rep (onlyS_get ho hu) (sameV_R hsv hr.here)⟩

/-! ### blocks -/
/-- The state's block 'q' is as the head's block 'r' is. -/
def sameO (l : Nms) : SO → SO → Prop
  | .cells a t m, .cells b t' m' => Ck (Nat.beq t t') (m = m' ∧ sameL l a b)
  | .row a t m, .row b t' m' => Ck (Nat.beq t t') (m = m' ∧ a = b)
  | .cells a t m, .row b t' m' => Ck (Nat.beq t t' && flats a) (match lits a with | some xs => m = m' ∧ xs.map .v = b | none => False)
  | .ice a, .ice b => a = b
  | _, .gone => True
  | .loop a, .loop b => Ck (isN l a.dn b.dn && Nat.beq a.fn b.fn && decide (a.state = b.state)) (a.params = b.params ∧ a.pending = b.pending ∧ a.assign = b.assign ∧ a.body = b.body ∧ sameS l a.tmps b.tmps)
  | .dfr a, .dfr b => Ck (a == b) True
  | _, _ => False
theorem sameO_rep {l : Nms} {h g : SHeap} {ρ : Ren} {w : World} {fz : Nat → Prop} {x : Blk} {q r : SO} (hs : sameO l q r) (ho : onlyO g r = true) (hr : q.Rep h ρ w fz x) : r.Rep g (reN l ρ) w fz x ∧ (r.here x → q.here x) := by
  unfold sameO at hs
  split at hs
  · obtain ⟨ht, hm, hL⟩ := hs.out
    have ht := Nat.eq_of_beq_eq_true ht
    subst ht; subst hm
    obtain ⟨h0, vs, tail, h1, h2, h3⟩ := hr
    exact ⟨⟨h0, vs, tail, h1, h2, fun ρ' ha => (onlyL_R ha ho).2 (sameL_R hL h3.here)⟩, fun h => h⟩
  · obtain ⟨ht, hm, hL⟩ := hs.out
    have ht := Nat.eq_of_beq_eq_true ht
    subst ht; subst hm; subst hL
    exact ⟨hr, fun h => h⟩
  · obtain ⟨ht, hs1⟩ := hs.out
    clear hs
    simp only [Bool.and_eq_true] at ht
    obtain ⟨ht, hfl⟩ := ht
    have ht := Nat.eq_of_beq_eq_true ht
    subst ht
    split at hs1
    · rename_i xs hx
      obtain ⟨hm, hL⟩ := hs1
      subst hm; subst hL
      obtain ⟨h0, vs, tail, h1, h2, h3⟩ := hr
      have hone := flats_one hfl h3.here
      obtain rfl := lits_eq hx h3.here
      exact ⟨⟨h0, vs, tail, fun _ => h1, h2, DsRep.vals _ _ _ hone⟩, fun _ => trivial⟩
    · exact hs1.elim
  · subst hs; exact ⟨hr, fun h => h⟩
  · exact ⟨trivial, fun h => h.elim⟩
  · rename_i a b
    obtain ⟨h1, h2, h3, h4, h5, h6⟩ := hs.out
    simp only [Bool.and_eq_true] at h1
    obtain ⟨⟨n1, n2⟩, n3⟩ := h1
    simp only [onlyO, Bool.and_eq_true] at ho
    obtain ⟨tmps, e1, e2, q0, e3⟩ := hr
    have hd := isN_spec (ρ := ρ) n1
    have hfn := Nat.eq_of_beq_eq_true n2
    have hst := of_decide_eq_true n3
    refine ⟨⟨tmps, ?_, sameS_rep h6 ho.1 e2, givenB_spec ho.2⟩, fun h => h⟩
    rw [e1, h2, h3, h4, h5, hd, hfn, hst]
  · obtain ⟨h1, _⟩ := hs.out
    have := eq_of_beq h1
    subst this
    refine ⟨?_, fun h => h⟩
    rename_i a b
    cases a <;> exact hr
  · exact hs.elim
/-- A row without elements and room. -/
def emptyO : SO → Prop
  | .row xs _ (.hid _) => xs = []
  | .ice xs => xs = []
  | .gone => True
  | _ => False
def sameH (l : Nms) (h s : SHeap) : Nat → SHeap → Prop
  | _, [] => True
  | k, none :: bs => sameH l h s (k + 1) bs
  | k, some r :: bs =>
    match pi l k with
    | some j =>
      match s[j]? with
      | some (some q) => Ck (onlyO h r) (sameO l q r ∧ sameH l h s (k + 1) bs)
      | _ => False
    | none => emptyO r ∧ sameH l h s (k + 1) bs
theorem sameH_get {l : Nms} {h s : SHeap} : ∀ {bs : SHeap} {i : Nat}, sameH l h s i bs → ∀ (k : Nat) (r : SO), bs[k]? = some (some r) →
    (∃ j q, pi l (i + k) = some j ∧ s[j]? = some (some q) ∧ sameO l q r ∧ onlyO h r = true) ∨ (pi l (i + k) = none ∧ emptyO r)
  | [], _, _, k, q, e => by simp at e
  | b :: bs, i, hc, k, r, e => by
    have shift : ∀ k', i + 1 + k' = i + (k' + 1) := fun k' => by omega
    cases b with
    | none =>
      have hc' : sameH l h s (i + 1) bs := hc
      cases k with
      | zero => simp at e
      | succ k => have := sameH_get hc' k r (by simpa using e); rwa [shift] at this
    | some r0 =>
      simp only [sameH] at hc
      split at hc
      · rename_i j hj
        split at hc
        · rename_i q0 hq
          obtain ⟨ho, hn, hc'⟩ := Ck.out hc
          cases k with
          | zero => simp only [List.getElem?_cons_zero, Option.some.injEq] at e; subst e; exact .inl ⟨j, q0, by simpa using hj, hq, hn, ho⟩
          | succ k => have := sameH_get hc' k r (by simpa using e); rwa [shift] at this
        · exact hc.elim
      · rename_i hj
        obtain ⟨hn, hc'⟩ := hc
        cases k with
        | zero => simp only [List.getElem?_cons_zero, Option.some.injEq] at e; subst e; exact .inr ⟨by simpa using hj, hn⟩
        | succ k => have := sameH_get hc' k r (by simpa using e); rwa [shift] at this
/-- The names that are given and that the state has. -/
def givenL (l : Nms) : Nat → SHeap → List Nat
  | _, [] => []
  | k, none :: r => givenL l (k + 1) r
  | k, some _ :: r => match pi l k with | some j => j :: givenL l (k + 1) r | none => givenL l (k + 1) r
def notIn (x : Nat) : List Nat → Bool
  | [] => true
  | y :: r => !(Nat.beq x y) && notIn x r
def apart : List Nat → Bool
  | [] => true
  | x :: r => notIn x r && apart r
def fixed (l : Nms) (h : SHeap) : Nat → Bool
  | 0 => true
  | n + 1 => givenB h n && isN l n n && fixed l h n
theorem notIn_spec {x : Nat} : ∀ {l : List Nat}, notIn x l = true → x ∉ l
  | [], _ => by simp
  | y :: r, h => by
    simp only [notIn, Bool.and_eq_true, Bool.not_eq_true'] at h
    simp only [List.mem_cons, not_or]
    exact ⟨fun e => by subst e; simp at h, notIn_spec h.2⟩
theorem givenL_mem {l : Nms} {q : SO} {j : Nat} : ∀ {h : SHeap} {i k : Nat}, h[k]? = some (some q) → pi l (i + k) = some j → j ∈ givenL l i h
  | [], _, _, e, _ => by simp at e
  | x :: r, i, k, e, hp => by
    cases k with
    | zero => simp only [List.getElem?_cons_zero, Option.some.injEq] at e; subst e; simp only [givenL]; rw [show i = i + 0 from rfl, hp]; simp
    | succ k =>
      have := givenL_mem (l := l) (j := j) (h := r) (i := i + 1) (k := k) (by simpa using e) (by rwa [show i + 1 + k = i + (k + 1) from by omega])
      cases x with
      | none => exact this
      | some _ =>
        simp only [givenL]
        split
        · exact List.mem_cons_of_mem _ this
        · exact this
theorem givenL_inj {l : Nms} : ∀ {h : SHeap} {i : Nat}, apart (givenL l i h) = true → ∀ {j k : Nat} {q q' : SO} {x : Nat}, h[j]? = some (some q) → h[k]? = some (some q') → pi l (i + j) = some x → pi l (i + k) = some x → j = k
  | [], _, _, j, k, _, _, _, e, _, _, _ => by simp at e
  | y :: r, i, ha, j, k, q, q', x, e1, e2, p1, p2 => by
    have tl : apart (givenL l (i + 1) r) = true := by
      cases y with
      | none => exact ha
      | some _ =>
        simp only [givenL] at ha
        split at ha
        · simp only [apart, Bool.and_eq_true] at ha; exact ha.2
        · exact ha
    have hd : ∀ {z : SO}, y = some z → pi l i = some x → x ∉ givenL l (i + 1) r := fun {z} hy hp => by
      subst hy
      simp only [givenL, hp, apart, Bool.and_eq_true] at ha
      exact notIn_spec ha.1
    cases j with
    | zero =>
      cases k with
      | zero => rfl
      | succ k =>
        simp only [List.getElem?_cons_zero, Option.some.injEq] at e1
        have := givenL_mem (l := l) (j := x) (h := r) (i := i + 1) (k := k) (by simpa using e2) (by rwa [show i + 1 + k = i + (k + 1) from by omega])
        exact absurd this (hd e1 (by simpa using p1))
    | succ j =>
      cases k with
      | zero =>
        simp only [List.getElem?_cons_zero, Option.some.injEq] at e2
        have := givenL_mem (l := l) (j := x) (h := r) (i := i + 1) (k := j) (by simpa using e1) (by rwa [show i + 1 + j = i + (j + 1) from by omega])
        exact absurd this (hd e2 (by simpa using p2))
      | succ k =>
        have := givenL_inj tl (j := j) (k := k) (by simpa using e1) (by simpa using e2) (by rwa [show i + 1 + j = i + (j + 1) from by omega]) (by rwa [show i + 1 + k = i + (k + 1) from by omega])
        omega
theorem fixed_spec {l : Nms} {h : SHeap} : ∀ {n : Nat}, fixed l h n = true → ∀ k, k < n → givenB h k = true ∧ isN l k k = true
  | 0, _, k, hk => absurd hk (Nat.not_lt_zero _)
  | n + 1, e, k, hk => by
    simp only [fixed, Bool.and_eq_true] at e
    rcases Nat.lt_succ_iff_lt_or_eq.1 hk with h1 | rfl
    · exact fixed_spec e.2 k h1
    · exact e.1
/-- The heap 's' is one of those that 'g' speaks of. -/
def CoverH (n0 : Nat) (l : Nms) (s g : SHeap) : Prop := Ck (fixed l g n0 && apart (givenL l 0 g)) (sameH l g s 0 g)
theorem coverH_rep {C : Cfg} {ρ : Ren} {w : World} {fz : Nat → Prop} {l : Nms} {s g : SHeap} (hc : CoverH C.n0 l s g) (hW : WRepF C ρ s w fz) : WRepF C (reN l ρ) g w fz := by
  obtain ⟨hp, hh⟩ := Ck.out hc
  simp only [Bool.and_eq_true] at hp
  obtain ⟨hfix, hap⟩ := hp
  have back : ∀ (k : Nat) (r : SO), g[k]? = some (some r) → (∃ j q, pi l k = some j ∧ s[j]? = some (some q) ∧ sameO l q r ∧ onlyO g r = true) ∨ (pi l k = none ∧ emptyO r) := fun k r e => by
    have := sameH_get hh k r e
    simpa using this
  have nothere : ∀ {k : Nat} {r : SO}, pi l k = none → emptyO r → ¬ r.here (reN l ρ k) := fun {k r} hp he hx => by
    simp only [reN, hp] at hx
    unfold emptyO at he
    split at he
    · exact absurd hx (Nat.lt_irrefl 0)
    · exact hx
    · exact hx
    · exact he
  have herev : ∀ {k : Nat} {r : SO}, g[k]? = some (some r) → r.here (reN l ρ k) → ∃ j q, pi l k = some j ∧ s[j]? = some (some q) ∧ q.here (ρ j) ∧ reN l ρ k = ρ j := fun {k r} e hx => by
    rcases back k r e with ⟨j, q, hj, hq, hs, ho⟩ | ⟨hp, he⟩
    · have hb : reN l ρ k = ρ j := by simp only [reN, hj]
      rw [hb] at hx
      exact ⟨j, q, hj, hq, (sameO_rep (g := g) hs ho (hW.objs j q hq)).2 hx, hb⟩
    · exact absurd hx (nothere hp he)
  refine ⟨fun k hk => ?_, ?_, ?_, ?_, ?_, hW.fznew, hW.fzlt, hW.fzold, hW.block, hW.size, hW.os, hW.tape, hW.output⟩
  · obtain ⟨h1, h2⟩ := fixed_spec hfix k hk
    exact ⟨by rw [isN_spec h2]; exact (hW.pre k hk).1, givenB_spec h1⟩
  · intro k r e
    rcases back k r e with ⟨j, q, hj, hq, hs, ho⟩ | ⟨hp, he⟩
    · have hb : reN l ρ k = ρ j := by simp only [reN, hj]
      rw [hb]
      exact (sameO_rep (g := g) hs ho (hW.objs j q hq)).1
    · simp only [reN, hp]
      unfold emptyO at he
      split at he
      · subst he
        exact ⟨rfl, [], [], fun h => absurd h (Nat.lt_irrefl 0), by simp [Tail.Ok], ⟨rfl, by simp⟩⟩
      · subst he
        exact ⟨fun _ => undef, fun j d h => by simp at h, fun j d h => by simp at h, fun j d h => by simp at h⟩
      · trivial
      · exact he.elim
  · intro j k r1 r2 e1 e2 l1 l2 he
    obtain ⟨j1, q1, p1, g1, h1, b1⟩ := herev e1 l1
    obtain ⟨j2, q2, p2, g2, h2, b2⟩ := herev e2 l2
    rw [b1, b2] at he
    have := hW.inj j1 j2 _ _ g1 g2 h1 h2 he
    subst this
    exact givenL_inj hap e1 e2 (by simpa using p1) (by simpa using p2)
  · intro k r e hl
    obtain ⟨j, q, _, hq, hh, hb⟩ := herev e hl
    rw [hb]; exact hW.new j q hq hh
  · intro k r e hl
    obtain ⟨j, q, _, hq, hh, hb⟩ := herev e hl
    rw [hb]; exact hW.frz j q hq hh

/-! ### states -/
def sameNL (l : Nms) : List Nat → List Nat → Bool
  | [], [] => true
  | j :: js, k :: ks => isN l j k && sameNL l js ks
  | _, _ => false
def sameN1 (l : Nms) : Option Nat → Option Nat → Bool
  | none, none => true
  | some j, some k => isN l j k
  | _, _ => false
def sameHd (l : Nms) : Option (Bool × Nat) → Option (Bool × Nat) → Bool
  | none, none => true
  | some (a, j), some (b, k) => (a == b) && isN l j k
  | _, _ => false
def allGiven (h : SHeap) : List Nat → Bool
  | [] => true
  | k :: r => givenB h k && allGiven h r
theorem allGiven_spec {h : SHeap} : ∀ {l : List Nat}, allGiven h l = true → NamesOk h l
  | [], _ => fun k hk => by simp at hk
  | x :: r, e => fun k hk => by
    simp only [allGiven, Bool.and_eq_true] at e
    rcases List.mem_cons.1 hk with rfl | hk
    · exact givenB_spec e.1
    · exact allGiven_spec e.2 k hk
def sameF (l : Nms) (h : SHeap) : List SF → List SF → Prop
  | [], [] => True
  | f :: fs, g :: gs => Ck (Nat.beq f.fn g.fn && (f.ret == g.ret) && sameHd l f.hd g.hd && sameNL l f.dfs g.dfs && sameN1 l f.round g.round && onlyS h g.tmps && allGiven h g.names)
      (f.todo = g.todo ∧ sameS l f.tmps g.tmps ∧ sameF l h fs gs)
  | _, _ => False
theorem sameNL_map {l : Nms} {ρ : Ren} : ∀ {js ks : List Nat}, sameNL l js ks = true → ks.map (markD (reN l ρ)) = js.map (markD ρ)
  | [], [], _ => rfl
  | j :: js, k :: ks, e => by
    simp only [sameNL, Bool.and_eq_true] at e
    simp only [List.map_cons, sameNL_map e.2, markD, isN_spec e.1]
  | [], _ :: _, e => by simp [sameNL] at e
  | _ :: _, [], e => by simp [sameNL] at e
theorem sameF_rep {l : Nms} {h g : SHeap} {ρ : Ren} : ∀ {as bs : List SF} {fs : List Frame}, sameF l g as bs → FsRep h ρ as fs → FsRep g (reN l ρ) bs fs
  | [], [], [], _, _ => trivial
  | a :: as, b :: bs, f :: fs, hc, ⟨⟨tmps, hf, hr, hn⟩, hs⟩ => by
    obtain ⟨h1, h2, h3, h4⟩ := Ck.out hc
    simp only [Bool.and_eq_true] at h1
    obtain ⟨⟨⟨⟨⟨⟨n1, n2⟩, n3⟩, n4⟩, n5⟩, n6⟩, n7⟩ := h1
    refine ⟨⟨tmps, ?_, sameS_rep h3 n6 hr, allGiven_spec n7⟩, sameF_rep h4 hs⟩
    rw [hf]
    have e1 := Nat.eq_of_beq_eq_true n1
    have e2 := eq_of_beq n2
    have e4 := sameNL_map (ρ := ρ) n4
    have e5 : (b.round.map fun k => (reN l ρ k).b) = a.round.map fun k => (ρ k).b := by
      unfold sameN1 at n5
      split at n5
      · rename_i h1 h2; rw [h1, h2]; rfl
      · rename_i h1 h2; rw [h1, h2]; simp [isN_spec n5]
      · cases n5
    have e3 : hdItems (reN l ρ) b.hd = hdItems ρ a.hd := by
      unfold sameHd at n3
      split at n3
      · rename_i h1 h2; rw [h1, h2]; rfl
      · rename_i x j y k h1 h2
        simp only [Bool.and_eq_true] at n3
        have := eq_of_beq n3.1
        subst this
        rw [h1, h2]
        cases x <;> simp [hdItems, isN_spec n3.2]
      · cases n3
    unfold mkF
    rw [e1, e2, e3, e4, e5, h2]
  | [], [], _ :: _, _, h => h.elim
  | _ :: _, _ :: _, [], _, h => h.elim
  | [], _ :: _, _, h, _ => h.elim
  | _ :: _, [], _, h, _ => h.elim
/-- The state 's' is one of those that 'g' speaks of. -/
def Covers (n0 : Nat) (l : Nms) (s g : St) : Prop := CoverH n0 l s.heap g.heap ∧ sameF l g.heap s.frs g.frs
theorem covers_run {P : Program} {C : Cfg} {f : FuncId} {R : Ending → World → Prop} {l : Nms} {s g : St} (hc : Covers C.n0 l s g) (hr : Run P C f R g) : Run P C f R s := by
  intro ρ w fs hF hW cs
  obtain ⟨fz, hW⟩ := hW
  exact hr (reN l ρ) w fs (sameF_rep hc.2 hF) ⟨fz, coverH_rep hc.1 hW⟩ cs
end Go.Sy
