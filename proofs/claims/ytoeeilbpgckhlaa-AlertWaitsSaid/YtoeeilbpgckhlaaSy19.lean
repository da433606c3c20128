/- A symbolic run, second making: a law said once, of blocks by its own names, holds wherever it is called. -/
import Derived.Test.YtoeeilbpgckhlaaSy18
namespace Go.Sy
open Go

/-- What a law's name is at a call: the caller's name, so many cells on, with so much room; 'len': how many cells of it are looked at (none: all). -/
structure At where
  j : Nat
  off : Nat := 0
  cap : Cap := .hid 0
  len : Option Nat := none
abbrev Ats := List (Option At)
def atO (l : Ats) (k : Nat) : Option At := match l[k]? with | some x => x | none => none
def atB (ρ : Ren) : Option At → Blk
  | some a => ⟨(ρ a.j).b, (ρ a.j).o + a.off, a.cap.den (ρ a.j)⟩
  | none => ⟨0, 0, 0⟩
def atR (l : Ats) (ρ : Ren) : Ren := fun k => atB ρ (atO l k)
def Cap.sub : Cap → Nat → Cap
  | .lit m, d => .lit (m - d)
  | .hid e, d => .hid (e + d)
/-- A room within a room. -/
def Cap.thr (c : Cap) (a : Cap) : Cap := match c with | .lit x => .lit x | .hid d => a.sub d
theorem Cap.thr_den (c a : Cap) (x y : Blk) (h : y.cap = a.den x) : (c.thr a).den x = c.den y := by
  cases c with
  | lit n => rfl
  | hid d =>
    simp only [Cap.thr, Cap.den, h]
    cases a with
    | lit m => rfl
    | hid e => simp only [Cap.sub]; exact (Nat.sub_sub _ _ _).symm

/-! ### arguments -/
def isA (l : Ats) (j k : Nat) : Option At := match atO l k with | some a => (match Nat.beq a.j j with | true => some a | false => none) | none => none
theorem isA_spec {l : Ats} {j k : Nat} {a : At} (h : isA l j k = some a) : atO l k = some a ∧ a.j = j := by
  unfold isA at h
  split at h
  · rename_i a' ha
    split at h
    · rename_i hb; cases h; exact ⟨ha, Nat.eq_of_beq_eq_true hb⟩
    · cases h
  · cases h
def matP (l : Ats) : List (Nat × Nat) → List (Nat × Nat) → Prop
  | [], [] => True
  | (k, o) :: r, (k', o') :: r' => (match isA l k k' with | some a => o = a.off + o' | none => False) ∧ matP l r r'
  | _, _ => False
def matC (l : Ats) (u v : SC) : Prop :=
  match u, v with
  | .p k o, .p k' o' => match isA l k k' with | some a => o = a.off + o' | none => False
  | .s k o n c, .s k' o' n' c' =>
    match isA l k k' with
    | some a => o = a.off + o' ∧ n = n' ∧ c = c'.thr a.cap
    | none =>
      match c, c', atO l k' with
      | .lit 0, .hid _, none => n = n'
      | _, _, _ => False
  | .v (.slice none 0 0), .s k' _ n' (.hid _) => match atO l k' with | none => n' = 0 | some _ => False
  | .v (.slice none 0 0), .v (.slice none 0 0) => True
  | .f fn cs, .f fn' cs' => Ck (Nat.beq fn fn') (matP l cs cs')
  | u, v =>
    match u.lit, v.lit with
    | some a, some b => sameX a b
    | _, _ => False
theorem matP_R {l : Ats} {ρ : Ren} : ∀ {cs cs' : List (Nat × Nat)}, matP l cs cs' → cs'.map (capV (atR l ρ)) = cs.map (capV ρ)
  | [], [], _ => rfl
  | (k, o) :: cs, (k', o') :: cs', ⟨h, hr⟩ => by
    split at h
    · rename_i a ha
      obtain ⟨h1, rfl⟩ := isA_spec ha
      subst h
      simp only [List.map_cons, matP_R hr, capV, atR, h1, atB, Nat.add_assoc]
    · exact h.elim
  | [], _ :: _, h => h.elim
  | _ :: _, [], h => h.elim
theorem matC_R {l : Ats} {ρ : Ren} {u v : SC} {x : Value} (h : matC l u v) (r : u.R ρ x) : v.R (atR l ρ) x := by
  unfold matC at h
  split at h
  · split at h
    · rename_i a ha
      obtain ⟨h1, rfl⟩ := isA_spec ha
      subst h
      simp only [SC.R, atR, h1, atB, Nat.add_assoc] at r ⊢
      exact r
    · exact h.elim
  · split at h
    · rename_i a ha
      obtain ⟨h1, rfl⟩ := isA_spec ha
      obtain ⟨rfl, rfl, rfl⟩ := h
      obtain ⟨p, rfl, hl, hp⟩ := r
      have hden := fun c' => Cap.thr_den c' a.cap (ρ a.j) ⟨(ρ a.j).b, (ρ a.j).o + a.off, a.cap.den (ρ a.j)⟩ rfl
      simp only [SC.R, atR, h1, atB]
      rw [hden] at hl hp ⊢
      exact ⟨p, rfl, hl, fun h0 => by rw [hp h0, Nat.add_assoc]⟩
    · split at h
      · rename_i hp
        subst h
        obtain ⟨a, rfl, hle, _⟩ := r
        simp only [SC.R, atR, hp, atB, Cap.den] at hle ⊢
        exact ⟨a, by simp, by omega, fun h => by omega⟩
      · exact h.elim
  · split at h
    · rename_i hp
      subst h
      have r : x = .slice none 0 0 := r
      subst r
      simp only [SC.R, atR, hp, atB, Cap.den]
      exact ⟨none, by simp, by omega, fun h => by omega⟩
    · exact h.elim
  · exact r
  · obtain ⟨h1, h2⟩ := h.out
    have h1 := Nat.eq_of_beq_eq_true h1
    have h4 := matP_R (ρ := ρ) h2
    subst h1
    simp only [SC.R, h4] at r ⊢
    exact r
  · split at h
    · rename_i a b ha hb
      have e := sameX_eq h
      have h1 : x = a := lit_eq (v := .c u) (by cases u <;> simp [SC.lit] at ha <;> simp [SV.lit, ha]) r
      have h2 : (SV.c v).R (atR l ρ) b := lit_mk (by cases v <;> simp [SC.lit] at hb <;> simp [SV.lit, hb])
      rw [h1, e]
      exact h2
    · exact h.elim
def matL (l : Ats) : List SC → List SC → Prop
  | [], [] => True
  | u :: us, v :: vs => matC l u v ∧ matL l us vs
  | _, _ => False
theorem matL_R {l : Ats} {ρ : Ren} : ∀ {us vs : List SC} {xs : List Value}, matL l us vs → CsR ρ us xs → CsR (atR l ρ) vs xs
  | [], [], [], _, _ => trivial
  | _ :: _, _ :: _, _ :: _, ⟨a, b⟩, ⟨c, d⟩ => ⟨matC_R a c, matL_R b d⟩
  | [], _ :: _, _, h, _ => h.elim
  | _ :: _, [], _, h, _ => h.elim
  | [], [], _ :: _, _, r => r.elim
  | _ :: _, _ :: _, [], _, r => r.elim
def matV (l : Ats) (u v : SV) : Prop :=
  match u, v with
  | .c x, .c y => matC l x y
  | .a xs, .a ys => matL l xs ys
  | .al xs, .al ys => xs = ys
  | .a xs, .al ys => match lits xs with | some vs => vs = ys | none => False
  | _, _ => False
theorem matV_R {l : Ats} {ρ : Ren} {u v : SV} {x : Value} (h : matV l u v) (r : u.R ρ x) : v.R (atR l ρ) x := by
  unfold matV at h
  split at h
  · exact matC_R h r
  · obtain ⟨vs, e, hr⟩ := r; exact ⟨vs, e, matL_R h hr⟩
  · subst h; exact r
  · split at h
    · rename_i vs hv
      subst h
      obtain ⟨us, e, hr⟩ := r
      rw [lits_eq hv hr] at e
      exact e
    · exact h.elim
  · exact h.elim
def matVs (l : Ats) : List SV → List SV → Prop
  | [], [] => True
  | u :: us, v :: vs => matV l u v ∧ matVs l us vs
  | _, _ => False
theorem matVs_R {l : Ats} {ρ : Ren} : ∀ {us vs : List SV} {xs : List Value}, matVs l us vs → VsR ρ us xs → VsR (atR l ρ) vs xs
  | [], [], [], _, _ => trivial
  | _ :: _, _ :: _, _ :: _, ⟨a, b⟩, ⟨c, d⟩ => ⟨matV_R a c, matVs_R b d⟩
  | [], _ :: _, _, h, _ => h.elim
  | _ :: _, [], _, h, _ => h.elim
  | [], [], _ :: _, _, r => r.elim
  | _ :: _, _ :: _, [], _, r => r.elim

/-! ### blocks -/
def dropZ (o : Nat) (l : List D) : List D := match o with | 0 => l | n + 1 => l.drop (n + 1)
def takeZ (n : Option Nat) (l : List D) : List D := match n with | none => l | some n => l.take n
/-- What a law sees of the caller's row. -/
def cutD (a : At) (l : List D) : List D := takeZ a.len (dropZ a.off l)
theorem cutD_get {a : At} {l : List D} {j : Nat} {d : D} (h : (cutD a l)[j]? = some d) : l[a.off + j]? = some d := by
  have key : ∀ {m : List D}, (takeZ a.len m)[j]? = some d → m[j]? = some d := fun {m} h => by
    unfold takeZ at h
    split at h
    · exact h
    · rw [List.getElem?_take] at h
      split at h
      · exact h
      · cases h
  have h := key h
  unfold dropZ at h
  split at h
  · rename_i e; rw [e, Nat.zero_add]; exact h
  · rename_i e; rw [e]; rw [List.getElem?_drop] at h; exact h
def isHid0 : Cap → Bool | .hid 0 => true | _ => false
def whole (a : At) : Bool := Nat.beq a.off 0 && isHid0 a.cap
theorem whole_spec {a : At} (h : whole a = true) (ρ : Ren) : atB ρ (some a) = ρ a.j := by
  simp only [whole, Bool.and_eq_true] at h
  have h1 := Nat.eq_of_beq_eq_true h.1
  have h2 := h.2
  unfold isHid0 at h2
  split at h2
  · rename_i e; simp [atB, h1, e, Cap.den]
  · cases h2
/-- 'A': the caller's own rows may be seen as such that nobody changes (while the call runs nobody does). -/
def matO (A : Bool) (l : Ats) (a : At) (q r : SO) : Prop :=
  match q, r with
  | .ice xs, .ice ys => cutD a xs = ys
  | .row xs _ _, .ice ys => Ck A (cutD a xs = ys)
  | .cells cs _ _, .ice ys => Ck (A && flats cs) (match lits cs with | some xs => cutD a (xs.map .v) = ys | none => False)
  | .cells xs t m, .cells ys t' m' => Ck (whole a && Nat.beq t t') (m = m' ∧ matL l xs ys)
  | .row xs t m, .row ys t' m' => Ck (whole a && Nat.beq t t') (m = m' ∧ xs = ys)
  | .cells xs t m, .row ys t' m' => Ck (whole a && Nat.beq t t' && flats xs) (match lits xs with | some vs => m = m' ∧ vs.map .v = ys | none => False)
  | _, .gone => True
  | _, _ => False
def matH (A : Bool) (l : Ats) (s : SHeap) : Nat → List SO → Prop
  | _, [] => True
  | k, r :: rs =>
    match atO l k with
    | some a =>
      match s[a.j]? with
      | some (some q) => matO A l a q r ∧ matH A l s (k + 1) rs
      | _ => False
    | none => emptyO r ∧ matH A l s (k + 1) rs
def lookT (l : Ats) (s : SHeap) : Nat → List SO → List (Nat × SO)
  | _, [] => []
  | k, _ :: rs =>
    match atO l k with
    | some a => match s[a.j]? with | some (some q) => (a.j, q) :: lookT l s (k + 1) rs | _ => lookT l s (k + 1) rs
    | none => lookT l s (k + 1) rs
theorem lookT_ok {l : Ats} {s : SHeap} : ∀ {rs : List SO} {k : Nat}, ∀ x ∈ lookT l s k rs, s[x.1]? = some (some x.2)
  | [], _, x, h => by simp [lookT] at h
  | r :: rs, k, x, h => by
    simp only [lookT] at h
    split at h
    · split at h
      · rename_i a _ q hq
        rcases List.mem_cons.1 h with rfl | h
        · exact hq
        · exact lookT_ok x h
      · exact lookT_ok x h
    · exact lookT_ok x h
theorem matH_look {A : Bool} {l : Ats} {s g : SHeap} : ∀ {rs : List SO} {k : Nat}, matH A l s k rs → (∀ x ∈ lookT l s k rs, g[x.1]? = some (some x.2)) → matH A l g k rs
  | [], _, _, _ => trivial
  | r :: rs, k, h, ht => by
    simp only [matH] at h ⊢
    simp only [lookT] at ht
    split at h
    · rename_i a ha
      split at h
      · rename_i q hq
        simp only [ha, hq] at ht ⊢
        rw [ht _ (List.mem_cons_self ..)]
        exact ⟨h.1, matH_look h.2 fun x hx => ht x (List.mem_cons_of_mem _ hx)⟩
      · exact h.elim
    · rename_i ha
      simp only [ha] at ht ⊢
      exact ⟨h.1, matH_look h.2 ht⟩
theorem matH_get {A : Bool} {l : Ats} {s : SHeap} : ∀ {rs : List SO} {i : Nat}, matH A l s i rs → ∀ (k : Nat) (r : SO), rs[k]? = some r →
    (∃ a q, atO l (i + k) = some a ∧ s[a.j]? = some (some q) ∧ matO A l a q r) ∨ (atO l (i + k) = none ∧ emptyO r)
  | [], _, _, k, r, e => by simp at e
  | b :: bs, i, h, k, r, e => by
    simp only [matH] at h
    have shift : ∀ k', i + 1 + k' = i + (k' + 1) := fun k' => by omega
    split at h
    · rename_i a ha
      split at h
      · rename_i q hq
        cases k with
        | zero => simp only [List.getElem?_cons_zero, Option.some.injEq] at e; subst e; exact .inl ⟨a, q, by simpa using ha, hq, h.1⟩
        | succ k => have := matH_get h.2 k r (by simpa using e); rwa [shift] at this
      · exact h.elim
    · rename_i ha
      cases k with
      | zero => simp only [List.getElem?_cons_zero, Option.some.injEq] at e; subst e; exact .inr ⟨by simpa using ha, h.1⟩
      | succ k => have := matH_get h.2 k r (by simpa using e); rwa [shift] at this

/-! ### what comes of it, by the caller's names -/
def nmOf (l : Ats) (m n nm k : Nat) : Option At :=
  match Nat.blt k m with
  | true => atO l k
  | false => match Nat.blt k (m + n) with | true => some { j := nm + (k - m) } | false => none
def renP (f : Nat → Option At) : List (Nat × Nat) → Option (List (Nat × Nat))
  | [] => some []
  | (k, o) :: r => match f k, renP f r with | some a, some r' => some ((a.j, a.off + o) :: r') | _, _ => none
def renC (f : Nat → Option At) : SC → Option SC
  | .v x => some (.v x)
  | .kv x => some (.kv x)
  | .b z => some (.b z)
  | .p k o => match f k with | some a => some (.p a.j (a.off + o)) | none => none
  | .s k o n c => match f k with | some a => some (.s a.j (a.off + o) n (c.thr a.cap)) | none => none
  | .f fn cs => match renP f cs with | some cs' => some (.f fn cs') | none => none
  | .y _ => none
def renL (f : Nat → Option At) : List SC → Option (List SC)
  | [] => some []
  | c :: r => match renC f c, renL f r with | some c', some r' => some (c' :: r') | _, _ => none
def renT (f : Nat → Option At) : List (SC ⊕ List SC) → Option (List (SC ⊕ List SC))
  | [] => some []
  | .inl c :: r => match renC f c, renT f r with | some c', some r' => some (.inl c' :: r') | _, _ => none
  | .inr c :: r => match renL f c, renT f r with | some c', some r' => some (.inr c' :: r') | _, _ => none
def renV (f : Nat → Option At) : SV → Option SV
  | .c x => match renC f x with | some y => some (.c y) | none => none
  | .a xs => match renL f xs with | some ys => some (.a ys) | none => none
  | .al xs => some (.al xs)
  | .t xs => match renT f xs with | some ys => some (.t ys) | none => none
def renO (f : Nat → Option At) : SO → Option SO
  | .cells cs t m => match renL f cs with | some cs' => some (.cells cs' t m) | none => none
  | .row xs t m => some (.row xs t m)
  | .ice xs => some (.ice xs)
  | .gone => some .gone
  | _ => none
def renOs (f : Nat → Option At) : List SO → Option (List SO)
  | [] => some []
  | o :: r => match renO f o, renOs f r with | some o', some r' => some (o' :: r') | _, _ => none
section
variable {f : Nat → Option At} {ρ' ρ'' : Ren} (hf : ∀ k a, f k = some a → atB ρ'' (some a) = ρ' k)
include hf
theorem renP_R : ∀ {cs cs' : List (Nat × Nat)}, renP f cs = some cs' → cs'.map (capV ρ'') = cs.map (capV ρ')
  | [], _, h => by cases h; rfl
  | (k, o) :: r, cs', h => by
    simp only [renP] at h
    split at h
    · rename_i a r' ha hr
      cases h
      have := hf k a ha
      simp only [List.map_cons, renP_R hr, capV, ← this, atB, Nat.add_assoc]
    · cases h
theorem renC_R {c c' : SC} {x : Value} (h : renC f c = some c') (r : c.R ρ' x) : c'.R ρ'' x := by
  cases c with
  | v y => cases h; exact r
  | kv y => cases h; exact r
  | b y => cases h; exact r
  | p k o =>
    simp only [renC] at h
    split at h
    · rename_i a ha
      cases h
      simp only [SC.R, ← hf k a ha, atB, Nat.add_assoc] at r ⊢
      exact r
    · cases h
  | s k o n c =>
    simp only [renC] at h
    split at h
    · rename_i a ha
      cases h
      obtain ⟨p, rfl, hl, hp⟩ := r
      have hb := hf k a ha
      have hden := Cap.thr_den c a.cap (ρ'' a.j) (ρ' k) (by rw [← hb]; rfl)
      refine ⟨p, by rw [hden], by rw [hden]; exact hl, fun h0 => ?_⟩
      rw [hden] at h0
      rw [hp h0, ← hb]
      simp only [atB, Nat.add_assoc]
    · cases h
  | f fn cs =>
    simp only [renC] at h
    split at h
    · rename_i cs' hc
      cases h
      simp only [SC.R, renP_R hf hc] at r ⊢
      exact r
    · cases h
  | y k => cases h
theorem renL_R : ∀ {cs cs' : List SC} {xs : List Value}, renL f cs = some cs' → CsR ρ' cs xs → CsR ρ'' cs' xs
  | [], _, [], h, _ => by cases h; trivial
  | c :: r, cs', x :: xs, h, ⟨hc, hr⟩ => by
    simp only [renL] at h
    split at h
    · rename_i c' r' h1 h2
      cases h
      exact ⟨renC_R hf h1 hc, renL_R h2 hr⟩
    · cases h
  | [], _, _ :: _, _, r => r.elim
  | _ :: _, _, [], _, r => r.elim
theorem renT_R : ∀ {cs cs' : List (SC ⊕ List SC)} {xs : List Value}, renT f cs = some cs' → TsR ρ' cs xs → TsR ρ'' cs' xs
  | [], _, [], h, _ => by cases h; trivial
  | .inl c :: r, cs', x :: xs, h, ⟨hc, hr⟩ => by
    simp only [renT] at h
    split at h
    · rename_i c' r' h1 h2
      cases h
      exact ⟨renC_R hf h1 hc, renT_R h2 hr⟩
    · cases h
  | .inr c :: r, cs', x :: xs, h, ⟨hc, hr⟩ => by
    simp only [renT] at h
    split at h
    · rename_i c' r' h1 h2
      cases h
      obtain ⟨us, e, hu⟩ := hc
      exact ⟨⟨us, e, renL_R hf h1 hu⟩, renT_R h2 hr⟩
    · cases h
  | [], _, _ :: _, _, r => r.elim
  | .inl _ :: _, _, [], _, r => r.elim
  | .inr _ :: _, _, [], _, r => r.elim
theorem renV_R {v v' : SV} {x : Value} (h : renV f v = some v') (r : v.R ρ' x) : v'.R ρ'' x := by
  cases v with
  | c y =>
    simp only [renV] at h
    split at h
    · rename_i hy; cases h; exact renC_R hf hy r
    · cases h
  | a ys =>
    simp only [renV] at h
    split at h
    · rename_i hy; cases h; obtain ⟨us, e, hu⟩ := r; exact ⟨us, e, renL_R hf hy hu⟩
    · cases h
  | al ys => cases h; exact r
  | t ys =>
    simp only [renV] at h
    split at h
    · rename_i hy; cases h; obtain ⟨us, e, hu⟩ := r; exact ⟨us, e, renT_R hf hy hu⟩
    · cases h
end
theorem renO_here {f : Nat → Option At} {p q : SO} (h : renO f p = some q) (x : Blk) : q.here x ↔ p.here x := by
  cases p with
  | cells cs t m =>
    simp only [renO] at h
    split at h
    · cases h; exact Iff.rfl
    · cases h
  | row xs t m => cases h; exact Iff.rfl
  | ice xs => cases h; exact Iff.rfl
  | gone => cases h; exact Iff.rfl
  | loop L => cases h
  | dfr b => cases h
theorem renOs_get {f : Nat → Option At} : ∀ {ps qs : List SO}, renOs f ps = some qs → qs.length = ps.length ∧ ∀ (t : Nat) (q : SO), qs[t]? = some q → ∃ p, ps[t]? = some p ∧ renO f p = some q
  | [], _, h => by cases h; exact ⟨rfl, by simp⟩
  | p :: ps, qs, h => by
    simp only [renOs] at h
    split at h
    · rename_i o' r' h1 h2
      cases h
      obtain ⟨hl, hg⟩ := renOs_get h2
      refine ⟨by simp [hl], fun t q hq => ?_⟩
      cases t with
      | zero => simp at hq; subst hq; exact ⟨p, rfl, h1⟩
      | succ t => simpa using hg t q (by simpa using hq)
    · cases h
end Go.Sy
