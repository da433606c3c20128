/- A symbolic run, second making: a law said once holds at every call: the theorem; laws so made. -/
import Derived.Test.YtoeeilbpgckhlaaSy20
namespace Go.Sy
open Go

def onlyVs (g : SHeap) : List SV → Bool
  | [] => true
  | v :: r => onlyV g v && onlyVs g r
theorem onlyVs_rep {g : SHeap} {ρ : Ren} : ∀ {as : List SV} {xs : List Value}, onlyVs g as = true → VsR ρ as xs → AsRep g ρ as xs
  | [], [], _, _ => fun _ _ => trivial
  | v :: as, x :: xs, h, ⟨a, b⟩ => by
    simp only [onlyVs, Bool.and_eq_true] at h
    exact fun ρ' ha => ⟨(onlyV_R ha h.1).2 a, onlyVs_rep h.2 b ρ' ha⟩
  | [], _ :: _, _, h => h.elim
  | _ :: _, [], _, h => h.elim
/-- The blocks that a law may change. -/
def Plains (c : Pat) (a : Alt) : Prop := ∀ (k : Nat) (p : SO), a.post[k]? = some p → (∀ r, c.pre[k]? = some r → iceB r = false) → PlainO p

theorem matO_whole {A : Bool} {l : Ats} {a : At} {q r : SO} (hs : matO A l a q r) (hi : iceB r = false) (ρ : Ren) : atB ρ (some a) = ρ a.j := by
  unfold matO at hs
  split at hs
  · cases hi
  · cases hi
  · cases hi
  · obtain ⟨ht, _⟩ := hs.out
    simp only [Bool.and_eq_true] at ht
    exact whole_spec ht.1 ρ
  · obtain ⟨ht, _⟩ := hs.out
    simp only [Bool.and_eq_true] at ht
    exact whole_spec ht.1 ρ
  · obtain ⟨ht, _⟩ := hs.out
    simp only [Bool.and_eq_true] at ht
    exact whole_spec ht.1.1 ρ
  · cases hi
  · exact hs.elim
section
variable {P : Program} {C : Cfg} {g : FuncId} {c : Pat} {al : Alt} {l : Ats} {A : Bool} {nm : Nat} {h0 : SHeap} {as : List SV} {e : Eff}
/-- A LAW SAID OF ITS OWN NAMES HOLDS OF THE CALLER'S. -/
theorem lift (hcl : LawOk P g c al) (hm0 : matH A l h0 0 c.pre) (hv : matVs l as c.args) (hok : okAll l c.pre = true) (hon : onlyVs (up c.pre) c.args = true) (hono : c.pre.all (onlyO (up c.pre)) = true)
    (hA : A = true → Plains c al) (he : effOf l nm c al = some e) : CallOk P C nm g as (lookT l h0 0 c.pre) e := by
  intro h ρ w args hT hfree hW hAs
  obtain ⟨fz, hW⟩ := hW
  have hm := matH_look hm0 hT
  have get : ∀ (k : Nat) (r : SO), c.pre[k]? = some r → (∃ a q, atO l k = some a ∧ h[a.j]? = some (some q) ∧ matO A l a q r) ∨ (atO l k = none ∧ emptyO r) := fun k r e => by
    have := matH_get hm k r e
    rwa [Nat.zero_add] at this
  -- what 'e' is
  unfold effOf at he
  split at he
  · rename_i sets news out hs hn ho
    cases he
    obtain ⟨hnl, hng⟩ := renOs_get hn
    have hplen := setsOf_len hs
    have hnlen : news.length = al.post.length - c.pre.length := by rw [hnl]; simp
    -- the law's own view of the world
    let own' : Nat → Prop := fun b => ∃ k r, c.pre[k]? = some r ∧ r.here (atR l ρ k) ∧ (atR l ρ k).b = b
    let fz0 : Nat → Prop := fun b => fz b ∨ (A = true ∧ b < w.heap.size ∧ ¬ own' b)
    have ownK : ∀ {k : Nat} {r : SO}, c.pre[k]? = some r → r.here (atR l ρ k) → ∃ a q, atO l k = some a ∧ h[a.j]? = some (some q) ∧ q.here (ρ a.j) ∧ atR l ρ k = ρ a.j ∧ iceB r = false := fun {k r} e hh => by
      rcases get k r e with ⟨a, q, ha, hq, hmo⟩ | ⟨ha, hem⟩
      · have hb : atR l ρ k = atB ρ (some a) := by unfold atR; rw [ha]
        rw [hb] at hh
        obtain ⟨h1, h2, h3⟩ := matO_here hmo hh
        exact ⟨a, q, ha, hq, h1, hb.trans h2, h3⟩
      · have hb : atR l ρ k = ⟨0, 0, 0⟩ := by unfold atR; rw [ha]; rfl
        rw [hb] at hh
        exact absurd hh (emptyO_here hem)
    have notown : ∀ {i : Nat} {q : SO}, h[i]? = some (some q) → q.here (ρ i) → (∀ k r a, c.pre[k]? = some r → iceB r = false → atO l k = some a → a.j ≠ i) → ¬ own' (ρ i).b := fun {i q} e hh hne ⟨k, r, hr, hrh, hb⟩ => by
      obtain ⟨a, q', ha, hq', hh', heq, hi⟩ := ownK hr hrh
      rw [heq] at hb
      exact hne k r a hr hi ha (hW.inj a.j i _ _ hq' e hh' hh hb)
    have ownlt : ∀ b, own' b → b < w.heap.size ∧ ¬ fz b ∧ (C.own b ∨ C.w0.heap.size ≤ b) := fun b ⟨k, r, hr, hrh, hb⟩ => by
      obtain ⟨a, q', ha, hq', hh', heq, hi⟩ := ownK hr hrh
      rw [heq] at hb
      subst hb
      exact ⟨(hW.objs _ _ hq').lt hh', hW.frz _ _ hq' hh', hW.new _ _ hq' hh'⟩
    have hW1 : WRepF ⟨w, c.pre.length, atR l ρ, own', fz0⟩ (atR l ρ) (up c.pre) w fz0 := by
      refine ⟨fun k hk => ⟨rfl, c.pre[k], by rw [up_get]; exact List.getElem?_eq_getElem hk⟩, ?_, ?_, ?_, ?_, fun b hb => .inl hb, ?_, fun b hb => hb, fun _ _ _ => rfl, Nat.le_refl _, rfl, rfl, rfl⟩
      · intro k r hr
        rw [up_get] at hr
        rcases get k r hr with ⟨a, q, ha, hq, hmo⟩ | ⟨ha, hem⟩
        · have hb : atR l ρ k = atB ρ (some a) := by unfold atR; rw [ha]
          rw [hb]
          refine matO_rep hmo (List.all_eq_true.1 hono _ (List.mem_of_getElem? hr)) (fun b hb => .inl hb) (fun hAt hqh hice => .inr ⟨hAt, (hW.objs _ _ hq).lt hqh, ?_⟩) (hW.objs _ _ hq)
          refine notown hq hqh fun k' r' a' hr' hi' ha' hj => ?_
          have := okAll_spec hok hr' hr ha' ha hj hi'
          subst this
          rw [hr] at hr'; cases hr'
          rw [hice] at hi'; cases hi'
        · have hb : atR l ρ k = ⟨0, 0, 0⟩ := by unfold atR; rw [ha]; rfl
          rw [hb]
          exact emptyO_rep hem _ _ _ _
      · intro j k r r' hr hr' hh hh' hb
        rw [up_get] at hr hr'
        obtain ⟨a, q, ha, hq, hqh, heq, hi⟩ := ownK hr hh
        obtain ⟨a', q', ha', hq', hqh', heq', hi'⟩ := ownK hr' hh'
        rw [heq, heq'] at hb
        exact okAll_spec hok hr hr' ha ha' (hW.inj _ _ _ _ hq hq' hqh hqh' hb) hi
      · intro k r hr hh
        rw [up_get] at hr
        exact .inl ⟨k, r, hr, hh, rfl⟩
      · intro k r hr hh hz
        rw [up_get] at hr
        have hown : own' (atR l ρ k).b := ⟨k, r, hr, hh, rfl⟩
        rcases hz with hz | ⟨_, _, hz⟩
        · exact (ownlt _ hown).2.1 hz
        · exact hz hown
      · intro b hb
        rcases hb with hb | ⟨_, hb, _⟩
        · exact hW.fzlt b hb
        · exact hb
    have hAs1 : AsRep (up c.pre) (atR l ρ) c.args args.toList := onlyVs_rep hon (matVs_R hv (hAs ρ (Ag.refl _ _)))
    refine (hcl w (atR l ρ) own' fz0 args ⟨fz0, hW1⟩ hAs1).mono ?_
    rintro en w' ⟨ρ', x, rfl, hvr, fz', hW'⟩
    -- what the caller's names mean behind the call
    let ρ2 : Ren := fun i => if nm ≤ i ∧ i < nm + news.length then ρ' (c.pre.length + (i - nm)) else ρ i
    let fz2 : Nat → Prop := fun b => fz b ∨ (fz' b ∧ (own' b ∨ w.heap.size ≤ b))
    have hfin_sub : Sub h (({ out := out, sets := sets, news := news } : Eff).app nm h) := Eff.app_sub _ _ _
    have nmlt : ∀ t, t < news.length → nm + t < (setAll sets h).length := fun t ht => by rw [setAll_length]; exact given_lt (hfree t ht)
    have old : ∀ {i : Nat} {q : SO}, h[i]? = some (some q) → ρ2 i = ρ i := fun {i q} e => by
      show (if nm ≤ i ∧ i < nm + news.length then _ else _) = _
      rw [if_neg]
      rintro ⟨h1, h2⟩
      have := hfree (i - nm) (show i - nm < news.length by omega)
      rw [show nm + (i - nm) = i from by omega, e] at this
      cases this
    have hag : Ag h ρ ρ2 := fun i q e => old e
    have newN : ∀ t, t < news.length → ρ2 (nm + t) = ρ' (c.pre.length + t) := fun t ht => by
      show (if nm ≤ nm + t ∧ nm + t < nm + news.length then _ else _) = _
      rw [if_pos ⟨by omega, by omega⟩, show nm + t - nm = t from by omega]
    have hpre : ∀ k, k < c.pre.length → ρ' k = atR l ρ k := fun k hk => (hW'.pre k hk).1
    have hf : ∀ ρ'', Ag (({ out := out, sets := sets, news := news } : Eff).app nm h) ρ2 ρ'' → ∀ k b, nmOf l c.pre.length (al.post.length - c.pre.length) nm k = some b → atB ρ'' (some b) = ρ' k := fun ρ'' ha k b hb => by
      unfold nmOf at hb
      split at hb
      · rename_i hlt
        have hlt : k < c.pre.length := by simpa [Nat.blt_eq] using hlt
        rw [hpre k hlt]
        rcases get k c.pre[k] (List.getElem?_eq_getElem hlt) with ⟨a, q, ha', hq, _⟩ | ⟨ha', _⟩
        · rw [hb] at ha'; cases ha'
          obtain ⟨q', hq'⟩ := hfin_sub _ _ hq
          unfold atR
          rw [hb]
          simp only [atB, ha _ _ hq', old hq]
        · rw [hb] at ha'; cases ha'
      · rename_i hlt
        have hlt : ¬ k < c.pre.length := fun hl => by rw [← Nat.blt_eq] at hl; rw [hl] at hlt; cases hlt
        split at hb
        · rename_i hlt2
          have hlt2 : k < c.pre.length + (al.post.length - c.pre.length) := by simpa [Nat.blt_eq] using hlt2
          cases hb
          rw [whole_spec rfl]
          have ht : k - c.pre.length < news.length := by omega
          obtain ⟨q', hq'⟩ := setNew_at (l := news) (nm := nm) (h := setAll sets h) ht nmlt
          show ρ'' (nm + (k - c.pre.length)) = _
          rw [ha _ _ hq', newN _ ht, show c.pre.length + (k - c.pre.length) = k from by omega]
        · cases hb
    -- every name behind the call: one of the law's, or one that it did not touch
    have view : ∀ {i : Nat} {q : SO}, (({ out := out, sets := sets, news := news } : Eff).app nm h)[i]? = some (some q) →
        (∃ k p b, al.post[k]? = some p ∧ renO (nmOf l c.pre.length (al.post.length - c.pre.length) nm) p = some q ∧ nmOf l c.pre.length (al.post.length - c.pre.length) nm k = some b ∧ b.j = i ∧ ρ' k = ρ2 i ∧ (∀ r, c.pre[k]? = some r → iceB r = false)) ∨
        (h[i]? = some (some q) ∧ ∀ k r a, c.pre[k]? = some r → iceB r = false → atO l k = some a → a.j ≠ i) := fun {i q} e => by
      rcases setNew_inv e with ⟨t, rfl, ht⟩ | ⟨hnn, e⟩
      · obtain ⟨p, hp, hr⟩ := hng t q ht
        rw [List.getElem?_drop] at hp
        have htl : t < news.length := given_lt ht
        refine .inl ⟨c.pre.length + t, p, { j := nm + t }, hp, hr, ?_, rfl, (newN t htl).symm, fun r hr' => ?_⟩
        · have h1 : Nat.blt (c.pre.length + t) c.pre.length = false := by
            rw [Bool.eq_false_iff]
            intro h
            have : c.pre.length + t < c.pre.length := by simpa [Nat.blt_eq] using h
            omega
          have h2 : Nat.blt (c.pre.length + t) (c.pre.length + (al.post.length - c.pre.length)) = true := by rw [Nat.blt_eq]; omega
          simp only [nmOf, h1, h2, show c.pre.length + t - c.pre.length = t from by omega]
        · have := given_lt hr'; omega
      · rcases setAll_inv e with hmem | ⟨hnk, e⟩
        · obtain ⟨k, p, p', a, h1, h2, h3, h4, h5, h6⟩ := setsOf_mem hs _ hmem
          have hk := given_lt h1
          simp only [Nat.zero_add] at h4
          rcases get k p h1 with ⟨a', q', ha', hq', hmo⟩ | ⟨ha', _⟩
          · rw [h4] at ha'; cases ha'
            dsimp only at h5
            have hw := matO_whole hmo h3 ρ
            refine .inl ⟨k, p', a, h2, h6, ?_, h5, ?_, fun r hr => by rw [h1] at hr; cases hr; exact h3⟩
            · have h1 : Nat.blt k c.pre.length = true := by rw [Nat.blt_eq]; exact hk
              simp only [nmOf, h1, h4]
            · rw [hpre k hk, ← h5, old hq', ← hw]; unfold atR; rw [h4]
          · rw [h4] at ha'; cases ha'
        · refine .inr ⟨e, fun k r a hr hi ha hj => ?_⟩
          obtain ⟨q', hq'⟩ := setsOf_key hs k r a hr hi (by simpa using ha)
          exact hnk _ hq' hj
    -- where the blocks are
    have keep : ∀ b, b < w.heap.size → ¬ own' b → w'.heap[b]? = w.heap[b]? := hW'.block
    have lawB : ∀ {k : Nat} {p : SO}, al.post[k]? = some p → p.here (ρ' k) → own' (ρ' k).b ∨ w.heap.size ≤ (ρ' k).b := fun {k p} e hh => hW'.new k p (up_get.2 e) hh
    have fzk : ∀ b, fz b → w'.heap[b]? = w.heap[b]? := fun b hb => keep b (hW.fzlt b hb) fun ho => (ownlt b ho).2.1 hb
    refine ⟨ρ2, x, rfl, hag, fun ρ'' ha => renV_R (hf ρ'' ha) ho hvr.here, fz2, ?_⟩
    refine ⟨fun k hk => ?_, ?_, ?_, ?_, ?_, ?_, ?_, fun b hb => .inl (hW.fzold b hb), ?_, Nat.le_trans hW.size hW'.size, hW'.os.trans hW.os, hW'.tape.trans hW.tape, hW'.output.trans hW.output⟩
    · obtain ⟨h1, q, hq⟩ := hW.pre k hk
      exact ⟨(old hq).trans h1, hfin_sub _ _ hq⟩
    · intro i q e
      rcases view e with ⟨k, p, b, hp, hr, hb, hbi, hk, hi⟩ | ⟨e, hne⟩
      · rw [← hk]
        refine renO_rep hr hf ?_ (hW'.objs k p (up_get.2 hp))
        cases hAv : A with
        | true => exact .inr (hA hAv k p hp hi)
        | false =>
          refine .inl fun b hb => ?_
          rcases hW'.fznew b hb with h1 | h1 | h1
          · rcases h1 with h1 | ⟨h1, _⟩
            · exact .inl h1
            · rw [hAv] at h1; cases h1
          · exact .inr ⟨hb, .inl h1⟩
          · exact .inr ⟨hb, .inr h1⟩
      · rw [old e]
        exact (hW.objs i q e).later hfin_sub hag (fun _ h => .inl h) fzk fun hh => keep _ ((hW.objs i q e).lt hh) (notown e hh hne)
    · intro i j q q' e e' hh hh' hb
      rcases view e with ⟨k, p, b, hp, hr, hnb, hbi, hk, hi⟩ | ⟨e, hne⟩ <;> rcases view e' with ⟨k', p', b', hp', hr', hnb', hbi', hk', hi'⟩ | ⟨e', hne'⟩
      · rw [← hk] at hh hb
        rw [← hk'] at hh' hb
        have := hW'.inj k k' p p' (up_get.2 hp) (up_get.2 hp') ((renO_here hr _).1 hh) ((renO_here hr' _).1 hh') hb
        subst this
        rw [hnb] at hnb'; cases hnb'
        rw [← hbi, hbi']
      · rw [old e'] at hh' hb
        rw [← hk] at hh hb
        exfalso
        rcases lawB hp ((renO_here hr _).1 hh) with h1 | h1
        · rw [hb] at h1; exact notown e' hh' hne' h1
        · rw [hb] at h1; have := (hW.objs _ _ e').lt hh'; omega
      · rw [old e] at hh hb
        rw [← hk'] at hh' hb
        exfalso
        rcases lawB hp' ((renO_here hr' _).1 hh') with h1 | h1
        · rw [← hb] at h1; exact notown e hh hne h1
        · rw [← hb] at h1; have := (hW.objs _ _ e).lt hh; omega
      · rw [old e] at hh hb
        rw [old e'] at hh' hb
        exact hW.inj _ _ _ _ e e' hh hh' hb
    · intro i q e hh
      rcases view e with ⟨k, p, b, hp, hr, hnb, hbi, hk, hi⟩ | ⟨e, hne⟩
      · rw [← hk] at hh ⊢
        rcases lawB hp ((renO_here hr _).1 hh) with h1 | h1
        · exact (ownlt _ h1).2.2
        · exact .inr (Nat.le_trans hW.size h1)
      · rw [old e] at hh ⊢
        exact hW.new _ _ e hh
    · intro i q e hh hz
      rcases view e with ⟨k, p, b, hp, hr, hnb, hbi, hk, hi⟩ | ⟨e, hne⟩
      · rw [← hk] at hh hz
        rcases hz with hz | ⟨hz, _⟩
        · rcases lawB hp ((renO_here hr _).1 hh) with h1 | h1
          · exact (ownlt _ h1).2.1 hz
          · have := hW.fzlt _ hz; omega
        · exact hW'.frz k p (up_get.2 hp) ((renO_here hr _).1 hh) hz
      · rw [old e] at hh hz
        rcases hz with hz | ⟨_, hz | hz⟩
        · exact hW.frz _ _ e hh hz
        · exact notown e hh hne hz
        · have := (hW.objs _ _ e).lt hh; omega
    · rintro b (hb | ⟨_, hb | hb⟩)
      · exact hW.fznew b hb
      · rcases (ownlt b hb).2.2 with h1 | h1
        · exact .inr (.inl h1)
        · exact .inr (.inr h1)
      · exact .inr (.inr (Nat.le_trans hW.size hb))
    · rintro b (hb | ⟨hb, _⟩)
      · exact Nat.lt_of_lt_of_le (hW.fzlt b hb) hW'.size
      · exact hW'.fzlt b hb
    · intro b hb hno
      refine (keep b (Nat.lt_of_lt_of_le hb hW.size) fun ho => ?_).trans (hW.block b hb hno)
      rcases (ownlt b ho).2.2 with h1 | h1
      · exact hno h1
      · omega
  · cases he
end

/-- A family of laws of one function. -/
structure CLaw (P : Program) where
  g : FuncId
  Q : Type
  find : SHeap → List SV → Option (Q × Ats)
  A : Bool := true
  can : Q → Pat
  alts : Q → List Alt
  dom : Q → Prop := fun _ => True
  plain : A = true → ∀ q, dom q → ∀ a ∈ alts q, a.cond → Plains (can q) a
  ex : ∀ q, dom q → ∃ a ∈ alts q, a.cond
  ok : ∀ q, dom q → ∀ a ∈ alts q, a.cond → LawOk P g (can q) a
def altsK (l : Ats) (nm : Nat) (c : Pat) (K : Eff → Prop) : List Alt → Prop
  | [] => True
  | a :: r => (a.cond → match effOf l nm c a with | some e => K e | none => False) ∧ altsK l nm c K r
theorem altsK_mem {l : Ats} {nm : Nat} {c : Pat} {K : Eff → Prop} : ∀ {as : List Alt}, altsK l nm c K as → ∀ a ∈ as, a.cond → ∃ e, effOf l nm c a = some e ∧ K e
  | [], _, a, ha, _ => by simp at ha
  | b :: r, h, a, ha, hc => by
    rcases List.mem_cons.1 ha with rfl | ha
    · have := h.1 hc
      split at this
      · rename_i e he; exact ⟨e, he, this⟩
      · exact this.elim
    · exact altsK_mem h.2 a ha hc
def CLaw.law {P : Program} (S : CLaw P) : Law P where
  g := S.g
  eff := fun h nm as K =>
    match S.find h as with
    | some (q, l) => S.dom q ∧ matVs l as (S.can q).args ∧ matH S.A l h 0 (S.can q).pre ∧ Ck (okAll l (S.can q).pre && onlyVs (up (S.can q).pre) (S.can q).args && (S.can q).pre.all (onlyO (up (S.can q).pre))) (altsK l nm (S.can q) (K (lookT l h 0 (S.can q).pre)) (S.alts q))
    | none => False
  ok := fun {C h nm as K} he => by
    split at he
    · rename_i q l hq
      obtain ⟨hd, hv, hm, he⟩ := he
      obtain ⟨hck, he⟩ := he.out
      simp only [Bool.and_eq_true] at hck
      obtain ⟨⟨h1, h2⟩, h3⟩ := hck
      obtain ⟨a, ha, hc⟩ := S.ex q hd
      obtain ⟨e, hee, hk⟩ := altsK_mem he a ha hc
      exact ⟨_, e, lookT_ok, lift (S.ok q hd a ha hc) hm hv h1 h2 h3 (fun hA => S.plain hA q hd a ha hc) hee, hk⟩
    · exact he.elim

/-- A claim as a run. -/
def canJob {P : Program} (c : Pat) (a : Alt) (laws : List (Law P)) (L : Bool) (cuts : List CutAt) (nms : SHeap → SV → Nms) (f : FuncId) (w : World) (ρ0 : Ren) (own fz0 : Nat → Prop) : Job P where
  C := ⟨w, c.pre.length, ρ0, own, fz0⟩
  f := f
  laws := laws
  L := L
  cuts := cuts
  R := fun e w' => ∃ ρ' x, e = .returned x ∧ VRep (up a.post) ρ' a.out x ∧ WRep ⟨w, c.pre.length, ρ0, own, fz0⟩ ρ' (up a.post) w'
  fin := fun h v => CoverH c.pre.length (nms h v) h (up a.post) ∧ Ck (onlyV (up a.post) a.out) (sameV (nms h v) v a.out)
  hfin := fun h v hf ρ w' x hW hv => by
    obtain ⟨h1, h2⟩ := hf
    obtain ⟨h3, h4⟩ := h2.out
    obtain ⟨fz, hW⟩ := hW
    exact ⟨reN (nms h v) ρ, x, rfl, onlyV_rep h3 (sameV_R h4 hv.here), fz, coverH_rep h1 hW⟩
/-- Names in their order. -/
def nms0 (_ : SHeap) (_ : SV) : Nms := []
theorem claim_run {P : Program} {c : Pat} {a : Alt} {f : FuncId} {fn : Func} {laws : List (Law P)} {L : Bool} {cuts : List CutAt} {nms : SHeap → SV → Nms} (hcb : callable P f = some fn)
    (h : ∀ w ρ0 own fz0, Run P (canJob (P := P) c a laws L cuts nms f w ρ0 own fz0).C f (canJob (P := P) c a laws L cuts nms f w ρ0 own fz0).R ⟨[enterS f fn c.args], up c.pre⟩) : LawOk P f c a := fun w ρ0 own fz0 _ hW hA =>
  calls_of_run hcb hW hA (h w ρ0 own fz0)

/-! ### functions that only look, and answer a value of no name -/
def valJob {P : Program} (c : Pat) (A : Value → Prop) (laws : List (Law P)) (L : Bool) (cuts : List CutAt) (f : FuncId) (w : World) (ρ0 : Ren) (own fz0 : Nat → Prop) : Job P where
  C := ⟨w, c.pre.length, ρ0, own, fz0⟩
  f := f
  laws := laws
  L := L
  cuts := cuts
  R := fun e w' => ∃ ρ' x, e = .returned x ∧ A x ∧ WRep ⟨w, c.pre.length, ρ0, own, fz0⟩ ρ' (up c.pre) w'
  fin := fun h v => CoverH c.pre.length [] h (up c.pre) ∧ match v.val with | some x => A x | none => False
  hfin := fun h v hf ρ w' x hW hv => by
    obtain ⟨h1, h2⟩ := hf
    obtain ⟨fz, hW⟩ := hW
    split at h2
    · rename_i y hy
      have := val_eq hy hv.here
      subst this
      exact ⟨reN [] ρ, _, rfl, h2, fz, coverH_rep h1 hW⟩
    · exact h2.elim
theorem val_run {P : Program} {c : Pat} {y : Value} {f : FuncId} {fn : Func} {laws : List (Law P)} {L : Bool} {cuts : List CutAt} (hcb : callable P f = some fn)
    (h : ∀ w ρ0 own fz0, Run P (valJob (P := P) c (fun x => x = y) laws L cuts f w ρ0 own fz0).C f (valJob (P := P) c (fun x => x = y) laws L cuts f w ρ0 own fz0).R ⟨[enterS f fn c.args], up c.pre⟩) : LawOk P f c { post := c.pre, out := litV y } := fun w ρ0 own fz0 _ hW hA =>
  (calls_of_run hcb hW hA (h w ρ0 own fz0)).mono fun e w' ⟨ρ', x, he, hx, hW'⟩ => ⟨ρ', x, he, by subst hx; exact fun ρ2 _ => litV_R ρ2 _, hW'⟩
def valLaw {P : Program} (g : FuncId) (Q : Type) (find : SHeap → List SV → Option (Q × Ats)) (can : Q → Pat) (out : Q → Value) (dom : Q → Prop) (ice : ∀ q, (can q).pre.all iceB = true)
    (ok : ∀ q, dom q → LawOk P g (can q) { post := (can q).pre, out := litV (out q) }) : CLaw P where
  g := g
  Q := Q
  find := find
  can := can
  alts := fun q => [{ post := (can q).pre, out := litV (out q) }]
  dom := dom
  plain := fun _ q _ a ha _ k p hp hi => by
    simp at ha; subst ha
    have := hi p hp
    rw [List.all_eq_true.1 (ice q) p (List.mem_of_getElem? hp)] at this
    cases this
  ex := fun q _ => ⟨_, List.mem_singleton.2 rfl, trivial⟩
  ok := fun q hd a ha _ => by simp at ha; subst ha; exact ok q hd
/-- What lies behind a slice. -/
def seenD (h : SHeap) (c : SC) : Nat × List D :=
  match c with
  | .s k _ n _ => (n, match h[k]? with | some (some (.ice xs)) => xs | some (some (.row xs _ _)) => xs | some (some (.cells cs _ _)) => (match lits cs with | some l => l.map .v | none => []) | _ => [])
  | _ => (0, [])
def cellN (v : SV) (i : Nat) : Option Nat := match v with | .a cs => (match cs[i]? with | some (.s k _ _ _) => some k | _ => none) | _ => none
/-- A cell by a law's own name. -/
def canC (i : Nat) : SC → SC
  | .s _ _ n _ => .s i 0 n (.hid 0)
  | .p _ _ => .p i 0
  | c => c
def atC : SC → Option At
  | .s k off _ c => some { j := k, off := off, cap := c }
  | .p k off => some { j := k, off := off }
  | _ => none
end Go.Sy
