/- Few, to its end: its laws. -/
import Derived.Test.YtoeeilbpgckhlaaBl3
import Derived.Test.YtoeeilbpgckhlaaSy22
import Derived.KernelRfl
namespace Go.Proofs.Ytoeeilbpgckhlaa
open Go.RowKit Go.Sy
theorem wrap_nat {i : Nat} (h : i < 4611686018427387904) : IntKind.i64.wrap ((i : Int) + 1) = ((i + 1 : Nat) : Int) := by rw [IntKind.wrap_i64]; omega
def strAt (xs : List D) (j : Nat) : ByteArray := match xs[j]? with | some (.v (.string s)) => s | _ => ⟨#[]⟩
/-- All texts. -/
def Strs (xs : List D) : Prop := ∀ q, q < xs.length → xs[q]? = some (.v (.string (strAt xs q))) ∧ (strAt xs q).size ≤ maxLen
theorem strs_of {k : Nat} {es : List Sh} {xs : List D} (hk : es.length = k + 1) (he : ∀ j, j < k + 1 → es[j]? = some .str) (h : ∀ (q : Nat) (e : Sh) (d : D), es[q % es.length]? = some e → xs[q]? = some d → WfD e d) : Strs xs := fun q hq => by
  have hm : q % es.length < k + 1 := by rw [hk]; exact Nat.mod_lt _ (by omega)
  obtain ⟨s, hs, hl⟩ := (h q .str xs[q] (he _ hm) (List.getElem?_eq_getElem hq)).str_inv
  have : xs[q]? = some (.v (.string s)) := by rw [List.getElem?_eq_getElem hq, hs]
  simp [strAt, this, hl]
def few5F (xs : List D) : Nat → Nat → Bool
  | 0, _ => true
  | m + 1, i => if (strAt xs (i * 3)).size ≤ 100 ∧ (strAt xs (i * 3 + 1)).size ≤ 10 ∧ (strAt xs (i * 3 + 2)).size ≤ 200 then few5F xs m (i + 1) else false
def few5B (n : Nat) (xs : List D) : Bool := if n ≤ 12 then few5F xs n 0 else false
theorem few5_run (n : Nat) (xs : List D) (hs : Strs xs) (hl : xs.length = n * 3) (hn : n ≤ 12) (b : Bool) (w : World) (ρ0 : Ren) (own fz0 : Nat → Prop) : ∀ (m i : Nat), n = i + m → b = few5F xs m i →
    Run Try.prog (J67 n xs b w ρ0 own fz0).C 67 (J67 n xs b w ρ0 own fz0).R (few5At n xs i)
  | 0, i, hm, hb => by
    refine few5_body n xs b i w ρ0 own fz0 ⟨fun h => ?_, fun _ => ⟨⟨rfl, trivial⟩, hb.symm⟩⟩
    simp at h; omega
  | m + 1, i, hm, hb => by
    have e0 := (hs (i * 3) (by omega)).1
    have e1 := (hs (i * 3 + 1) (by omega)).1
    have e2 := (hs (i * 3 + 2) (by omega)).1
    unfold few5F at hb
    have hi : (0 : Int) ≤ (i : Int) ∧ (i : Int) < (n : Int) := by omega
    refine few5_body n xs b i w ρ0 own fz0 ⟨fun _ => ⟨hi, _, by simpa using e0, fun h0 => ⟨hi, _, by simpa using e1, fun h1 => ⟨hi, _, by simpa using e2, fun h2 => ⟨⟨rfl, trivial⟩, ?_⟩, fun h2 => ⟨⟨by simp, by simp⟩, ?_⟩⟩, fun h1 => ⟨⟨rfl, trivial⟩, ?_⟩⟩, fun h0 => ⟨⟨rfl, trivial⟩, ?_⟩⟩, fun h => ?_⟩
    · simp at h2; rw [hb, if_neg (by omega)]
    · rw [wrap_nat (by omega)]
      refine few5_run n xs hs hl hn b w ρ0 own fz0 m (i + 1) (by omega) ?_
      simp at h0 h1 h2
      rw [hb, if_pos (by omega)]
    · simp at h1; rw [hb, if_neg (by omega)]
    · simp at h0; rw [hb, if_neg (by omega)]
    · simp at h; omega
theorem few5_claim (n : Nat) (xs : List D) (hs : Strs xs) (hl : xs.length = n * 3) : LawOk Try.prog 67 (slC n xs) (slA xs (vB (few5B n xs))) := by
  refine claim_run cb67 fun w ρ0 own fz0 => few5_in n xs (few5B n xs) w ρ0 own fz0 ⟨fun h => ?_, fun h => ⟨by simp, ?_⟩⟩
  · simp at h
    exact ⟨⟨rfl, trivial⟩, by simp [few5B]; omega⟩
  · simp at h
    have h : n ≤ 12 := by omega
    exact few5_run n xs hs hl h _ w ρ0 own fz0 n 0 (by omega) (by simp [few5B, h])
/-- A row that is looked at. -/
def seenOf (es : Nat) (h : SHeap) : List SV → Option ((Nat × List D) × Ats)
  | [.c (.s k off n c)] => match h[k]? with | some (some (.ice xs)) => some ((n, xs), [some { j := k, off := off, cap := c }]) | some (some (.row xs _ _)) => some ((n, xs), [some { j := k, off := off, cap := c }]) | some (some (.cells cs _ _)) => (match lits cs with | some l => some ((n, l.map .v), [some { j := k, off := off, cap := c, len := some (n * es) }]) | none => none) | _ => none
  | [.c (.v (.slice none 0 0))] => some ((0, []), [none])
  | _ => none
def few5Law : CLaw Try.prog where
  g := 67
  Q := Nat × List D
  find := seenOf 3
  can := fun q => slC q.1 q.2
  alts := fun q => [slA q.2 (vB (few5B q.1 q.2))]
  dom := fun q => Strs q.2 ∧ q.2.length = q.1 * 3
  plain := fun _ q _ a ha _ k p hp hi => by
    simp at ha; subst ha
    cases k with
    | zero => have := hi (.ice q.2) rfl; simp [iceB] at this
    | succ k => simp at hp
  ex := fun q _ => ⟨_, List.mem_singleton.2 rfl, trivial⟩
  ok := fun q hd a ha _ => by simp at ha; subst ha; exact few5_claim q.1 q.2 hd.1 hd.2
end Go.Proofs.Ytoeeilbpgckhlaa
