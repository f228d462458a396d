/- A region that draws its order and ends in stores that come last: what comes ahead of them in whatever order, under one condition on the world; then the stores. No program in sight. -/
import Derived.Test.YtfhapbggngdckaaGreatMem
import Derived.StillTail
import Derived.Deep.RegionHeld3
namespace Go.Proofs.YtfhapbggngdckaaGreat
set_option linter.unusedSimpArgs false
set_option linter.unusedVariables false
section
variable {P : Program} {ops : Array Oper} {Q : Exit → Act → World → Prop} {md : Region.Mode} {S : World → Prop} {n : Nat} {L : Array Bool → Act → World → Prop}
/-- The operations ahead of the tail, in whatever order; S holds behind each. -/
def wpPre (P : Program) (md : Region.Mode) (ops : Array Oper) (Q : Exit → Act → World → Prop) (S : World → Prop) (n : Nat) (L : Array Bool → Act → World → Prop) : Nat → Array Bool → Act → World → Prop
  | 0, listed, a, w => L listed a w
  | f + 1, listed, a, w => Region.ready md ops listed ≠ [] ∧ ∀ i ∈ Region.ready md ops listed, i < n ∧ wpOp P ops Q i (fun a' w' => S w' ∧ wpPre P md ops Q S n L f (listed.setIfInBounds i true) a' w') a w
theorem wpAny_of_pre {g : Nat} (hL : ∀ listed a w, L listed a w → wpAny P md ops Q g listed a w) : ∀ (f : Nat) (listed : Array Bool) (a : Act) (w : World), wpPre P md ops Q S n L f listed a w → wpAny P md ops Q (f + g) listed a w
  | 0, listed, a, w, h => by rw [Nat.zero_add]; exact hL _ _ _ h
  | f + 1, listed, a, w, h => by
    rw [show f + 1 + g = (f + g) + 1 by omega]
    exact ⟨fun h0 => absurd h0 h.1, fun i hi => wpOp_mono (fun a' w' h' => wpAny_of_pre hL f _ a' w' h'.2) (h.2 i hi).2⟩
theorem wpPre_first {i : Nat} {oi : Oper} {v : Value} (hi : ops[i]? = some oi) (hsel : ∀ (j : Nat) (o : Oper) cs b, ops[j]? = some o → o.op ≠ .select cs b) (hQ : ∀ c a w, Q (.panic c) (a.put oi.dst v) w → Q (.panic c) a w)
    (hs : Region.sinkB md ops n = true) (hc : Region.chainB md ops n = true) (hn : n < ops.size) (hin : i < n) (hdone : ∀ listed a w, L listed a w → ∀ j ∈ Region.ready md ops listed, n ≤ j) :
    ∀ (f : Nat) (listed : Array Bool) (a : Act) (w : World), HeadInv md ops n listed →
      (∀ j oj, ops[j]? = some oj → j ≠ i → listed.getD j true = false → (∀ e ∈ oj.after, Region.binds md e = true → e.on ≠ i) → oi.apart ops oj = true) →
      i ∈ Region.ready md ops listed → YieldsIf P ops S oi v a → S w →
      wpPre P md ops Q S n L f (listed.setIfInBounds i true) (a.put oi.dst v) w → wpPre P md ops Q S n L (f + 1) listed a w := by
  intro f
  induction f with
  | zero =>
    intro listed a w inv _ hr hy hS H
    have hun := (mem_ready.1 hr).1
    refine ⟨fun h => (by rw [h] at hr; cases hr), fun j hj => ?_⟩
    have hjn : j < n := by
      rcases Nat.lt_or_ge j n with h | h
      · exact h
      · exact absurd hj (tail_waits hs hc hn inv _ i rfl hin hun j h)
    refine ⟨hjn, ?_⟩
    by_cases hji : j = i
    · subst hji; exact hy.wpOp hi hS ⟨hS, H⟩
    · have := hdone _ _ _ H j (ready_mono hj hji)
      omega
  | succ f ih =>
    intro listed a w inv hfree hr hy hS H
    have hun := (mem_ready.1 hr).1
    refine ⟨fun h => (by rw [h] at hr; cases hr), fun j hj => ?_⟩
    have hjn : j < n := by
      rcases Nat.lt_or_ge j n with h | h
      · exact h
      · exact absurd hj (tail_waits hs hc hn inv _ i rfl hin hun j h)
    refine ⟨hjn, ?_⟩
    by_cases hji : j = i
    · subst hji; exact hy.wpOp hi hS ⟨hS, H⟩
    · have h1 := (H.2 j (ready_mono hj hji)).2
      obtain ⟨hjun, oj, hoj, hall⟩ := mem_ready.1 hj
      have hnot : ∀ e ∈ oj.after, Region.binds md e = true → e.on ≠ i := fun e he hb heq => by
        have h1 := hall e he hb
        rw [heq, getD_both hun] at h1
        cases h1
      have h2 := wpOp_putIf hoj (hfree j oj hoj hji hjun hnot) (fun cs b => hsel i oi cs b hi) (fun cs b => hsel j oj cs b hoj) hQ hy h1
      have hfree' : ∀ k ok, ops[k]? = some ok → k ≠ i → (listed.setIfInBounds j true).getD k true = false →
          (∀ e ∈ ok.after, Region.binds md e = true → e.on ≠ i) → oi.apart ops ok = true := fun k ok hk hki hun hno => by
        refine hfree k ok hk hki ?_ hno
        by_cases hjk : j = k
        · subst hjk; exact hjun
        · rw [getD_set_ne true hjk] at hun; exact hun
      refine wpOp_mono (fun a' w' h3 => ⟨h3.2.1, ih (listed.setIfInBounds j true) a' w' (inv.set hj hjn) hfree' (ready_mono hr (Ne.symm hji)) h3.1 h3.2.1 ?_⟩) h2
      rw [Array.setIfInBounds_comm _ _ hji]
      exact h3.2.2
/-- The tail's operations, forced, one behind the other. -/
def TailL (P : Program) (md : Region.Mode) (ops : Array Oper) (Q : Exit → Act → World → Prop) (n g : Nat) (rest : List Oper) : Array Bool → Act → World → Prop :=
  fun listed a w => Region.seqB md ops g n listed = true ∧ wpList P ops Q rest a w
/-- The state of the walk: what has come up. -/
structure PreAt (P : Program) (ops : Array Oper) (Q : Exit → Act → World → Prop) (S : World → Prop) (n g : Nat) (rest : List Oper) (f : Nat) (listed : Array Bool) (a : Act) (w : World) : Prop where
  it : HeadInv .any ops n listed → wpPre P .any ops Q S n (TailL P .any ops Q n g rest) f listed a w
def preB (ops : Array Oper) (n : Nat) : Bool := Region.noSelect ops && decide (n < ops.size) && Region.sinkB .any ops n && Region.chainB .any ops n
theorem pre_take {g f : Nat} {rest : List Oper} {listed : Array Bool} {a : Act} {w : World} (i : Nat) (oi : Oper) {v : Value} (hi : ops[i]? = some oi) (hp : preB ops n = true) (hf : (Region.free .any ops listed i && (Region.ready .any ops listed).contains i && decide (i < n)) = true)
    (hQ : ∀ c a w, Q (.panic c) (a.put oi.dst v) w → Q (.panic c) a w) (hw : Region.wanted oi (yielded ops a.tmps) = true) (hy : ∀ w, S w → (execOp a.eval oi).run P w = .ok (.value v) w) (hS : S w)
    (h : PreAt P ops Q S n g rest f (listed.setIfInBounds i true) (a.put oi.dst v) w) : PreAt P ops Q S n g rest (f + 1) listed a w := by
  simp only [preB, Bool.and_eq_true, decide_eq_true_eq] at hp hf
  obtain ⟨⟨⟨h1, h2⟩, h3⟩, h4⟩ := hp
  obtain ⟨⟨f1, f2⟩, f3⟩ := hf
  have hr : i ∈ Region.ready .any ops listed := by simpa using f2
  refine ⟨fun inv => wpPre_first hi (Region.noSelect_spec h1) hQ h3 h4 h2 f3 (fun listed' a' w' hL => seqB_ready hL.1) f listed a w inv (Region.free_spec hi f1) hr (Or.inl ⟨hw, hy⟩) hS (h.it (inv.set hr f3))⟩
/-- The same, the operation read off the region. -/
theorem pre_take_at {g f : Nat} {rest : List Oper} {listed : Array Bool} {a : Act} {w : World} (i : Nat) {v : Value} (hl : decide (i < ops.size) = true) (hp : preB ops n = true) (hf : (Region.free .any ops listed i && (Region.ready .any ops listed).contains i && decide (i < n)) = true)
    (hQ : ∀ c a w d, Q (.panic c) (a.put d v) w → Q (.panic c) a w) (hw : Region.wanted (ops[i]'(of_decide_eq_true hl)) (yielded ops a.tmps) = true) (hS : S w) (hy : ∀ w, S w → (execOp a.eval (ops[i]'(of_decide_eq_true hl))).run P w = .ok (.value v) w)
    (h : PreAt P ops Q S n g rest f (listed.setIfInBounds i true) (a.put (ops[i]'(of_decide_eq_true hl)).dst v) w) : PreAt P ops Q S n g rest (f + 1) listed a w :=
  pre_take i _ (Array.getElem?_eq_getElem (of_decide_eq_true hl)) hp hf (fun c a w => hQ c a w _) hw hy hS h
/-- Whichever of those that may come up comes up. -/
def PreAll (P : Program) (ops : Array Oper) (Q : Exit → Act → World → Prop) (S : World → Prop) (n g : Nat) (rest : List Oper) (f : Nat) (listed : Array Bool) (a : Act) (w : World) (rs : List Nat) : Prop :=
  ∀ i ∈ rs, ∀ K' : Act → World → Prop, (∀ a w, S w → PreAt P ops Q S n g rest f (listed.setIfInBounds i true) a w → K' a w) → wpOp P ops Q i K' a w
theorem PreAll.nil {g f : Nat} {rest : List Oper} {listed : Array Bool} {a : Act} {w : World} : PreAll P ops Q S n g rest f listed a w [] := fun _ h => by cases h
theorem PreAll.cons {g f : Nat} {rest : List Oper} {listed : Array Bool} {a : Act} {w : World} {rs : List Nat} (i : Nat) (oi : Oper) (hi : ops[i]? = some oi)
    (h : ∀ K' : Act → World → Prop, Shut (∀ a w, S w → PreAt P ops Q S n g rest f (listed.setIfInBounds i true) a w → K' a w) → if Region.wanted oi (yielded ops a.tmps) = true then Oper.wp P oi a w K' Q else K' (a.put oi.dst undef) w)
    (hs : PreAll P ops Q S n g rest f listed a w rs) : PreAll P ops Q S n g rest f listed a w (i :: rs) := fun j hj => by
  rcases List.mem_cons.1 hj with rfl | hj
  · intro K' hK
    unfold wpOp
    simp only [hi]
    have := h K' hK
    split
    · rename_i hw; rw [if_pos hw] at this; exact .inl this
    · rename_i hw; rw [if_neg hw] at this; exact this
  · exact hs j hj
theorem pre_ready {g f : Nat} {rest : List Oper} {listed : Array Bool} {a : Act} {w : World} (rs : List Nat) (hr : (decide (Region.ready .any ops listed = rs) && rs.all (fun i => decide (i < n))) = true) (hne : rs ≠ [])
    (h : PreAll P ops Q S n g rest f listed a w rs) : PreAt P ops Q S n g rest (f + 1) listed a w := by
  simp only [Bool.and_eq_true, decide_eq_true_eq, List.all_eq_true] at hr
  obtain ⟨hr, hlt⟩ := hr
  refine ⟨fun inv => ⟨fun h0 => hne (hr ▸ h0), fun i hi => ?_⟩⟩
  have hi' : i ∈ rs := hr ▸ hi
  exact ⟨hlt i hi', h i hi' _ (fun a' w' hS hP => ⟨hS, hP.it (inv.set hi (hlt i hi'))⟩)⟩
theorem PreAll.at {g f : Nat} {rest : List Oper} {listed : Array Bool} {a : Act} {w : World} {rs : List Nat} (i : Nat) (hl : decide (i < ops.size) = true)
    (h : ∀ K' : Act → World → Prop, Shut (∀ a w, S w → PreAt P ops Q S n g rest f (listed.setIfInBounds i true) a w → K' a w) → if Region.wanted (ops[i]'(of_decide_eq_true hl)) (yielded ops a.tmps) = true then Oper.wp P (ops[i]'(of_decide_eq_true hl)) a w K' Q else K' (a.put (ops[i]'(of_decide_eq_true hl)).dst undef) w)
    (hs : PreAll P ops Q S n g rest f listed a w rs) : PreAll P ops Q S n g rest f listed a w (i :: rs) :=
  PreAll.cons i _ (Array.getElem?_eq_getElem (of_decide_eq_true hl)) h hs
/-- All ahead of the tail have come up. -/
theorem pre_done {g : Nat} {rest : List Oper} {listed : Array Bool} {a : Act} {w : World} (hr : Region.seqB .any ops g n listed = true) (h : wpList P ops Q rest a w) : PreAt P ops Q S n g rest 0 listed a w := ⟨fun _ => ⟨hr, h⟩⟩
/-- THE BEGINNING. -/
theorem wp_region_pre {id : Nat} {a : Act} {w : World} {l : List Oper} (n : Nat) (S : World → Prop) (hm : P.follows .mixedOrders = true) (hp : preB l.toArray n = true) (hS : S w.drew)
    (h : PreAt P l.toArray (NoPanic Q) S n (l.length - n) (l.drop n) n (Array.replicate l.length false) a w.drew) : (Code.region id l.toArray true).wp P Q a w := by
  refine wp_region_noPanic ?_
  have hp' := hp
  simp only [preB, Bool.and_eq_true, decide_eq_true_eq] at hp'
  obtain ⟨⟨⟨h1, h2⟩, h3⟩, h4⟩ := hp'
  have hn' : n < l.length := by simpa using h2
  have inv0 : HeadInv .any l.toArray n (Array.replicate l.length false) :=
    ⟨by simp, fun j oj _ hl => (by rw [getD_replicate_false] at hl; cases hl), fun t _ ht => getD_in (by simpa using ht) (getD_replicate_false _ _)⟩
  have hdl : (l.drop n).length = l.length - n := by simp
  refine wp_region_any hm ?_
  have := wpAny_of_pre (Q := NoPanic Q) (g := l.length - n) (fun listed a' w' hL => by
    have := wpAny_of_seq (md := .any) (Q' := NoPanic Q) (l.drop n) n listed a' w' (fun j => by simp [List.getElem?_drop]) (by rw [hdl]; exact hL.1) hL.2
    rwa [hdl] at this) n _ a w.drew (h.it inv0)
  rw [show n + (l.length - n) = l.toArray.size by simp; omega] at this
  simpa using this
end
end Go.Proofs.YtfhapbggngdckaaGreat
