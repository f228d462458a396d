/- Which pages a change takes and lets go; entries put in and taken out. Plain. -/
import Derived.Test.YtfhapbggngdckaaGreatRep
import Derived.Test.YtfhapbggngdckaaGreatPagesB
namespace Go.Proofs.YtfhapbggngdckaaGreat
set_option linter.unusedSimpArgs false
set_option linter.unusedVariables false
structure Has (st : List Int) (ps : List Nat) : Prop where
  nd : ps.Nodup
  use : ∀ q ∈ ps, st[q]? = some 2
structure Mv (st : List Int) (img : Nat → Byt) (ps : List Nat) (st' : List Int) (img' : Nat → Byt) (ps' : List Nat) : Prop where
  len : st'.length = st.length
  nd : ps'.Nodup
  use : ∀ q ∈ ps', st'[q]? = some 2
  new : ∀ q ∈ ps', q ∉ ps → st[q]? = some 0
  gone : ∀ q ∈ ps, q ∉ ps' → st'[q]? = some 0
  same : ∀ q, q ∉ ps → q ∉ ps' → st'[q]? = st[q]?
  pic : ∀ q, q ∉ ps → st[q]? = some 2 → img' q = img q
section
variable {st st1 st2 : List Int} {img img1 img2 : Nat → Byt} {ps ps1 ps2 A B : List Nat} {p : Nat}
theorem Mv.refl (img : Nat → Byt) (h : Has st ps) : Mv st img ps st img ps := ⟨rfl, h.nd, h.use, fun q h1 h2 => absurd h1 h2, fun q h1 h2 => absurd h1 h2, fun _ _ _ => rfl, fun _ _ _ => rfl⟩
theorem Mv.has (h : Mv st img ps st1 img1 ps1) : Has st1 ps1 := ⟨h.nd, h.use⟩
theorem Mv.trans (h : Mv st img ps st1 img1 ps1) (k : Mv st1 img1 ps1 st2 img2 ps2) : Mv st img ps st2 img2 ps2 := by
  refine ⟨k.len.trans h.len, k.nd, k.use, fun q hq hn => ?_, fun q hq hn => ?_, fun q hn hn2 => ?_, fun q hn hs => ?_⟩
  · by_cases h1 : q ∈ ps1
    · exact h.new q h1 hn
    · rw [← h.same q hn h1]; exact k.new q hq h1
  · by_cases h1 : q ∈ ps1
    · exact k.gone q h1 hn
    · rw [k.same q h1 hn]; exact h.gone q hq h1
  · by_cases h1 : q ∈ ps1
    · rw [k.gone q h1 hn2, h.new q h1 hn]
    · rw [k.same q h1 hn2, h.same q hn h1]
  · have h1 : q ∉ ps1 := fun h1 => by have := h.new q h1 hn; rw [hs] at this; simp at this
    have h2 : st1[q]? = some 2 := by rw [h.same q hn h1]; exact hs
    rw [k.pic q h1 h2, h.pic q hn hs]
theorem Has.perm (h : Has st ps) (hp : ps.Perm ps1) : Has st ps1 := ⟨hp.nodup_iff.1 h.nd, fun q hq => h.use q (hp.mem_iff.2 hq)⟩
theorem Mv.perm (h : Mv st img ps st1 img1 ps1) (hp : ps1.Perm ps2) : Mv st img ps st1 img1 ps2 :=
  ⟨h.len, hp.nodup_iff.1 h.nd, fun q hq => h.use q (hp.mem_iff.2 hq), fun q hq => h.new q (hp.mem_iff.2 hq), fun q hq hn => h.gone q hq (fun e => hn (hp.mem_iff.1 e)), fun q hn hn2 => h.same q hn (fun e => hn2 (hp.mem_iff.1 e)), h.pic⟩
theorem Mv.perm0 (h : Mv st img ps st1 img1 ps1) (hp : ps.Perm ps2) : Mv st img ps2 st1 img1 ps1 :=
  ⟨h.len, h.nd, h.use, fun q hq hn => h.new q hq (fun e => hn (hp.mem_iff.1 e)), fun q hq hn => h.gone q (hp.mem_iff.2 hq) hn, fun q hn hn2 => h.same q (fun e => hn (hp.mem_iff.1 e)) hn2, fun q hn hs => h.pic q (fun e => hn (hp.mem_iff.1 e)) hs⟩
/-- Beside other pages. -/
theorem Mv.frame (h : Mv st img ps st1 img1 ps1) (hh : Has st (A ++ (ps ++ B))) : Mv st img (A ++ (ps ++ B)) st1 img1 (A ++ (ps1 ++ B)) ∧ (∀ q, q ∈ A ∨ q ∈ B → img1 q = img q) := by
  have hd := List.nodup_append.1 hh.nd
  have hd2 := List.nodup_append.1 hd.2.1
  have hA : ∀ q ∈ A, q ∉ ps := fun q hq hp => hd.2.2 q hq q (by simp [hp]) rfl
  have hB : ∀ q ∈ B, q ∉ ps := fun q hq hp => hd2.2.2 q hp q hq rfl
  have hAB : ∀ q ∈ A, q ∉ B := fun q hq hp => hd.2.2 q hq q (by simp [hp]) rfl
  have hA2 : ∀ q ∈ A, st[q]? = some 2 := fun q hq => hh.use q (by simp [hq])
  have hB2 : ∀ q ∈ B, st[q]? = some 2 := fun q hq => hh.use q (by simp [hq])
  have hA1 : ∀ q ∈ A, q ∉ ps1 := fun q hq hp => by have := h.new q hp (hA q hq); rw [hA2 q hq] at this; simp at this
  have hB1 : ∀ q ∈ B, q ∉ ps1 := fun q hq hp => by have := h.new q hp (hB q hq); rw [hB2 q hq] at this; simp at this
  refine ⟨⟨h.len, ?_, ?_, ?_, ?_, ?_, ?_⟩, fun q hq => ?_⟩
  · refine List.nodup_append.2 ⟨hd.1, List.nodup_append.2 ⟨h.nd, hd2.2.1, fun a ha b hb e => ?_⟩, fun a ha b hb e => ?_⟩
    · subst e; exact hB1 a hb ha
    · subst e
      rcases List.mem_append.1 hb with hb | hb
      · exact hA1 a ha hb
      · exact hAB a ha hb
  · intro q hq
    rcases List.mem_append.1 hq with hq | hq
    · rw [h.same q (hA q hq) (hA1 q hq)]; exact hA2 q hq
    · rcases List.mem_append.1 hq with hq | hq
      · exact h.use q hq
      · rw [h.same q (hB q hq) (hB1 q hq)]; exact hB2 q hq
  · intro q hq hn
    simp only [List.mem_append, not_or] at hq hn
    exact h.new q (hq.elim (fun e => absurd e hn.1) (fun e => e.elim id (fun e => absurd e hn.2.2))) hn.2.1
  · intro q hq hn
    simp only [List.mem_append, not_or] at hq hn
    exact h.gone q (hq.elim (fun e => absurd e hn.1) (fun e => e.elim id (fun e => absurd e hn.2.2))) hn.2.1
  · intro q hn hn2
    simp only [List.mem_append, not_or] at hn hn2
    exact h.same q hn.2.1 hn2.2.1
  · intro q hn hs
    simp only [List.mem_append, not_or] at hn
    exact h.pic q hn.2.1 hs
  · rcases hq with hq | hq
    · exact h.pic q (hA q hq) (hA2 q hq)
    · exact h.pic q (hB q hq) (hB2 q hq)
theorem Has.mid (h : Has st (A ++ (ps ++ B))) : Has st ps := by
  have hd := List.nodup_append.1 h.nd
  have hd2 := List.nodup_append.1 hd.2.1
  exact ⟨hd2.1, fun q hq => h.use q (by simp [hq])⟩
theorem Mv.write (h : Has st ps) {p : Nat} (hp : p ∈ ps) (l : Byt) : Mv st img ps st (upd img p l) ps :=
  ⟨rfl, h.nd, h.use, fun q h1 h2 => absurd h1 h2, fun q h1 h2 => absurd h1 h2, fun _ _ _ => rfl, fun q hn _ => by unfold upd; rw [if_neg (fun (e : q = p) => hn (by rw [e]; exact hp))]⟩
theorem Mv.alloc (h : Has st ps) {q : Nat} (hq : st[q]? = some 0) (l : Byt) : Mv st img ps (st.set q 2) (upd img q l) (q :: ps) := by
  have hqn : q ∉ ps := fun e => by have := h.use q e; rw [hq] at this; simp at this
  have hql : q < st.length := (List.getElem?_eq_some_iff.1 hq).1
  have hne : ∀ x, x ≠ q → (st.set q 2)[x]? = st[x]? := fun x hx => by rw [List.getElem?_set_ne (fun e => hx e.symm)]
  refine ⟨by simp, List.nodup_cons.2 ⟨hqn, h.nd⟩, fun x hx => ?_, fun x hx hn => ?_, fun x hx hn => absurd (List.mem_cons_of_mem _ hx) hn, fun x hn hn2 => hne x (fun e => hn2 (by simp [e])), fun x hn hs => ?_⟩
  · rcases List.mem_cons.1 hx with e | e
    · subst e; simp [hql]
    · rw [hne x (fun e2 => hqn (e2 ▸ e))]; exact h.use x e
  · rcases List.mem_cons.1 hx with e | e
    · subst e; exact hq
    · exact absurd e hn
  · unfold upd
    rw [if_neg (fun e => by subst e; rw [hq] at hs; simp at hs)]
theorem Mv.free (h : Has st (A ++ ([p] ++ B))) : Mv st img (A ++ ([p] ++ B)) (st.set p 0) img (A ++ B) := by
  have hd := List.nodup_append.1 h.nd
  have hd2 := List.nodup_append.1 hd.2.1
  have hp := h.use p (by simp)
  have hpl : p < st.length := (List.getElem?_eq_some_iff.1 hp).1
  have hpA : p ∉ A := fun e => hd.2.2 p e p (by simp) rfl
  have hpB : p ∉ B := fun e => hd2.2.2 p (by simp) p e rfl
  have hne : ∀ x, x ≠ p → (st.set p 0)[x]? = st[x]? := fun x hx => by rw [List.getElem?_set_ne (fun e => hx e.symm)]
  refine ⟨by simp, List.nodup_append.2 ⟨hd.1, hd2.2.1, fun a ha b hb => hd.2.2 a ha b (by simp [hb])⟩, fun x hx => ?_, fun x hx hn => ?_, fun x hx hn => ?_, fun x hn hn2 => ?_, fun _ _ _ => rfl⟩
  · rw [hne x (fun e => by subst e; rcases List.mem_append.1 hx with e | e; exact hpA e; exact hpB e)]
    refine h.use x ?_
    rcases List.mem_append.1 hx with e | e <;> simp [e]
  · exact absurd (by rcases List.mem_append.1 hx with e | e <;> simp [e]) hn
  · have : x = p := by
      simp only [List.mem_append, List.mem_singleton, not_or] at hx hn
      rcases hx with e | e | e
      · exact absurd e hn.1
      · exact e
      · exact absurd e hn.2
    subst this
    simp [hpl]
  · exact hne x (fun e => by subst e; exact hn (by simp))
/-! ### Room -/
theorem room_take : ∀ {st : List Int}, 1 ≤ roomOf st → ∃ q : Nat, ixOf 0 st = q ∧ st[q]? = some 0 := by
  intro st h
  unfold roomOf at h
  have hm : ∃ x ∈ st, x = 0 := by
    have : st.filter (· == 0) ≠ [] := by intro e; rw [e] at h; simp at h
    obtain ⟨x, hx⟩ := List.exists_mem_of_ne_nil _ this
    rw [List.mem_filter] at hx
    exact ⟨x, hx.1, by simpa using hx.2⟩
  have : (st.findIdx? (· == 0)).isSome := by
    rw [List.findIdx?_isSome]
    obtain ⟨x, h1, h2⟩ := hm
    exact List.any_eq_true.2 ⟨x, h1, by simp [h2]⟩
  obtain ⟨q, hq⟩ := Option.isSome_iff_exists.1 this
  refine ⟨q, by unfold ixOf; rw [hq], ?_⟩
  rw [List.findIdx?_eq_some_iff_getElem] at hq
  obtain ⟨h1, h2, _⟩ := hq
  rw [List.getElem?_eq_getElem h1]
  simpa using h2
theorem roomOf_set : ∀ (st : List Int) (q : Nat) (v : Int), v ≠ 0 → st[q]? = some 0 → roomOf (st.set q v) + 1 = roomOf st
  | [], q, v, _, h => by simp at h
  | a :: st, 0, v, hv, h => by
    simp at h
    subst h
    unfold roomOf
    simp [hv]
  | a :: st, q + 1, v, hv, h => by
    have ih := roomOf_set st q v hv (by simpa using h)
    unfold roomOf at ih ⊢
    rw [List.set_cons_succ, List.filter_cons, List.filter_cons]
    split
    · rw [List.length_cons, List.length_cons]; omega
    · exact ih
theorem roomOf_free : ∀ (st : List Int) (q : Nat) (v : Int), v ≠ 0 → st[q]? = some v → roomOf (st.set q 0) = roomOf st + 1
  | [], q, v, _, h => by simp at h
  | a :: st, 0, v, hv, h => by
    simp at h
    subst h
    unfold roomOf
    simp [hv]
  | a :: st, q + 1, v, hv, h => by
    have ih := roomOf_free st q v hv (by simpa using h)
    unfold roomOf at ih ⊢
    rw [List.set_cons_succ, List.filter_cons, List.filter_cons]
    split
    · rw [List.length_cons, List.length_cons]; omega
    · exact ih
/-- Where just these pages are used, the others are free. -/
theorem roomOf_has : ∀ (ps : List Nat) {st : List Int}, Has st ps → (∀ q, q < st.length → q ∉ ps → st[q]? = some 0) → roomOf st + ps.length = st.length
  | [], st, _, h => by
    unfold roomOf
    have : st.filter (· == 0) = st := List.filter_eq_self.2 fun x hx => by
      obtain ⟨i, hi, rfl⟩ := List.getElem_of_mem hx
      have := h i hi (by simp)
      rw [List.getElem?_eq_getElem hi] at this
      simpa using this
    rw [this]; simp
  | p :: ps, st, hh, h => by
    have hp := hh.use p (by simp)
    have hpl : p < st.length := (List.getElem?_eq_some_iff.1 hp).1
    have hpn := (List.nodup_cons.1 hh.nd)
    have hne : ∀ x, x ≠ p → (st.set p 0)[x]? = st[x]? := fun x hx => by rw [List.getElem?_set_ne (fun e => hx e.symm)]
    have ih := roomOf_has ps (st := st.set p 0) ⟨hpn.2, fun q hq => by rw [hne q (fun e => hpn.1 (e ▸ hq))]; exact hh.use q (by simp [hq])⟩ (fun q hq hn => by
      by_cases e : q = p
      · subst e; simp [hpl]
      · rw [hne q e]; exact h q (by simpa using hq) (by simp [e, hn]))
    rw [roomOf_free st p 2 (by decide) hp] at ih
    simp at ih ⊢
    omega
end
/-! ### Entries -/
def insE : List Ent → Byt → Byt → List Ent
  | [], k, v => [(k, v)]
  | e :: es, k, v => if lt e.1 k then e :: insE es k v else if e.1 = k then (k, v) :: es else (k, v) :: e :: es
def delE : List Ent → Byt → List Ent
  | [], _ => []
  | e :: es, k => if lt e.1 k then e :: delE es k else if e.1 = k then es else e :: es
theorem insE_left {k v : Byt} : ∀ (A B : List Ent), (∀ e ∈ A, lt e.1 k) → insE (A ++ B) k v = A ++ insE B k v
  | [], B, _ => rfl
  | e :: A, B, h => by
    rw [List.cons_append, insE, if_pos (h e (by simp)), insE_left A B (fun x hx => h x (by simp [hx])), List.cons_append]
theorem insE_right {k v : Byt} : ∀ (A B : List Ent), (∀ e ∈ B, lt k e.1) → insE (A ++ B) k v = insE A k v ++ B
  | [], [], _ => rfl
  | [], e :: B, h => by
    have he := h e (by simp)
    show insE (e :: B) k v = (k, v) :: e :: B
    rw [insE, if_neg (lt_asymm he), if_neg (fun e2 => lt_irrefl k (by rw [e2] at he; exact he))]
  | e :: A, B, h => by
    rw [List.cons_append, insE, insE, insE_right A B h]
    split
    · rfl
    · split <;> rfl
theorem delE_left {k : Byt} : ∀ (A B : List Ent), (∀ e ∈ A, lt e.1 k) → delE (A ++ B) k = A ++ delE B k
  | [], B, _ => rfl
  | e :: A, B, h => by
    rw [List.cons_append, delE, if_pos (h e (by simp)), delE_left A B (fun x hx => h x (by simp [hx])), List.cons_append]
theorem delE_right {k : Byt} : ∀ (A B : List Ent), (∀ e ∈ B, lt k e.1) → delE (A ++ B) k = delE A k ++ B
  | [], [], _ => rfl
  | [], e :: B, h => by
    have he := h e (by simp)
    show delE (e :: B) k = e :: B
    rw [delE, if_neg (lt_asymm he), if_neg (fun e2 => lt_irrefl k (by rw [e2] at he; exact he))]
  | e :: A, B, h => by
    rw [List.cons_append, delE, delE, delE_right A B h]
    split
    · rfl
    · split <;> rfl
theorem insE_mid {k v : Byt} {A M B : List Ent} (h1 : ∀ e ∈ A, lt e.1 k) (h2 : ∀ e ∈ B, lt k e.1) : insE (A ++ (M ++ B)) k v = A ++ (insE M k v ++ B) := by
  rw [insE_left _ _ h1, insE_right _ _ h2]
theorem delE_mid {k : Byt} {A M B : List Ent} (h1 : ∀ e ∈ A, lt e.1 k) (h2 : ∀ e ∈ B, lt k e.1) : delE (A ++ (M ++ B)) k = A ++ (delE M k ++ B) := by
  rw [delE_left _ _ h1, delE_right _ _ h2]
theorem insE_len (k v : Byt) : ∀ es : List Ent, es.length ≤ (insE es k v).length ∧ (insE es k v).length ≤ es.length + 1
  | [] => by simp [insE]
  | e :: es => by
    have := insE_len k v es
    unfold insE
    split
    · simp; omega
    · split <;> simp
theorem delE_len (k : Byt) : ∀ es : List Ent, (delE es k).length ≤ es.length
  | [] => by simp [delE]
  | e :: es => by
    have := delE_len k es
    unfold delE
    split
    · simp; omega
    · split <;> simp
end Go.Proofs.YtfhapbggngdckaaGreat
