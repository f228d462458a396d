/- What a node is when an entry, or a kid, is put into it. Plain. -/
import Derived.Test.YtfhapbggngdckaaGreatPut1
import Derived.Test.YtfhapbggngdckaaGreatMv
namespace Go.Proofs.YtfhapbggngdckaaGreat
def sumE (l : List Ent) : Nat := (l.map fun e => 3 + e.1.length + e.2.length).sum
def sumK (l : List Byt) : Nat := (l.map fun k => 5 + k.length).sum
theorem sumE_app (a b : List Ent) : sumE (a ++ b) = sumE a + sumE b := by simp [sumE]
theorem sumK_app (a b : List Byt) : sumK (a ++ b) = sumK a + sumK b := by simp [sumK]
theorem sumE_cons (e : Ent) (b : List Ent) : sumE (e :: b) = 3 + e.1.length + e.2.length + sumE b := by simp [sumE]
theorem sumK_cons (e : Byt) (b : List Byt) : sumK (e :: b) = 5 + e.length + sumK b := by simp [sumK]
theorem Nd.size_leaf {n : Nd} (hl : n.leaf = true) (hv : n.vals.length = n.keys.length) : n.size = 3 + sumE (n.keys.zip n.vals) := by
  have key : ∀ i, i ≤ n.keys.length → n.sum i = sumE ((n.keys.zip n.vals).take i) := by
    intro i
    induction i with
    | zero => intro _; simp [Nd.sum, sumE]
    | succ i ih =>
      intro hi
      have hz : i < (n.keys.zip n.vals).length := by simp; omega
      rw [Nd.sum, ih (by omega), List.take_succ_eq_append_getElem hz, sumE_app]
      congr 1
      unfold Nd.ent Nd.klen Nd.vlen
      rw [hl, List.getD_eq_getElem?_getD, List.getD_eq_getElem?_getD, List.getElem?_eq_getElem (show i < n.keys.length by omega), List.getElem?_eq_getElem (show i < n.vals.length by omega)]
      simp [sumE]
  unfold Nd.size Nd.base
  rw [key n.keys.length (Nat.le_refl _), hl, List.take_of_length_le (by simp; omega)]; rfl
theorem Nd.size_inner {n : Nd} (hl : n.leaf = false) : n.size = 7 + sumK n.keys := by
  have key : ∀ i, i ≤ n.keys.length → n.sum i = sumK (n.keys.take i) := by
    intro i
    induction i with
    | zero => intro _; simp [Nd.sum, sumK]
    | succ i ih =>
      intro hi
      rw [Nd.sum, ih (by omega), List.take_succ_eq_append_getElem (show i < n.keys.length by omega), sumK_app]
      congr 1
      unfold Nd.ent Nd.klen
      rw [hl, List.getD_eq_getElem?_getD, List.getElem?_eq_getElem (show i < n.keys.length by omega)]
      simp [sumK]
  unfold Nd.size Nd.base
  rw [key n.keys.length (Nat.le_refl _), hl, List.take_of_length_le (Nat.le_refl _)]; rfl
theorem Plc.low' {keys : List Byt} {key : Byt} {i : Nat} (h : Plc keys key i) : ∀ k ∈ keys.take i, lt k key := fun k hk => by
  obtain ⟨j, hj, rfl⟩ := List.getElem_of_mem hk
  rw [List.length_take] at hj
  rw [List.getElem_take]
  exact h.low j (by omega) (by omega)
theorem Plc.high' {keys : List Byt} {key : Byt} {i : Nat} (h : Plc keys key i) : ∀ k ∈ keys.drop i, ¬ lt k key := fun k hk => by
  obtain ⟨j, hj, rfl⟩ := List.getElem_of_mem hk
  rw [List.length_drop] at hj
  rw [List.getElem_drop]
  exact h.high (i + j) (by omega) (by omega)
theorem zip_app {α β : Type} {a c : List α} {b d : List β} (h : a.length = b.length) : (a ++ c).zip (b ++ d) = a.zip b ++ c.zip d := List.zip_append h
theorem zip_split {keys vals : List Byt} {i : Nat} (hv : vals.length = keys.length) (hi : i ≤ keys.length) : keys.zip vals = (keys.take i).zip (vals.take i) ++ (keys.drop i).zip (vals.drop i) := by
  have h := zip_app (a := keys.take i) (b := vals.take i) (c := keys.drop i) (d := vals.drop i) (by simp; omega)
  rw [List.take_append_drop, List.take_append_drop] at h
  exact h
theorem split_at {l : List Byt} {i : Nat} {k : Byt} (h : l[i]? = some k) : l.drop i = k :: l.drop (i + 1) := by
  have hi : i < l.length := (List.getElem?_eq_some_iff.1 h).1
  rw [List.drop_eq_getElem_cons hi]
  congr 1
  rw [List.getElem?_eq_getElem hi] at h
  exact Option.some.inj h
/-- Keys that rise, with one more in its place. -/
theorem pair_ins {keys : List Byt} {key : Byt} {i : Nat} (hp : keys.Pairwise lt) (h1 : ∀ k ∈ keys.take i, lt k key) (h2 : ∀ k ∈ keys.drop i, lt key k) : (keys.take i ++ (key :: keys.drop i)).Pairwise lt := by
  have h := List.pairwise_append.1 (by rw [List.take_append_drop]; exact hp : (keys.take i ++ keys.drop i).Pairwise lt)
  refine List.pairwise_append.2 ⟨h.1, List.pairwise_cons.2 ⟨h2, h.2.1⟩, fun a ha b hb => ?_⟩
  rcases List.mem_cons.1 hb with e | e
  · subst e; exact h1 a ha
  · exact h.2.2 a ha b e
theorem sh_leaf {n : Nd} (hl : n.leaf = true) (hk : ∀ k ∈ n.keys, 1 ≤ k.length ∧ k.length ≤ 240) (hp : n.keys.Pairwise lt) (hv : n.vals.length = n.keys.length) (hki : n.kids = []) (hvl : ∀ v ∈ n.vals, v.length ≤ 260) : n.Sh :=
  ⟨fun i h => hk _ (List.getElem_mem h), rise_of hp, fun _ => ⟨hv, hki, hvl⟩, fun h => by rw [hl] at h; cases h⟩
theorem sh_inner {n : Nd} (hl : n.leaf = false) (hk : ∀ k ∈ n.keys, 1 ≤ k.length ∧ k.length ≤ 240) (hp : n.keys.Pairwise lt) (hv : n.vals = []) (hc : n.kids.length = n.keys.length + 1) (hki : ∀ k ∈ n.kids, 0 ≤ k ∧ k ≤ 2147483647) : n.Sh :=
  ⟨fun i h => hk _ (List.getElem_mem h), rise_of hp, (fun h => by rw [hl] at h; cases h), fun _ => ⟨hv, hc, hki⟩⟩
theorem Nd.Sh.kl {n : Nd} (h : n.Sh) : ∀ k ∈ n.keys, 1 ≤ k.length ∧ k.length ≤ 240 := fun k hk => by
  obtain ⟨i, hi, rfl⟩ := List.getElem_of_mem hk
  exact h.klen i hi
/-- A leaf with an entry put in. -/
structure LeafIns (n m : Nd) (key val : Byt) : Prop where
  leaf : m.leaf = true
  sh : m.Sh
  size : m.size ≤ 1527
  ne : m.keys ≠ []
  ents : m.keys.zip m.vals = insE (n.keys.zip n.vals) key val
  mem : ∀ k ∈ m.keys, k ∈ n.keys ∨ k = key
theorem leaf_ins {n : Nd} (hl : n.leaf = true) (hs : n.Sh) (hz : n.size ≤ 1024) {key val : Byt} (hk1 : 1 ≤ key.length) (hk2 : key.length ≤ 240) (hv : val.length ≤ 260) {i : Nat} (hp : Plc n.keys key i) : LeafIns n (n.putAt i key val) key val := by
  obtain ⟨hvl, hkids, hvs⟩ := hs.lf hl
  have hsz := Nd.size_leaf hl hvl
  have hA : ∀ e ∈ (n.keys.take i).zip (n.vals.take i), lt e.1 key := fun e he => hp.low' e.1 (List.of_mem_zip he).1
  rw [zip_split hvl hp.le] at hsz
  by_cases hh : n.keys[i]? = some key
  · have hi : i < n.keys.length := (List.getElem?_eq_some_iff.1 hh).1
    have hm : n.putAt i key val = { n with vals := n.vals.set i val } := by unfold Nd.putAt; rw [if_pos hh]
    have hset : n.vals.set i val = n.vals.take i ++ (val :: n.vals.drop (i + 1)) := by rw [List.set_eq_take_append_cons_drop, if_pos (by omega)]
    have hdk := split_at hh
    have hdv : n.vals.drop i = n.vals[i]'(by omega) :: n.vals.drop (i + 1) := List.drop_eq_getElem_cons (by omega)
    have hz2 : n.keys.zip (n.vals.set i val) = (n.keys.take i).zip (n.vals.take i) ++ ((key, val) :: (n.keys.drop (i + 1)).zip (n.vals.drop (i + 1))) := by
      rw [hset]
      conv => lhs; rw [← List.take_append_drop i n.keys]
      rw [zip_app (by simp; omega), hdk]; rfl
    have hent : n.keys.zip (n.vals.set i val) = insE (n.keys.zip n.vals) key val := by
      rw [hz2, zip_split hvl hp.le, insE_left _ _ hA, hdk, hdv, List.zip_cons_cons, insE, if_neg (lt_irrefl key), if_pos rfl]
    have hsz2 := Nd.size_leaf (n := { n with vals := n.vals.set i val }) hl (by simp [hvl])
    rw [hm]
    refine ⟨hl, sh_leaf hl hs.kl hs.pair (by simp [hvl]) hkids (fun v hv' => ?_), ?_, fun e => ?_, hent, fun k hk => .inl hk⟩
    · rcases List.mem_or_eq_of_mem_set hv' with e | e
      · exact hvs v e
      · subst e; exact hv
    · rw [hsz2]
      simp only
      rw [hz2, sumE_app, sumE_cons]
      rw [sumE_app, hdk, hdv, List.zip_cons_cons, sumE_cons] at hsz
      simp only at hsz ⊢
      omega
    · simp only at e; rw [e] at hi; simp at hi
  · have hhigh : ∀ k ∈ n.keys.drop i, lt key k := fun k hk => by
      obtain ⟨j, hj, rfl⟩ := List.getElem_of_mem hk
      rw [List.length_drop] at hj
      rw [List.getElem_drop]
      have hlt : i + j < n.keys.length := by omega
      have hnl := hp.high (i + j) hlt (by omega)
      rcases lt_total n.keys[i + j] key with e | e | e
      · exact absurd e hnl
      · exfalso
        rcases Nat.eq_zero_or_pos j with e0 | e0
        · subst e0
          refine hh ?_
          simp only [Nat.add_zero] at e hlt
          rw [List.getElem?_eq_getElem hlt, e]
        · have hi : i < n.keys.length := by omega
          have h1 := (List.pairwise_iff_getElem.1 hs.pair) i (i + j) hi hlt (by omega)
          rw [e] at h1
          exact hp.high i hi (Nat.le_refl _) h1
      · exact e
    have hm : n.putAt i key val = { n with keys := n.keys.take i ++ (key :: n.keys.drop i), vals := n.vals.take i ++ (val :: n.vals.drop i) } := by unfold Nd.putAt; rw [if_neg hh]
    have hz2 : (n.keys.take i ++ (key :: n.keys.drop i)).zip (n.vals.take i ++ (val :: n.vals.drop i)) = (n.keys.take i).zip (n.vals.take i) ++ ((key, val) :: (n.keys.drop i).zip (n.vals.drop i)) := by
      rw [zip_app (by simp; omega)]; rfl
    have hlen : (n.vals.take i ++ (val :: n.vals.drop i)).length = (n.keys.take i ++ (key :: n.keys.drop i)).length := by simp; have := hp.le; omega
    have hsz2 := Nd.size_leaf (n := { n with keys := n.keys.take i ++ (key :: n.keys.drop i), vals := n.vals.take i ++ (val :: n.vals.drop i) }) hl hlen
    rw [hm]
    refine ⟨hl, sh_leaf hl (fun k hk => ?_) (pair_ins hs.pair hp.low' hhigh) hlen hkids (fun v hv' => ?_), ?_, fun e => ?_, ?_, fun k hk => ?_⟩
    · rcases List.mem_append.1 hk with e | e
      · exact hs.kl k (List.mem_of_mem_take e)
      · rcases List.mem_cons.1 e with e | e
        · subst e; exact ⟨hk1, hk2⟩
        · exact hs.kl k (List.mem_of_mem_drop e)
    · rcases List.mem_append.1 hv' with e | e
      · exact hvs v (List.mem_of_mem_take e)
      · rcases List.mem_cons.1 e with e | e
        · subst e; exact hv
        · exact hvs v (List.mem_of_mem_drop e)
    · rw [hsz2]
      simp only
      rw [hz2, sumE_app, sumE_cons]
      rw [sumE_app] at hsz
      simp only
      omega
    · simp at e
    · simp only
      rw [hz2, zip_split hvl hp.le, insE_left _ _ hA]
      congr 1
      have : insE ([] ++ (n.keys.drop i).zip (n.vals.drop i)) key val = insE [] key val ++ (n.keys.drop i).zip (n.vals.drop i) := insE_right [] _ (fun e he => hhigh e.1 (List.of_mem_zip he).1)
      simpa [insE] using this.symm
    · rcases List.mem_append.1 hk with e | e
      · exact .inl (List.mem_of_mem_take e)
      · rcases List.mem_cons.1 e with e | e
        · exact .inr e
        · exact .inl (List.mem_of_mem_drop e)
/-- An inner node with a kid put in. -/
structure InnerIns (n m : Nd) (sep : Byt) : Prop where
  leaf : m.leaf = false
  sh : m.Sh
  size : m.size ≤ 1300
  ne : m.keys ≠ []
  mem : ∀ k ∈ m.keys, k ∈ n.keys ∨ k = sep
theorem inner_ins {n : Nd} (hl : n.leaf = false) (hs : n.Sh) (hz : n.size ≤ 1024) {sep : Byt} (hk1 : 1 ≤ sep.length) (hk2 : sep.length ≤ 240) {q : Nat} (hq : q ≤ 2147483647) {i : Nat} (hi : i ≤ n.keys.length) (h1 : ∀ k ∈ n.keys.take i, lt k sep) (h2 : ∀ k ∈ n.keys.drop i, lt sep k) : InnerIns n (n.kidAt i sep q) sep := by
  obtain ⟨hv, hc, hki⟩ := hs.inn hl
  have hsz := Nd.size_inner hl
  have hsz2 := Nd.size_inner (n := n.kidAt i sep q) hl
  rw [← List.take_append_drop i n.keys, sumK_app] at hsz
  refine ⟨hl, sh_inner hl (fun k hk => ?_) (pair_ins hs.pair h1 h2) hv ?_ (fun k hk => ?_), ?_, fun e => by simp [Nd.kidAt] at e, fun k hk => ?_⟩
  · rcases List.mem_append.1 hk with e | e
    · exact hs.kl k (List.mem_of_mem_take e)
    · rcases List.mem_cons.1 e with e | e
      · subst e; exact ⟨hk1, hk2⟩
      · exact hs.kl k (List.mem_of_mem_drop e)
  · unfold Nd.kidAt; simp; omega
  · rcases List.mem_append.1 hk with e | e
    · exact hki k (List.mem_of_mem_take e)
    · rcases List.mem_cons.1 e with e | e
      · subst e; omega
      · exact hki k (List.mem_of_mem_drop e)
  · rw [hsz2]
    unfold Nd.kidAt
    simp only
    rw [sumK_app, sumK_cons]
    omega
  · rcases List.mem_append.1 hk with e | e
    · exact .inl (List.mem_of_mem_take e)
    · rcases List.mem_cons.1 e with e | e
      · exact .inr e
      · exact .inl (List.mem_of_mem_drop e)
end Go.Proofs.YtfhapbggngdckaaGreat
