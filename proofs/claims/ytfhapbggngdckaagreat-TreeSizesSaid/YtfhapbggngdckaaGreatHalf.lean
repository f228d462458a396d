/- The halves of a node that is too large for a page: both fit. Plain. -/
import Derived.Test.YtfhapbggngdckaaGreatSplit
namespace Go.Proofs.YtfhapbggngdckaaGreat
theorem getD_take {l : List Byt} {k i : Nat} (h : i < k) : (l.take k).getD i [] = l.getD i [] := by
  rw [List.getD_eq_getElem?_getD, List.getD_eq_getElem?_getD, List.getElem?_take_of_lt h]
theorem getD_drop (l : List Byt) (k i : Nat) : (l.drop k).getD i [] = l.getD (k + i) [] := by
  rw [List.getD_eq_getElem?_getD, List.getD_eq_getElem?_getD, List.getElem?_drop]
theorem Nd.fst_sum (n : Nd) (k : Nat) : ∀ i, i ≤ k → (n.fst k).sum i = n.sum i
  | 0, _ => rfl
  | i + 1, h => by
    rw [Nd.sum, Nd.sum, n.fst_sum k i (by omega)]
    congr 1
    unfold Nd.ent Nd.klen Nd.vlen
    rw [n.fst_leaf]
    unfold Nd.fst
    simp only [getD_take (show i < k by omega)]
def Nd.off (n : Nd) (k : Nat) : Nat := if n.leaf then k else k + 1
theorem Nd.snd_sum (n : Nd) (k : Nat) (hv : n.leaf = false → n.vals = []) : ∀ i, n.sum (n.off k) + (n.snd k).sum i = n.sum (n.off k + i)
  | 0 => rfl
  | i + 1 => by
    rw [Nd.sum, ← Nat.add_assoc, n.snd_sum k hv i, ← Nat.add_assoc, Nd.sum]
    congr 1
    unfold Nd.ent Nd.klen Nd.vlen
    rw [n.snd_leaf]
    unfold Nd.snd Nd.off
    rcases hlf : n.leaf with _ | _
    · simp only [Bool.false_eq_true, if_false, getD_drop]
    · simp only [if_true, getD_drop]
theorem Nd.fst_size (n : Nd) {k : Nat} (h : k ≤ n.keys.length) : (n.fst k).size = n.base + n.sum k := by
  unfold Nd.size
  rw [show (n.fst k).keys.length = k by unfold Nd.fst; simp; omega, n.fst_sum k k (Nat.le_refl _)]
  rfl
theorem Nd.snd_keys (n : Nd) (k : Nat) : (n.snd k).keys = n.keys.drop (n.off k) := by unfold Nd.snd Nd.off; split <;> rfl
theorem Nd.snd_size (n : Nd) {k : Nat} (hv : n.leaf = false → n.vals = []) (h : n.off k ≤ n.keys.length) : (n.snd k).size + n.sum (n.off k) = n.base + n.sum n.keys.length := by
  unfold Nd.size
  have h1 := n.snd_sum k hv (n.snd k).keys.length
  have h2 : (n.snd k).keys.length = n.keys.length - n.off k := by rw [n.snd_keys]; simp
  have h3 : (n.snd k).base = n.base := by unfold Nd.base; rw [n.snd_leaf]
  rw [show n.off k + (n.snd k).keys.length = n.keys.length by omega] at h1
  omega
theorem Nd.fst_sh {n : Nd} (h : n.Sh) {k : Nat} (hk : k ≤ n.keys.length) : (n.fst k).Sh := by
  refine ⟨fun i hi => ?_, fun i hi => ?_, fun hl => ?_, fun hl => ?_⟩
  · have hi' : i < (n.keys.take k).length := hi
    have := h.klen i (by simp at hi'; omega)
    simpa only [Nd.fst, List.getElem_take] using this
  · have hi' : i + 1 < (n.keys.take k).length := hi
    have := h.rise i (by simp at hi'; omega)
    simpa only [Nd.fst, List.getElem_take] using this
  · have hl' : n.leaf = true := hl
    have h1 := h.lf hl'
    unfold Nd.fst
    simp only [hl', if_true]
    exact ⟨by simp [h1.1], trivial, fun v hv => h1.2.2 v (List.mem_of_mem_take hv)⟩
  · have hl' : n.leaf = false := hl
    have h1 := h.inn hl'
    unfold Nd.fst
    simp only [hl', Bool.false_eq_true, if_false]
    exact ⟨by simp [h1.1], by simp; omega, fun v hv => h1.2.2 v (List.mem_of_mem_take hv)⟩
theorem Nd.snd_sh {n : Nd} (h : n.Sh) {k : Nat} (hk : n.off k ≤ n.keys.length) : (n.snd k).Sh := by
  have hkeys := n.snd_keys k
  refine ⟨fun i hi => ?_, fun i hi => ?_, fun hl => ?_, fun hl => ?_⟩
  · simp only [hkeys] at hi ⊢
    have := h.klen (n.off k + i) (by simp at hi; omega)
    simpa using this
  · simp only [hkeys] at hi ⊢
    have := h.rise (n.off k + i) (by simp at hi; omega)
    simpa [Nat.add_assoc] using this
  · have hl' : n.leaf = true := by rw [← n.snd_leaf k]; exact hl
    have h1 := h.lf hl'
    unfold Nd.snd
    simp only [hl', if_true]
    exact ⟨by simp [h1.1], trivial, fun v hv => h1.2.2 v (List.mem_of_mem_drop hv)⟩
  · have hl' : n.leaf = false := by rw [← n.snd_leaf k]; exact hl
    have h1 := h.inn hl'
    unfold Nd.off at hk
    rw [hl'] at hk
    simp only [Bool.false_eq_true, if_false] at hk
    unfold Nd.snd
    simp only [hl', Bool.false_eq_true, if_false]
    exact ⟨trivial, by simp; omega, fun v hv => h1.2.2 v (List.mem_of_mem_drop hv)⟩
theorem Nd.ent_le {n : Nd} (h : n.Sh) (i : Nat) (hi : i < n.keys.length) : n.ent i ≤ if n.leaf then 503 else 245 := by
  have hk := (h.klen i hi).2
  have e : n.klen i = n.keys[i].length := by unfold Nd.klen; rw [List.getD_eq_getElem?_getD, List.getElem?_eq_getElem hi]; rfl
  unfold Nd.ent
  rcases hlf : n.leaf with _ | _
  · simp; omega
  · have h1 := h.lf hlf
    have hv : n.vlen i ≤ 260 := by
      unfold Nd.vlen
      rw [List.getD_eq_getElem?_getD, List.getElem?_eq_getElem (show i < n.vals.length by omega)]
      exact h1.2.2 _ (List.getElem_mem _)
    simp; omega
/-- The first place where a sum passes a bound. -/
theorem Nd.pass (n : Nd) (c : Nat) : ∀ m, c < n.sum m → ∃ k, k < m ∧ n.sum k ≤ c ∧ c < n.sum (k + 1)
  | 0, h => by simp [Nd.sum] at h
  | m + 1, h => by
    by_cases hc : c < n.sum m
    · obtain ⟨k, h1, h2, h3⟩ := n.pass c m hc
      exact ⟨k, by omega, h2, h3⟩
    · exact ⟨m, by omega, by omega, h⟩
theorem Nd.sum_le {n : Nd} (h : n.Sh) (c : Nat) (hc : (if n.leaf then 503 else 245) ≤ c) : ∀ m, m ≤ n.keys.length → n.sum m ≤ c * m
  | 0, _ => Nat.zero_le _
  | m + 1, hm => by
    have := n.sum_le h c hc m (by omega)
    have := n.ent_le h m (by omega)
    rw [Nd.sum, Nat.mul_succ]; omega
theorem Nd.halves {n : Nd} (h : n.Sh) (hz : 1024 < n.size) (hb : n.size ≤ if n.leaf then 1527 else 1300) :
    1 ≤ n.last ∧ ∀ k, 1 ≤ k → k ≤ n.last → (∀ j, 1 ≤ j → j ≤ n.last → n.worst k ≤ n.worst j) → (n.fst k).Sh ∧ (n.snd k).Sh ∧ (n.fst k).size ≤ 1024 ∧ (n.snd k).size ≤ 1024 := by
  have hv : n.leaf = false → n.vals = [] := fun hl => (h.inn hl).1
  have key : ∃ k, 1 ≤ k ∧ k ≤ n.last ∧ (n.fst k).size ≤ 1024 ∧ (n.snd k).size ≤ 1024 := by
    rcases hlf : n.leaf with _ | _
    · have hbase : n.base = 7 := by unfold Nd.base; simp [hlf]
      have hoff : ∀ k, n.off k = k + 1 := fun k => by unfold Nd.off; simp [hlf]
      have hlast : n.last = n.keys.length - 2 := by unfold Nd.last; simp [hlf]
      rw [hlf] at hb
      simp only [Bool.false_eq_true, if_false] at hb
      have hent := fun i hi => n.ent_le h i hi
      simp only [hlf, Bool.false_eq_true, if_false] at hent
      unfold Nd.size at hz hb
      obtain ⟨k, h1, h2, h3⟩ := n.pass 1017 n.keys.length (by omega)
      have hle := n.sum_le h 245 (by simp [hlf]) n.keys.length (Nat.le_refl _)
      have hk1 : 4 ≤ k := by
        have := n.sum_le h 245 (by simp [hlf]) (k + 1) (by omega)
        omega
      by_cases hk : k + 2 ≤ n.keys.length
      · refine ⟨k, by omega, by omega, ?_, ?_⟩
        · rw [n.fst_size (by omega)]; omega
        · have := n.snd_size hv (k := k) (by rw [hoff]; omega)
          rw [hoff] at this; omega
      · refine ⟨k - 1, by omega, by omega, ?_, ?_⟩
        · rw [n.fst_size (by omega)]
          have := n.sum_mono (show k - 1 ≤ k by omega)
          omega
        · have := n.snd_size hv (k := k - 1) (by rw [hoff]; omega)
          rw [hoff, show k - 1 + 1 = k by omega] at this
          have e : n.keys.length = k + 1 := by omega
          have h4 := hent k (by omega)
          rw [e, Nd.sum] at this
          omega
    · have hbase : n.base = 3 := by unfold Nd.base; simp [hlf]
      have hoff : ∀ k, n.off k = k := fun k => by unfold Nd.off; simp [hlf]
      have hlast : n.last = n.keys.length - 1 := by unfold Nd.last; simp [hlf]
      rw [hlf] at hb
      simp only [if_true] at hb
      have hent := fun i hi => n.ent_le h i hi
      simp only [hlf, if_true] at hent
      unfold Nd.size at hz hb
      obtain ⟨k, h1, h2, h3⟩ := n.pass 1021 n.keys.length (by omega)
      have hk1 : 2 ≤ k := by
        have := n.sum_le h 503 (by simp [hlf]) (k + 1) (by omega)
        omega
      refine ⟨k, by omega, by omega, ?_, ?_⟩
      · rw [n.fst_size (by omega)]; omega
      · have := n.snd_size hv (k := k) (by rw [hoff]; omega)
        rw [hoff] at this
        have h4 := hent k (by omega)
        rw [Nd.sum] at h3
        omega
  obtain ⟨j, hj1, hj2, hj3, hj4⟩ := key
  refine ⟨by omega, fun k hk1 hk2 hm => ?_⟩
  have hw := hm j hj1 hj2
  unfold Nd.worst at hw
  have hkl : n.off k ≤ n.keys.length ∧ k ≤ n.keys.length := by
    unfold Nd.last at hk2
    unfold Nd.off
    split <;> rename_i hl <;> simp only [hl, if_true, if_false, Bool.false_eq_true] at hk2 <;> omega
  exact ⟨n.fst_sh h hkl.2, n.snd_sh h hkl.1, by omega, by omega⟩
end Go.Proofs.YtfhapbggngdckaaGreat
