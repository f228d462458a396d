/- Bytes in order: bytes.Compare, bytes.Equal, the reference's Less and Same. -/
import Derived.Test.YtfhapbggngdckaaGreatIndex
import Derived.Lib.Bytealg
import Derived.Laws.BytesArg
namespace Go.Proofs.YtfhapbggngdckaaGreat
open Go.RowKit

abbrev cb := Lib.compareBytes
theorem cb_self : ∀ a : List UInt8, cb a a = 0
  | [] => rfl
  | x :: a => by
    have := cb_self a
    unfold cb at *
    rw [Lib.compareBytes, if_neg (UInt8.lt_irrefl x), if_neg (UInt8.lt_irrefl x)]
    exact this
theorem cb_eq : ∀ {a b : List UInt8}, cb a b = 0 → a = b
  | [], [], _ => rfl
  | [], _ :: _, h => by simp [cb, Lib.compareBytes] at h
  | _ :: _, [], h => by simp [cb, Lib.compareBytes] at h
  | x :: a, y :: b, h => by
    unfold cb at h
    rw [Lib.compareBytes] at h
    split at h
    · simp at h
    · split at h
      · simp at h
      · rename_i h1 h2
        have : x = y := UInt8.le_antisymm (UInt8.not_lt.1 h2) (UInt8.not_lt.1 h1)
        rw [this, cb_eq h]
theorem cb_range : ∀ a b : List UInt8, cb a b = -1 ∨ cb a b = 0 ∨ cb a b = 1
  | [], [] => .inr (.inl rfl)
  | [], _ :: _ => .inl rfl
  | _ :: _, [] => .inr (.inr rfl)
  | x :: a, y :: b => by
    have := cb_range a b
    unfold cb at *
    rw [Lib.compareBytes]
    split
    · exact .inl rfl
    · split
      · exact .inr (.inr rfl)
      · exact this
theorem cb_swap : ∀ a b : List UInt8, cb b a = - cb a b
  | [], [] => rfl
  | [], _ :: _ => rfl
  | _ :: _, [] => rfl
  | x :: a, y :: b => by
    have := cb_swap a b
    unfold cb at *
    rw [Lib.compareBytes, Lib.compareBytes]
    by_cases h1 : x < y
    · rw [if_neg (UInt8.lt_asymm h1), if_pos h1, if_pos h1]; rfl
    · by_cases h2 : y < x
      · rw [if_pos h2, if_neg h1, if_pos h2]
      · rw [if_neg h2, if_neg h1, if_neg h1, if_neg h2, this]
/-- Less, byte by byte. -/
def lt (a b : List UInt8) : Prop := cb a b = -1
instance : DecidableRel lt := fun a b => inferInstanceAs (Decidable (cb a b = -1))
theorem lt_irrefl (a : List UInt8) : ¬ lt a a := by unfold lt; rw [cb_self]; decide
theorem lt_asymm {a b : List UInt8} (h : lt a b) : ¬ lt b a := by unfold lt at *; rw [cb_swap, h]; decide
theorem lt_trans : ∀ {a b c : List UInt8}, lt a b → lt b c → lt a c
  | [], [], _, h, _ => by simp [lt, cb, Lib.compareBytes] at h
  | [], _ :: _, [], _, h => by simp [lt, cb, Lib.compareBytes] at h
  | [], _ :: _, _ :: _, _, _ => rfl
  | _ :: _, [], _, h, _ => by simp [lt, cb, Lib.compareBytes] at h
  | _ :: _, _ :: _, [], _, h => by simp [lt, cb, Lib.compareBytes] at h
  | x :: a, y :: b, z :: c, h1, h2 => by
    have ih := @lt_trans a b c
    unfold lt cb at *
    rw [Lib.compareBytes] at h1 h2 ⊢
    by_cases h : x < z
    · rw [if_pos h]
    · by_cases e1 : x < y
      · by_cases e2 : y < z
        · exact absurd (UInt8.lt_trans e1 e2) h
        · rw [if_neg e2] at h2
          by_cases e3 : z < y
          · rw [if_pos e3] at h2; simp at h2
          · have : y = z := UInt8.le_antisymm (UInt8.not_lt.1 e3) (UInt8.not_lt.1 e2)
            subst this; exact absurd e1 h
      · rw [if_neg e1] at h1
        by_cases e3 : y < x
        · rw [if_pos e3] at h1; simp at h1
        · have : x = y := UInt8.le_antisymm (UInt8.not_lt.1 e3) (UInt8.not_lt.1 e1)
          subst this
          rw [if_neg e3] at h1
          rw [if_neg h] at h2 ⊢
          by_cases e4 : z < x
          · rw [if_pos e4] at h2; simp at h2
          · rw [if_neg e4] at h2 ⊢
            exact ih h1 h2
theorem lt_total (a b : List UInt8) : lt a b ∨ a = b ∨ lt b a := by
  rcases cb_range a b with h | h | h
  · exact .inl h
  · exact .inr (.inl (cb_eq h))
  · exact .inr (.inr (by unfold lt; rw [cb_swap, h]))
theorem cb_neg {a b : List UInt8} : cb a b < 0 ↔ lt a b := by
  unfold lt
  rcases cb_range a b with h | h | h <;> rw [h] <;> simp
theorem cb_nonneg {a b : List UInt8} : 0 ≤ cb a b ↔ ¬ lt a b := by
  unfold lt
  rcases cb_range a b with h | h | h <;> rw [h] <;> simp
theorem cb_pos {a b : List UInt8} : 0 < cb a b ↔ lt b a := by
  unfold lt
  rw [cb_swap a b]
  rcases cb_range a b with h | h | h <;> rw [h] <;> simp
theorem not_lt_trans {a b c : List UInt8} (h1 : ¬ lt b a) (h2 : ¬ lt c b) : ¬ lt c a := by
  intro h
  rcases lt_total a b with h3 | rfl | h3
  · exact h2 (lt_trans h h3)
  · exact h2 h
  · exact h1 h3
theorem lt_of_lt_of_not {a b c : List UInt8} (h1 : lt a b) (h2 : ¬ lt c b) : lt a c := by
  rcases lt_total b c with h3 | rfl | h3
  · exact lt_trans h1 h3
  · exact h1
  · exact absurd h3 h2
theorem lt_of_not_of_lt {a b c : List UInt8} (h1 : ¬ lt b a) (h2 : lt b c) : lt a c := by
  rcases lt_total a b with h3 | rfl | h3
  · exact lt_trans h3 h2
  · exact h2
  · exact absurd h3 h1
theorem not_lt_nil (a : List UInt8) : ¬ lt a [] := by cases a <;> simp [lt, cb, Lib.compareBytes]

section
variable {w : World} {D D' : Nat → Prop} {u v : Value} {a b : List UInt8}
theorem run_loadBytes {g o : Nat} : ∀ (n : Nat) (a : List UInt8) (acc : ByteArray) (j : Nat), a.length = n + j → (∀ i, i < a.length → w.cell? ⟨g, o + i, none⟩ = (a.map u8)[i]?) →
    (Extern.Bytes.loadBytes ⟨g, o + j, none⟩ n acc).run Tryz.prog w = .ok ⟨acc.data ++ (a.drop j).toArray⟩ w
  | 0, a, acc, j, hn, _ => by
    rw [List.drop_eq_nil_of_le (by omega)]
    simp only [Extern.Bytes.loadBytes, Sem.run_pure]
    simp
  | n + 1, a, acc, j, hn, hc => by
    have h := hc j (by omega)
    rw [List.getElem?_map, List.getElem?_eq_getElem (show j < a.length by omega), Option.map_some] at h
    have hr : (load ⟨g, o + j, none⟩).run Tryz.prog w = .ok (u8 a[j]) w := by rw [run_load, h]
    unfold Extern.Bytes.loadBytes
    rw [Sem.run_bind, hr]
    simp only [Result.andThen, u8]
    rw [show (⟨g, o + j, none⟩ : Addr).add 1 = ⟨g, o + (j + 1), none⟩ from by unfold Addr.add; split <;> simp_all; omega]
    rw [run_loadBytes n a _ (j + 1) (by omega) hc]
    congr 1
    rw [List.drop_eq_getElem_cons (show j < a.length by omega)]
    simp [ByteArray.push]
theorem run_bytesOf (h : BS w D v a) : (Extern.Bytes.bytesOf v).run Tryz.prog w = .ok ⟨a.toArray⟩ w := by
  obtain ⟨ao, cap, rfl, hcap, hcm, hcell⟩ := h
  rw [List.length_map] at hcap hcell ⊢
  rcases Nat.eq_zero_or_pos a.length with h0 | h0
  · rw [h0]
    have : a = [] := List.eq_nil_of_length_eq_zero h0
    subst this
    rcases ao with _ | ad
    · simp [Extern.Bytes.bytesOf]; rfl
    · simp [Extern.Bytes.bytesOf, Extern.Bytes.loadBytes]; rfl
  · obtain ⟨b, o, rfl, _, _, hc⟩ := hcell h0
    have := run_loadBytes (w := w) (g := b) (o := o) a.length a .empty 0 rfl hc
    simp only [Extern.Bytes.bytesOf]
    rw [Nat.add_zero] at this
    rw [this, List.drop_zero]
    congr 1
    simp [ByteArray.empty, ByteArray.emptyWithCapacity]
    rfl
theorem run_cmp (h1 : BS w D u a) (h2 : BS w D' v b) : (Extern.BytealgCompare.compare #[u, v]).run Tryz.prog w = .ok (.int .i64 (cb a b)) w := by
  change Sem.run Tryz.prog (do pure (goInt (Extern.BytealgCompare.cmp (← Extern.Bytes.bytesOf u) (← Extern.Bytes.bytesOf v)))) w = _
  simp only [Sem.run_bind, Sem.run_pure, run_bytesOf h1, run_bytesOf h2, Result.andThen]
  rw [Lib.cmp_eq]
  rfl
set_option maxRecDepth 20000 in
theorem compare_B (h1 : BS w D u a) (h2 : BS w D' v b) : Calls Tryz.prog 62 #[u, v] w fun e w' => e = .returned (.int .i64 (cb a b)) ∧ w' = w := by
  have hrun := run_cmp h1 h2
  clear h1 h2
  go_enter Tryz.func62, Tryz.ntmps62
  go_wp2
  rw [run_callFunc_extern Tryz.func95 (by kernel_rfl) (by kernel_rfl) (by kernel_rfl) (e := Extern.BytealgCompare.compare) (by kernel_rfl), hrun]
  simp only [Result.andThen]
  rw [Oper.upon_value]
  go_wp2
  go_ret
  exact ⟨rfl, rfl⟩
theorem u8nat (l : List UInt8) : List.map ((fun n : Int => UInt8.ofNat n.toNat) ∘ fun b : UInt8 => (b.toNat : Int)) l = l := by
  rw [show ((fun n : Int => UInt8.ofNat n.toNat) ∘ fun b : UInt8 => (b.toNat : Int)) = id from funext fun b => by simp]
  simp
theorem run_str (h : BS w D v a) : (convert 23 9 v).run Tryz.prog w = .ok (.string ⟨a.toArray⟩) w := by
  obtain ⟨ao, cap, rfl, hcap, hcm, hcell⟩ := h
  rw [List.length_map] at hcap hcell ⊢
  rcases Nat.eq_zero_or_pos a.length with h0 | h0
  · have : a = [] := List.eq_nil_of_length_eq_zero h0
    subst this
    rw [run_convert_bytes_string w _ _ _ _ _ cap Tryz.underlying23 Tryz.underlying5 Tryz.underlying9]
    cases ao <;> simp [Conv.bytesToString, loadCells]
    all_goals rfl
  · obtain ⟨b, o, rfl, _, _, hc⟩ := hcell h0
    rw [run_convert_bytes_arg w _ _ Tryz.underlying23 Tryz.underlying5 b o a.length cap (a.map fun b => (b.toNat : Int)) (by simp) (fun i hi => by
      rw [hc i hi]; simp [List.getD, u8, List.getElem?_eq_getElem hi]) _ Tryz.underlying9]
    simp [strOfNums, List.map_map, u8nat]
set_option maxRecDepth 20000 in
theorem equal_B (h1 : BS w D u a) (h2 : BS w D' v b) : Calls Tryz.prog 71 #[u, v] w fun e w' => e = .returned (.bool (decide (a = b))) ∧ w' = w := by
  have g1 := run_str h1
  have g2 := run_str h2
  clear h1 h2
  go_enter Tryz.func71, Tryz.ntmps71
  go_wp2_with fail
  go_ret
  refine ⟨?_, rfl⟩
  rw [show decide (a = b) = (a == b) by rw [Bool.eq_iff_iff]; simp]
  rfl
end
end Go.Proofs.YtfhapbggngdckaaGreat
