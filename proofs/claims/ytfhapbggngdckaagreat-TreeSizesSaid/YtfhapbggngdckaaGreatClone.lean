/- slices.Clone at []byte, []int, [][]byte. -/
import Derived.Test.YtfhapbggngdckaaGreatRows
import Derived.Test.YtfhapbggngdckaaGreatSlice
namespace Go.Proofs.YtfhapbggngdckaaGreat
open Go.RowKit
theorem etB : ET Tryz.prog 23 5 (.int .u8 0) 1 := ET.mk' Tryz.underlying23 (by kernel_rfl) rfl
theorem etI : ET Tryz.prog 62 3 (.int .i64 0) 8 := ET.mk' Tryz.underlying62 (by kernel_rfl) rfl
theorem etBB : ET Tryz.prog 115 23 (.slice none 0 0) 24 := ET.mk' Tryz.underlying115 (by kernel_rfl) rfl

set_option maxHeartbeats 400000 in
theorem clone_B (w : World) (D : Nat → Prop) (v : Value) (xs : List Value) (h : RS w D v xs) (h1 : Cells1 xs) (hl : xs.length * 1 ≤ 140737488355328) :
    Calls Tryz.prog 51 #[v] w fun e w' => ∃ v', e = .returned v' ∧ Own w' (From w.heap.size) 5 v' xs ∧ Keep No w w' := by
  obtain ⟨ao, cap, rfl, hcap, hm, hcell⟩ := id h
  have hq : ∀ w : World, (binOp .eql 23 (.slice ao xs.length cap) (.slice none 0 0)).run Tryz.prog w = .ok (.bool ao.isNone) w := fun w => Lib.run_eql_slice_nil w _ _ _ _ _ _ _ Tryz.underlying23
  rcases ao with _ | ad
  · have hx : xs = [] := by
      rcases Nat.eq_zero_or_pos xs.length with h0 | h0
      · exact List.eq_nil_of_length_eq_zero h0
      · obtain ⟨b, o, h, _⟩ := hcell h0; cases h
    subst hx
    clear h hcell hl hm hcap h1
    simp only [List.length_nil, Option.isNone_none] at hq
    go_enter Tryz.func51, Tryz.ntmps51
    go_wp2_with fail
    go_ret
    exact ⟨_, rfl, Own.nil _ _ _, Keep.refl _ _⟩
  · simp only [Option.isNone_some] at hq
    clear hcell
    have hE : Own (w.alloc (.cells #[] 5)) (From w.heap.size) 5 (.slice (some ⟨w.heap.size, 0, none⟩) 0 0) [] :=
      .inr ⟨_, [], rfl, Nat.le_refl _, Row.new _ _ _, by simp⟩
    have hR : RS (w.alloc (.cells #[] 5)) D (.slice (some ad) xs.length cap) xs := h.keep ((Keep.refl No w).alloc _) (fun _ _ _ h => h)
    go_enter Tryz.func51, Tryz.ntmps51
    go_wp2_with (at_builtin; refine wpList_append (v := .slice (some ⟨w.heap.size, 0, none⟩) 0 0) rfl _ _ etB rfl rfl rfl hE hR h1 (by decide) (by simpa using hl) ?_; intro v' w' ho hk hb)
    go_ret
    refine ⟨_, rfl, ?_, ?_⟩
    · simp only [List.nil_append] at ho
      exact ho.more (fun b _ hb => by rcases hb with hb | hb; exact hb; simp at hb; show _ ≤ _; omega)
    · exact ((Keep.refl No w).alloc _).trans hk (fun i hi h => by simp [Value.ownBlock] at h; omega)
set_option maxHeartbeats 400000 in
theorem clone_I (w : World) (D : Nat → Prop) (v : Value) (xs : List Value) (h : RS w D v xs) (h1 : Cells1 xs) (hl : xs.length * 8 ≤ 140737488355328) :
    Calls Tryz.prog 128 #[v] w fun e w' => ∃ v', e = .returned v' ∧ Own w' (From w.heap.size) 3 v' xs ∧ Keep No w w' := by
  obtain ⟨ao, cap, rfl, hcap, hm, hcell⟩ := id h
  have hq : ∀ w : World, (binOp .eql 62 (.slice ao xs.length cap) (.slice none 0 0)).run Tryz.prog w = .ok (.bool ao.isNone) w := fun w => Lib.run_eql_slice_nil w _ _ _ _ _ _ _ Tryz.underlying62
  rcases ao with _ | ad
  · have hx : xs = [] := by
      rcases Nat.eq_zero_or_pos xs.length with h0 | h0
      · exact List.eq_nil_of_length_eq_zero h0
      · obtain ⟨b, o, h, _⟩ := hcell h0; cases h
    subst hx
    clear h hcell hl hm hcap h1
    simp only [List.length_nil, Option.isNone_none] at hq
    go_enter Tryz.func128, Tryz.ntmps128
    go_wp2_with fail
    go_ret
    exact ⟨_, rfl, Own.nil _ _ _, Keep.refl _ _⟩
  · simp only [Option.isNone_some] at hq
    clear hcell
    have hE : Own (w.alloc (.cells #[] 3)) (From w.heap.size) 3 (.slice (some ⟨w.heap.size, 0, none⟩) 0 0) [] :=
      .inr ⟨_, [], rfl, Nat.le_refl _, Row.new _ _ _, by simp⟩
    have hR : RS (w.alloc (.cells #[] 3)) D (.slice (some ad) xs.length cap) xs := h.keep ((Keep.refl No w).alloc _) (fun _ _ _ h => h)
    go_enter Tryz.func128, Tryz.ntmps128
    go_wp2_with (at_builtin; refine wpList_append (v := .slice (some ⟨w.heap.size, 0, none⟩) 0 0) rfl _ _ etI rfl rfl rfl hE hR h1 (by decide) (by simpa using hl) ?_; intro v' w' ho hk hb)
    go_ret
    refine ⟨_, rfl, ?_, ?_⟩
    · simp only [List.nil_append] at ho
      exact ho.more (fun b _ hb => by rcases hb with hb | hb; exact hb; simp at hb; show _ ≤ _; omega)
    · exact ((Keep.refl No w).alloc _).trans hk (fun i hi h => by simp [Value.ownBlock] at h; omega)
set_option maxHeartbeats 400000 in
theorem clone_BB (w : World) (D : Nat → Prop) (v : Value) (xs : List Value) (h : RS w D v xs) (h1 : Cells1 xs) (hl : xs.length * 24 ≤ 140737488355328) :
    Calls Tryz.prog 145 #[v] w fun e w' => ∃ v', e = .returned v' ∧ Own w' (From w.heap.size) 23 v' xs ∧ Keep No w w' := by
  obtain ⟨ao, cap, rfl, hcap, hm, hcell⟩ := id h
  have hq : ∀ w : World, (binOp .eql 115 (.slice ao xs.length cap) (.slice none 0 0)).run Tryz.prog w = .ok (.bool ao.isNone) w := fun w => Lib.run_eql_slice_nil w _ _ _ _ _ _ _ Tryz.underlying115
  rcases ao with _ | ad
  · have hx : xs = [] := by
      rcases Nat.eq_zero_or_pos xs.length with h0 | h0
      · exact List.eq_nil_of_length_eq_zero h0
      · obtain ⟨b, o, h, _⟩ := hcell h0; cases h
    subst hx
    clear h hcell hl hm hcap h1
    simp only [List.length_nil, Option.isNone_none] at hq
    go_enter Tryz.func145, Tryz.ntmps145
    go_wp2_with fail
    go_ret
    exact ⟨_, rfl, Own.nil _ _ _, Keep.refl _ _⟩
  · simp only [Option.isNone_some] at hq
    clear hcell
    have hE : Own (w.alloc (.cells #[] 23)) (From w.heap.size) 23 (.slice (some ⟨w.heap.size, 0, none⟩) 0 0) [] :=
      .inr ⟨_, [], rfl, Nat.le_refl _, Row.new _ _ _, by simp⟩
    have hR : RS (w.alloc (.cells #[] 23)) D (.slice (some ad) xs.length cap) xs := h.keep ((Keep.refl No w).alloc _) (fun _ _ _ h => h)
    go_enter Tryz.func145, Tryz.ntmps145
    go_wp2_with (at_builtin; refine wpList_append (v := .slice (some ⟨w.heap.size, 0, none⟩) 0 0) rfl _ _ etBB rfl rfl rfl hE hR h1 (by decide) (by simpa using hl) ?_; intro v' w' ho hk hb)
    go_ret
    refine ⟨_, rfl, ?_, ?_⟩
    · simp only [List.nil_append] at ho
      exact ho.more (fun b _ hb => by rcases hb with hb | hb; exact hb; simp at hb; show _ ≤ _; omega)
    · exact ((Keep.refl No w).alloc _).trans hk (fun i hi h => by simp [Value.ownBlock] at h; omega)
end Go.Proofs.YtfhapbggngdckaaGreat
