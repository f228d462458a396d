/- slices.Delete(s, i, i+1) at []int, [][]byte: on a slice that the call owns. -/
import Derived.Test.YtfhapbggngdckaaGreatClone
namespace Go.Proofs.YtfhapbggngdckaaGreat
set_option linter.unusedSimpArgs false
set_option linter.unusedVariables false
open Go.RowKit
theorem setRow_setRow (w : World) (g : Nat) (a b : Array Value) : (w.setRow g a).setRow g b = w.setRow g b := by
  unfold World.setRow
  simp only [World.mk.injEq, and_true, true_and]
  apply Array.ext
  · simp
  · intro i h1 h2
    simp only [Array.getElem_modify]
    split
    · generalize w.heap[i]'(by simpa using h2) = o
      cases o <;> rfl
    · rfl
set_option maxRecDepth 20000 in
set_option maxHeartbeats 400000 in
theorem delete_I (w : World) (B : Nat → Prop) (v : Value) (xs : List Value) (i : Nat) (h : Own w B 3 v xs) (h1 : Cells1 xs) (hi : i < xs.length) :
    Calls Tryz.prog 90 #[v, .int .i64 i, .int .i64 ((i : Int) + 1)] w fun e w' => ∃ v', e = .returned v' ∧ Own w' B 3 v' (xs.eraseIdx i) ∧ v'.ownBlock = v.ownBlock ∧ Keep (fun k => v.ownBlock = some k) w w' := by
  rcases h with ⟨rfl, rfl⟩ | ⟨g, rest, rfl, hB, hr, hm⟩
  · simp at hi
  have HB := Lib.hid hB
  have HR := Lib.hid hr
  have H1 := Lib.hid h1
  clear hB hr h1
  go_enter Tryz.func90, Tryz.ntmps90
  go_wp2_with fail
  have q1 : (i : Int) ≤ (xs.length : Int) + (rest.length : Int) := by omega
  have q2 : (i : Int) + 1 ≤ (xs.length : Int) := by omega
  have q3 : (0 : Int) ≤ (i : Int) + 1 := by omega
  obtain ⟨L, hL⟩ : ∃ L, L + 1 = xs.length := ⟨xs.length - 1, by omega⟩
  have hrun : (Builtin.append_ #[62, 62] 62 #[.slice (some ⟨g, 0, none⟩) i (xs.length + rest.length), .slice (if xs.length + rest.length = i + 1 then some ⟨g, 0, none⟩ else some ⟨g, i + 1, none⟩) (xs.length - (i + 1)) (xs.length + rest.length - (i + 1))]).run Tryz.prog w.drew =
      .ok (.slice (some ⟨g, 0, none⟩) L (xs.length + rest.length)) (w.drew.setRow g (xs.eraseIdx i ++ (xs.drop L ++ rest)).toArray) := by
    have hl : (xs.drop (i + 1)).length = xs.length - (i + 1) := by simp
    have hr : RS w.drew (Just g) (.slice (if xs.length + rest.length = i + 1 then some ⟨g, 0, none⟩ else some ⟨g, i + 1, none⟩) (xs.length - (i + 1)) (xs.length + rest.length - (i + 1))) (xs.drop (i + 1)) := by
      refine ⟨_, _, by rw [hl], by rw [hl]; omega, by omega, fun hp => ?_⟩
      rw [hl] at hp
      refine ⟨g, i + 1, by rw [if_neg (by omega)], rfl, HR.out.lt, fun j hj => ?_⟩
      rw [hl] at hj
      rw [World.cell?_drew, HR.out.cell, List.getElem?_append_left (by omega), List.getElem?_drop]
    have hrow : Row w.drew g 3 (xs.take i ++ (xs.drop i ++ rest)) := by rw [← List.append_assoc, List.take_append_drop]; exact HR.out
    have := run_append_row etI 62 hrow hr (cells1_drop H1.out _) (by simp; omega)
    rw [hl] at this
    simp only [List.length_take, List.length_append, List.length_drop] at this
    rw [show min i xs.length = i by omega, show i + (xs.length - i + rest.length) = xs.length + rest.length by omega, show i + (xs.length - (i + 1)) = L by omega] at this
    rw [this]
    congr 2
    rw [List.eraseIdx_eq_take_drop_succ, List.append_assoc]
    congr 3
    rw [List.drop_append, List.drop_drop, show i + (xs.length - (i + 1)) = L by omega, List.length_drop, show xs.length - (i + 1) - (xs.length - i) = 0 by omega, List.drop_zero]
  have hclr : (Builtin.clear_ #[62] 0 #[.slice (some ⟨g, L, none⟩) 1 (xs.length + rest.length - L)]).run Tryz.prog (w.drew.setRow g (xs.eraseIdx i ++ (xs.drop L ++ rest)).toArray) =
      .ok (.tuple #[]) (w.drew.setRow g (xs.eraseIdx i ++ (.int .i64 0 :: rest)).toArray) := by
    have hrow : Row (w.drew.setRow g (xs.eraseIdx i ++ (xs.drop L ++ rest)).toArray) g 3 (xs.eraseIdx i ++ (xs.drop L ++ rest)) := HR.out.drew.setRow _
    have he : (xs.eraseIdx i).length = L := by rw [List.length_eraseIdx_of_lt hi]; omega
    have := run_clear_row (off := L) (m := 1) (c := xs.length + rest.length - L) etI 0 hrow (by omega) (by simp [he]; omega) rfl
    rw [this]
    congr 1
    have hd : (xs.drop L).length = 1 := by simp; omega
    have e2 : (xs.eraseIdx i ++ (xs.drop L ++ rest)).take L = xs.eraseIdx i := by rw [← he, List.take_left]
    have e3 : (xs.eraseIdx i ++ (xs.drop L ++ rest)).drop (L + 1) = rest := by
      rw [← List.append_assoc, List.drop_left' (by simp [he]; omega)]
    rw [e2, e3, setRow_setRow]
    rfl
  have HRUN := Lib.hid hrun
  clear hrun
  go_still_tail 6, (by kernel_rfl)
  change wpList _ _ _ _ _ w.drew
  refine wpList_append_eq rfl _ _ rfl rfl rfl HRUN.out ?_
  generalize (if xs.length + rest.length = i + 1 then (some ⟨g, 0, none⟩ : Option Addr) else some ⟨g, i + 1, none⟩) = A
  have HLL := Lib.hid hL
  have q4 : L ≤ xs.length := by omega
  have q5 : ¬ xs.length + rest.length = L := by omega
  have q6 : xs.length - L = 1 := by omega
  clear hL q1 q2 q3
  go_wp2_with fail
  · go_ret
    have he : (xs.eraseIdx i).length = L := by have := HLL.out; rw [List.length_eraseIdx_of_lt hi]; omega
    refine ⟨_, rfl, .inr ⟨g, .int .i64 0 :: rest, ?_, HB.out, HR.out.drew.setRow _, ?_⟩, rfl, ((Keep.refl (Just g) _).drew.setRow (fun _ => rfl) _).mono (fun k _ h => by cases h; rfl)⟩
    · rw [he, show L + (Value.int .i64 0 :: rest).length = xs.length + rest.length by have := HLL.out; simp; omega]
      rfl
    · rw [he]; have := HLL.out; simp; omega
set_option maxRecDepth 20000 in
set_option maxHeartbeats 400000 in
theorem delete_BB (w : World) (B : Nat → Prop) (v : Value) (xs : List Value) (i : Nat) (h : Own w B 23 v xs) (h1 : Cells1 xs) (hi : i < xs.length) :
    Calls Tryz.prog 89 #[v, .int .i64 i, .int .i64 ((i : Int) + 1)] w fun e w' => ∃ v', e = .returned v' ∧ Own w' B 23 v' (xs.eraseIdx i) ∧ v'.ownBlock = v.ownBlock ∧ Keep (fun k => v.ownBlock = some k) w w' := by
  rcases h with ⟨rfl, rfl⟩ | ⟨g, rest, rfl, hB, hr, hm⟩
  · simp at hi
  have HB := Lib.hid hB
  have HR := Lib.hid hr
  have H1 := Lib.hid h1
  clear hB hr h1
  go_enter Tryz.func89, Tryz.ntmps89
  go_wp2_with fail
  have q1 : (i : Int) ≤ (xs.length : Int) + (rest.length : Int) := by omega
  have q2 : (i : Int) + 1 ≤ (xs.length : Int) := by omega
  have q3 : (0 : Int) ≤ (i : Int) + 1 := by omega
  obtain ⟨L, hL⟩ : ∃ L, L + 1 = xs.length := ⟨xs.length - 1, by omega⟩
  have hrun : (Builtin.append_ #[115, 115] 115 #[.slice (some ⟨g, 0, none⟩) i (xs.length + rest.length), .slice (if xs.length + rest.length = i + 1 then some ⟨g, 0, none⟩ else some ⟨g, i + 1, none⟩) (xs.length - (i + 1)) (xs.length + rest.length - (i + 1))]).run Tryz.prog w.drew =
      .ok (.slice (some ⟨g, 0, none⟩) L (xs.length + rest.length)) (w.drew.setRow g (xs.eraseIdx i ++ (xs.drop L ++ rest)).toArray) := by
    have hl : (xs.drop (i + 1)).length = xs.length - (i + 1) := by simp
    have hr : RS w.drew (Just g) (.slice (if xs.length + rest.length = i + 1 then some ⟨g, 0, none⟩ else some ⟨g, i + 1, none⟩) (xs.length - (i + 1)) (xs.length + rest.length - (i + 1))) (xs.drop (i + 1)) := by
      refine ⟨_, _, by rw [hl], by rw [hl]; omega, by omega, fun hp => ?_⟩
      rw [hl] at hp
      refine ⟨g, i + 1, by rw [if_neg (by omega)], rfl, HR.out.lt, fun j hj => ?_⟩
      rw [hl] at hj
      rw [World.cell?_drew, HR.out.cell, List.getElem?_append_left (by omega), List.getElem?_drop]
    have hrow : Row w.drew g 23 (xs.take i ++ (xs.drop i ++ rest)) := by rw [← List.append_assoc, List.take_append_drop]; exact HR.out
    have := run_append_row etBB 115 hrow hr (cells1_drop H1.out _) (by simp; omega)
    rw [hl] at this
    simp only [List.length_take, List.length_append, List.length_drop] at this
    rw [show min i xs.length = i by omega, show i + (xs.length - i + rest.length) = xs.length + rest.length by omega, show i + (xs.length - (i + 1)) = L by omega] at this
    rw [this]
    congr 2
    rw [List.eraseIdx_eq_take_drop_succ, List.append_assoc]
    congr 3
    rw [List.drop_append, List.drop_drop, show i + (xs.length - (i + 1)) = L by omega, List.length_drop, show xs.length - (i + 1) - (xs.length - i) = 0 by omega, List.drop_zero]
  have hclr : (Builtin.clear_ #[115] 0 #[.slice (some ⟨g, L, none⟩) 1 (xs.length + rest.length - L)]).run Tryz.prog (w.drew.setRow g (xs.eraseIdx i ++ (xs.drop L ++ rest)).toArray) =
      .ok (.tuple #[]) (w.drew.setRow g (xs.eraseIdx i ++ (.slice none 0 0 :: rest)).toArray) := by
    have hrow : Row (w.drew.setRow g (xs.eraseIdx i ++ (xs.drop L ++ rest)).toArray) g 23 (xs.eraseIdx i ++ (xs.drop L ++ rest)) := HR.out.drew.setRow _
    have he : (xs.eraseIdx i).length = L := by rw [List.length_eraseIdx_of_lt hi]; omega
    have := run_clear_row (off := L) (m := 1) (c := xs.length + rest.length - L) etBB 0 hrow (by omega) (by simp [he]; omega) rfl
    rw [this]
    congr 1
    have hd : (xs.drop L).length = 1 := by simp; omega
    have e2 : (xs.eraseIdx i ++ (xs.drop L ++ rest)).take L = xs.eraseIdx i := by rw [← he, List.take_left]
    have e3 : (xs.eraseIdx i ++ (xs.drop L ++ rest)).drop (L + 1) = rest := by
      rw [← List.append_assoc, List.drop_left' (by simp [he]; omega)]
    rw [e2, e3, setRow_setRow]
    rfl
  have HRUN := Lib.hid hrun
  clear hrun
  go_still_tail 6, (by kernel_rfl)
  change wpList _ _ _ _ _ w.drew
  refine wpList_append_eq rfl _ _ rfl rfl rfl HRUN.out ?_
  generalize (if xs.length + rest.length = i + 1 then (some ⟨g, 0, none⟩ : Option Addr) else some ⟨g, i + 1, none⟩) = A
  have HLL := Lib.hid hL
  have q4 : L ≤ xs.length := by omega
  have q5 : ¬ xs.length + rest.length = L := by omega
  have q6 : xs.length - L = 1 := by omega
  clear hL q1 q2 q3
  go_wp2_with fail
  · go_ret
    have he : (xs.eraseIdx i).length = L := by have := HLL.out; rw [List.length_eraseIdx_of_lt hi]; omega
    refine ⟨_, rfl, .inr ⟨g, .slice none 0 0 :: rest, ?_, HB.out, HR.out.drew.setRow _, ?_⟩, rfl, ((Keep.refl (Just g) _).drew.setRow (fun _ => rfl) _).mono (fun k _ h => by cases h; rfl)⟩
    · rw [he, show L + (Value.slice none 0 0 :: rest).length = xs.length + rest.length by have := HLL.out; simp; omega]
      rfl
    · rw [he]; have := HLL.out; simp; omega
end Go.Proofs.YtfhapbggngdckaaGreat
