/- slices.Index at []int and []state. -/
import Derived.Test.YtfhapbggngdckaaGreatClone
namespace Go.Proofs.YtfhapbggngdckaaGreat
open Go.RowKit

/-- The first place of x in l, or -1. -/
def ixOf (x : Int) (l : List Int) : Int :=
  match l.findIdx? (· == x) with
  | some i => i
  | none => -1
theorem ixOf_hit {x : Int} {l : List Int} {j : Nat} (hj : j < l.length) (he : l[j] = x) (hn : ∀ i (hi : i < j), l[i] ≠ x) : ixOf x l = j := by
  have : l.findIdx? (· == x) = some j := by
    rw [List.findIdx?_eq_some_iff_getElem]
    exact ⟨hj, by simpa using he, fun i hi => by simpa using hn i hi⟩
  simp [ixOf, this]
theorem ixOf_miss {x : Int} {l : List Int} (hn : ∀ i (hi : i < l.length), l[i] ≠ x) : ixOf x l = -1 := by
  have : l.findIdx? (· == x) = none := by
    rw [List.findIdx?_eq_none_iff]
    intro y hy
    obtain ⟨i, hi, rfl⟩ := List.getElem_of_mem hy
    simpa using hn i hi
  simp [ixOf, this]

set_option maxRecDepth 20000 in
set_option maxHeartbeats 400000 in
theorem index_I (w : World) (D : Nat → Prop) (v : Value) (l : List Int) (x : Int) (h : IS w D v l) :
    Calls Tryz.prog 122 #[v, .int .i64 x] w fun e w' => e = .returned (.int .i64 (ixOf x l)) ∧ w' = w := by
  obtain ⟨ao, cap, rfl, hcap, hcm, hcell⟩ := h
  rw [List.length_map] at hcap hcell ⊢
  have HC := Lib.hid hcell
  clear hcell
  go_enter Tryz.func122, Tryz.ntmps122
  go_wp2_with fail
  go_loop [8] (fun i => ∃ k : Nat, k ≤ l.length ∧ i = .int .i64 k ∧ Hid (∀ i (hi : i < k) (hl : i < l.length), l[i] ≠ x)) (fun i => l.length - (intOf i).toNat)
  case atStart => exact ⟨0, Nat.zero_le _, rfl, fun i hi => absurd hi (by omega)⟩
  case round =>
    obtain ⟨k, hk, rfl, HN⟩ := hrel
    by_cases hlt : k < l.length
    · obtain ⟨b, o, rfl, _, _, hc⟩ := HC.out (by omega)
      have hck := hc k hlt
      rw [List.getElem?_map, List.getElem?_eq_getElem hlt, Option.map_some] at hck
      clear hc
      by_cases he : l[k] = x
      · have hr := ixOf_hit hlt he (fun i hi => HN.out i hi (by omega))
        have HR := Lib.hid hr
        have hb : (x == l[k]) = true := by simp [he]
        clear hr
        go_wp2_with fail
        go_ret
        exact ⟨by rw [HR.out]; rfl, rfl⟩
      · have hb : (x == l[k]) = false := by simp; exact fun h => he h.symm
        have HE := Lib.hid he
        clear he
        go_wp2_with fail
        go_round
        case rel => exact ⟨k + 1, by omega, by go_num, fun i hi hl => by
          rcases Nat.lt_or_ge i k with h | h
          · exact HN.out i h hl
          · obtain rfl : i = k := by omega
            exact HE.out⟩
        case measure => simp [intOf]; omega
    · have hr := ixOf_miss (x := x) (l := l) (fun i hi => HN.out i (by omega) hi)
      have HR := Lib.hid hr
      clear hr
      go_wp2_with fail
      go_ret
      exact ⟨by rw [HR.out]; rfl, rfl⟩
set_option maxRecDepth 20000 in
set_option maxHeartbeats 400000 in
theorem index_S (w : World) (D : Nat → Prop) (v : Value) (l : List Int) (x : Int) (h : IS w D v l) :
    Calls Tryz.prog 113 #[v, .int .i64 x] w fun e w' => e = .returned (.int .i64 (ixOf x l)) ∧ w' = w := by
  obtain ⟨ao, cap, rfl, hcap, hcm, hcell⟩ := h
  rw [List.length_map] at hcap hcell ⊢
  have HC := Lib.hid hcell
  clear hcell
  go_enter Tryz.func113, Tryz.ntmps113
  go_wp2_with fail
  go_loop [8] (fun i => ∃ k : Nat, k ≤ l.length ∧ i = .int .i64 k ∧ Hid (∀ i (hi : i < k) (hl : i < l.length), l[i] ≠ x)) (fun i => l.length - (intOf i).toNat)
  case atStart => exact ⟨0, Nat.zero_le _, rfl, fun i hi => absurd hi (by omega)⟩
  case round =>
    obtain ⟨k, hk, rfl, HN⟩ := hrel
    by_cases hlt : k < l.length
    · obtain ⟨b, o, rfl, _, _, hc⟩ := HC.out (by omega)
      have hck := hc k hlt
      rw [List.getElem?_map, List.getElem?_eq_getElem hlt, Option.map_some] at hck
      clear hc
      by_cases he : l[k] = x
      · have hr := ixOf_hit hlt he (fun i hi => HN.out i hi (by omega))
        have HR := Lib.hid hr
        have hb : (x == l[k]) = true := by simp [he]
        clear hr
        go_wp2_with fail
        go_ret
        exact ⟨by rw [HR.out]; rfl, rfl⟩
      · have hb : (x == l[k]) = false := by simp; exact fun h => he h.symm
        have HE := Lib.hid he
        clear he
        go_wp2_with fail
        go_round
        case rel => exact ⟨k + 1, by omega, by go_num, fun i hi hl => by
          rcases Nat.lt_or_ge i k with h | h
          · exact HN.out i h hl
          · obtain rfl : i = k := by omega
            exact HE.out⟩
        case measure => simp [intOf]; omega
    · have hr := ixOf_miss (x := x) (l := l) (fun i hi => HN.out i (by omega) hi)
      have HR := Lib.hid hr
      clear hr
      go_wp2_with fail
      go_ret
      exact ⟨by rw [HR.out]; rfl, rfl⟩
end Go.Proofs.YtfhapbggngdckaaGreat
