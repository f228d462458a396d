/- slices.Sort of ints that a slice owns: off the shelf. -/
import Derived.Test.YtfhapbggngdckaaGreatClone
import Derived.Shelf.Sort.Plain
import Derived.Shelf.Lay
import Derived.Sort.OwnSortedInts
namespace Go.Proofs
shelf_lay Lays.n189 Nm 189 at Tryz as Tryz.lays189
end Go.Proofs
namespace Go.Proofs.YtfhapbggngdckaaGreat
open Go.RowKit Go.Sort
theorem sort_any (w : World) (B : Nat → Prop) (v : Value) (zs : List Int) (h : Own w B 3 v (zs.map (Value.int .i64))) (hne : zs ≠ []) (hl : zs.length ≤ 1099511627776) :
    Calls Tryz.prog 88 #[v] w fun e w' => e = .returned (.tuple #[]) ∧ ∃ ys : List Int, ys = zs.mergeSort (fun x y => decide (x ≤ y)) ∧ Own w' B 3 v (ys.map (Value.int .i64)) ∧ Keep (fun k => v.ownBlock = some k) w w' := by
  rcases h with ⟨_, h⟩ | ⟨g, rest, rfl, hB, hr, hm⟩
  · exact absurd (List.map_eq_nil_iff.1 h) hne
  have hb : w.heap[g]? = some (.cells (zs.map (Value.int .i64) ++ rest).toArray 3 (0, 0)) := hr
  have h1 := holds_of_blockI (ss := zs) hb (by simp [List.take_left'])
  have hc := Any.slices_Sort_int Tryz.lays189 g 0 (zs.length + rest.length) zs w h1 hr.lt (by omega)
  rw [List.length_map]
  refine hc.mono ?_
  rintro e w' ⟨rfl, n, os, rfl⟩
  refine ⟨rfl, _, rfl, ?_, Keep.of_grown (grownBy_sortedI _)|>.mono (fun i _ e => by simpa [Value.ownBlock] using e)⟩
  have h2 := ownsRow_sortedI (w := w) (base := g) (g := g) (cap := zs.length + rest.length) (n := n) (os := os) (ss := zs) (ts := zs.mergeSort fun x y => decide (x ≤ y)) (by simp) (Nat.le_refl _) hb (by omega) (by simpa [maxLen] using hm) (by simp)
  have h3 : Own (grow (putRow (Value.int .i64) (Sort.ahead w n) g 0 (zs.mergeSort fun x y => decide (x ≤ y)).toArray) os) (From g) 3 _ _ := Own.of_ownsRow h2
  rcases h3 with ⟨e, _⟩ | ⟨g2, rest2, e, _, hr2, hm2⟩
  · simp at e
  · simp only [Value.slice.injEq, Option.some.injEq, Addr.mk.injEq, and_true] at e
    exact .inr ⟨g2, rest2, by simp only [Value.slice.injEq, Option.some.injEq, Addr.mk.injEq, and_true]; exact e, by rw [← e.1]; exact hB, hr2, hm2⟩
end Go.Proofs.YtfhapbggngdckaaGreat
