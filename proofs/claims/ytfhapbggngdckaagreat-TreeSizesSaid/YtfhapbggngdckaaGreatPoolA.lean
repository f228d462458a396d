/- The pool: lost, of, drop. -/
import Derived.Test.YtfhapbggngdckaaGreatPool
namespace Go.Proofs.YtfhapbggngdckaaGreat
set_option linter.unusedSimpArgs false
set_option linter.unusedVariables false
open Go.RowKit

set_option maxHeartbeats 400000 in
theorem lost_any (pb : Nat) (w : World) (v : Bool) (h : w.cell? ⟨pb, 6, none⟩ = some (.bool v)) :
    Calls Tryz.prog 92 #[.pointer (some ⟨pb, 0, none⟩)] w fun e w' => e = .returned (.bool v) ∧ w' = w := by
  go_enter Tryz.func92, Tryz.ntmps92
  go_wp2_with fail
  go_ret
  exact ⟨rfl, rfl⟩
/-- What a page is. -/
def stOf (st : List Int) (n : Int) : Int := if 0 ≤ n ∧ n < st.length then st.getD n.toNat 0 else 0
set_option maxHeartbeats 400000 in
theorem of_any (pb ib : Nat) (st : List Int) (n : Int) (w : World) (h : w.cell? ⟨pb, 3, none⟩ = some (.slice (some ⟨ib, 0, none⟩) st.length st.length)) (hr : Row w ib 124 (st.map (Value.int .i64))) (hl : st.length ≤ 65536) :
    Calls Tryz.prog 93 #[.pointer (some ⟨pb, 0, none⟩), .int .i64 n] w fun e w' => e = .returned (.int .i64 (stOf st n)) ∧ w' = w := by
  by_cases h0 : 0 ≤ n
  · by_cases h1 : n < st.length
    · obtain ⟨j, rfl⟩ := Int.eq_ofNat_of_zero_le h0
      have hj : j < st.length := by omega
      have hc : w.cell? ⟨ib, j, none⟩ = some (.int .i64 (stOf st j)) := by
        rw [hr.cell, List.getElem?_map, List.getElem?_eq_getElem hj]
        simp [stOf, hj]
      clear hr
      go_enter Tryz.func93, Tryz.ntmps93
      go_wp2_with fail
      go_ret
      exact ⟨rfl, rfl⟩
    · have HS : Hid (stOf st n = 0) := by show _ = _; unfold stOf; rw [if_neg (by omega)]
      clear hr
      go_enter Tryz.func93, Tryz.ntmps93
      go_wp2_with fail
      go_ret
      exact ⟨by rw [HS.out]; rfl, rfl⟩
  · have HS : Hid (stOf st n = 0) := by show _ = _; unfold stOf; rw [if_neg (by omega)]
    clear hr
    go_enter Tryz.func93, Tryz.ntmps93
    go_wp2_with fail
    go_ret
    exact ⟨by rw [HS.out]; rfl, rfl⟩
theorem zero_frp (w : World) : (zeroValue 204).run Tryz.prog w = .ok (.pointer none) w := by kernel_rfl

/-- The frames without n. -/
def fdel (n : Int) (fs : List (Int × Fr)) : List (Int × Fr) := fs.filter (fun p => p.1 != n)
theorem fmap_fdel (n : Int) : ∀ (fs : List (Int × Fr)), (fs.map (·.1)).Nodup → fmap (fdel n fs) = imDel n (fmap fs)
  | [], _ => rfl
  | p :: r, h => by
    simp only [List.map_cons, List.nodup_cons] at h
    have ih := fmap_fdel n r h.2
    show fmap ((p :: r).filter _) = imDel n ((p.1, frPtr p.2) :: fmap r)
    unfold imDel
    by_cases hp : n = p.1
    · rw [if_pos hp, List.filter_cons_of_neg (by simp [hp])]
      have : r.filter (fun q => q.1 != n) = r := by
        rw [List.filter_eq_self]
        intro q hq
        simp only [bne_iff_ne, ne_eq]
        rintro rfl
        exact h.1 (by rw [← hp]; exact List.mem_map.2 ⟨q, hq, rfl⟩)
      rw [this]
    · rw [if_neg hp, List.filter_cons_of_pos (by simp; exact fun e => hp e.symm)]
      show (p.1, frPtr p.2) :: fmap (fdel n r) = _
      rw [ih]
theorem mem_fdel {n : Int} {fs : List (Int × Fr)} {p : Int × Fr} : p ∈ fdel n fs ↔ p ∈ fs ∧ p.1 ≠ n := by simp [fdel]
theorem mem_fst_fdel {n x : Int} {fs : List (Int × Fr)} : x ∈ (fdel n fs).map (·.1) ↔ x ∈ fs.map (·.1) ∧ x ≠ n := by
  simp only [List.mem_map, mem_fdel]
  constructor
  · rintro ⟨p, ⟨h1, h2⟩, rfl⟩; exact ⟨⟨p, h1, rfl⟩, h2⟩
  · rintro ⟨⟨p, h1, rfl⟩, h2⟩; exact ⟨p, ⟨h1, h2⟩, rfl⟩
theorem imGet_fmap_none {n : Int} {fs : List (Int × Fr)} : imGet n (fmap fs) = none ↔ n ∉ fs.map (·.1) := by
  constructor
  · intro h hm
    have := imGet_mem_iff.2 (show n ∈ (fmap fs).map (·.1) by rw [fmap_fst]; exact hm)
    rw [h] at this; cases this
  · intro h; exact imGet_of_not_mem n _ (by rw [fmap_fst]; exact h)
theorem imGet_fmap_some {n : Int} {f : Fr} : ∀ {fs : List (Int × Fr)}, (fs.map (·.1)).Nodup → (n, f) ∈ fs → imGet n (fmap fs) = some (frPtr f)
  | [], _, h => by cases h
  | p :: r, hn, h => by
    simp only [List.map_cons, List.nodup_cons] at hn
    show imGet n ((p.1, frPtr p.2) :: fmap r) = _
    unfold imGet
    rcases List.mem_cons.1 h with h | h
    · subst h; simp
    · rw [if_neg (fun e => hn.1 (by rw [← e]; exact List.mem_map.2 ⟨_, h, rfl⟩))]
      exact imGet_fmap_some hn.2 h

theorem _root_.List.eraseIdx_map' {α β : Type} (f : α → β) : ∀ (l : List α) (i : Nat), (l.map f).eraseIdx i = (l.eraseIdx i).map f
  | [], _ => rfl
  | x :: r, 0 => rfl
  | x :: r, i + 1 => by simp [List.eraseIdx_map' f r i]
section
variable {w w' : World} {F FD : Nat → Prop} {g : PG} {uv : Value} {ul : List Int} {fs : List (Int × Fr)} {st : List Int} {sec : Nat → List UInt8} {k : Nat}
set_option maxRecDepth 20000 in
set_option maxHeartbeats 400000 in
theorem drop_miss (h : Raw w F FD g uv ul fs st sec k) (n : Int) (hn : n ∉ fs.map (·.1)) :
    Calls Tryz.prog 94 #[.pointer (some ⟨g.pb, 0, none⟩), .int .i64 n] w fun e w' => e = .returned (.tuple #[]) ∧ w' = w := by
  have c4 := h.row.cell 4
  simp only [List.getElem?_cons_zero, List.getElem?_cons_succ] at c4
  have hlk := h.fm.lookup2 (P := Tryz.prog) Tryz.underlying121 Tryz.underlying3 zero_frp n
  rw [imGet_fmap_none.2 hn] at hlk
  simp only [Option.getD_none, Option.isSome_none] at hlk
  clear h hn
  obtain ⟨pb, pool, db, off, sz, ib, fb⟩ := g
  simp only at c4 hlk ⊢
  go_enter Tryz.func94, Tryz.ntmps94
  go_wp2_with fail
  go_end0
  exact ⟨rfl, rfl⟩

set_option maxRecDepth 20000 in
set_option maxHeartbeats 800000 in
theorem drop_hit (h : Raw w F FD g uv ul fs st sec k) (n : Int) (f : Fr) (hn : (n, f) ∈ fs) :
    Calls Tryz.prog 94 #[.pointer (some ⟨g.pb, 0, none⟩), .int .i64 n] w fun e w' => e = .returned (.tuple #[]) ∧ ∃ uv' ul', Raw w' F FD g uv' ul' (fdel n fs) st sec k ∧ Keep (fun b => b = g.pb ∨ b = g.fb ∨ uv.ownBlock = some b) w w' := by
  have c4 := h.row.cell 4
  have c5 := h.row.cell 5
  simp only [List.getElem?_cons_zero, List.getElem?_cons_succ] at c4 c5
  have hlk := h.fm.lookup2 (P := Tryz.prog) Tryz.underlying121 Tryz.underlying3 zero_frp n
  rw [imGet_fmap_some h.fnd hn] at hlk
  simp only [Option.getD_some, Option.isSome_some, frPtr] at hlk
  have hmem : n ∈ ul := (h.umem n).2 (List.mem_map.2 ⟨_, hn, rfl⟩)
  obtain ⟨j, hj, hjn⟩ := List.getElem_of_mem hmem
  have hix : ixOf n ul = j := ixOf_hit hj hjn (fun i hi he => (List.pairwise_iff_getElem.1 h.und) i j (by omega) hj hi (he.trans hjn.symm))
  have hus := h.us
  have HH := Lib.hid h
  have HU := Lib.hid hus
  have hul := h.ulen
  have hfl := flen_le (st := st) h.fnd h.keys
  have hsm := h.small.1
  clear h hus
  obtain ⟨pb, pool, db, off, sz, ib, fb⟩ := g
  simp only at c4 c5 hlk ⊢
  have HI := Lib.hid hix
  have HJ := Lib.hid hjn
  have HF := Lib.hid hn
  have f5 := HH.out.row.frozen 5
  clear hix hmem hjn hn
  go_enter Tryz.func94, Tryz.ntmps94
  go_wp2_with (first
    | (go_at_call 122; refine (index_I _ _ _ _ _ HU.out.rs).mono ?_; rintro e w1 ⟨rfl, rfl⟩; rw [HI.out])
    | (go_at_call 90; refine (delete_I _ _ _ _ j HU.out (cells1_int _ _) (by rw [List.length_map]; omega)).mono ?_; rintro e w2 ⟨uv2, rfl, ho2, hb2, hk2⟩; obtain ⟨ao2, cc2, hf2⟩ := ho2.form; rw [List.eraseIdx_map'] at ho2 hf2; rw [List.length_map] at hf2; subst hf2; have hne := Lib.hid (own_ne_row HU.out HH.out.row (by decide)); have r2 := HH.out.row.keep hk2 hne.out; have d4 := r2.cell 4; have d5 := r2.cell 5; have f5 := r2.frozen 5; simp only [List.getElem?_cons_zero, List.getElem?_cons_succ] at d4 d5; have R2 := Lib.hid r2; have HO2 := Lib.hid ho2; have HB2 := Lib.hid hb2; have HK2 := Lib.hid hk2; have m3 := (HH.out.fm.keep hk2 (own_map_ne HU.out HH.out.fm)).keep ((Keep.refl (Just pb) w2).setCell (p := ⟨pb, 5, none⟩) (fun _ => rfl) (.slice ao2 (ul.eraseIdx j).length cc2)) (HH.out.fm.ne_row HH.out.row); have M3 := Lib.hid m3; clear r2 ho2 hb2 hk2 c4 c5 m3)
    | (at_delete; refine wpList_delete_I (P := Tryz.prog) rfl _ _ Tryz.underlying121 Tryz.underlying3 rfl M3.out rfl rfl ?_; intro w4 m4 k4; have M4 := Lib.hid m4; have K4 := Lib.hid k4; clear m4 k4))
  go_end0
  have hh := HH.out
  have kk : Keep (fun b => b = pb ∨ b = fb ∨ uv.ownBlock = some b) w1 w4 :=
    ((HK2.out.mono (fun _ _ h => .inr (.inr h))).setCell (p := ⟨pb, 5, none⟩) (fun _ => .inl rfl) _).trans (K4.out.mono (G := fun b => b = pb ∨ b = fb ∨ uv.ownBlock = some b) (fun _ _ h => .inr (.inl h))) (fun _ _ h => h)
  refine ⟨rfl, ⟨.slice ao2 (ul.eraseIdx j).length cc2, ul.eraseIdx j, hh.turn kk (fun _ h => h) ?_ ?_ ?_ (hh.und.sublist (List.eraseIdx_sublist _ _)) ?_ (fun p hp => (mem_fdel.1 hp).1)⟩, kk⟩
  · have := (R2.out.set 5 (.slice ao2 (ul.eraseIdx j).length cc2)).keep K4.out (hh.fm.ne_row hh.row).symm
    simpa using this
  · rw [fmap_fdel n fs hh.fnd]; exact M4.out
  · refine (HO2.out.keep ((Keep.refl (Just pb) w2).setCell (p := ⟨pb, 5, none⟩) (fun _ => rfl) _) ?_).keep K4.out ?_
    · intro b _ hb hj
      cases hj
      exact hne.out (HB2.out.symm.trans hb)
    · intro b _ hb hj
      cases hj
      exact own_map_ne HU.out hh.fm (HB2.out.symm.trans hb)
  · intro x
    rw [mem_eraseIdx ul j hj hh.und, HJ.out, mem_fst_fdel, hh.umem]
end
end Go.Proofs.YtfhapbggngdckaaGreat
