/- The pages, as whoever uses them sees them: Room, Fresh, Alloc, Put, Free, Get. -/
import Derived.Test.YtfhapbggngdckaaGreatPoolP
namespace Go.Proofs.YtfhapbggngdckaaGreat
open Go.RowKit

/-- Pages: what each is, what those that are used hold; k bounds the disk's pending writes. -/
structure PagesOK (w : World) (F : Nat → Prop) (pb : Nat) (st : List Int) (img : Nat → List UInt8) (k : Nat) : Prop where
  ex : ∃ FD g uv ul fs sec, g.pb = pb ∧ Raw w F FD g uv ul fs st sec k ∧ Content g.off fs st sec img (fun _ => False) ∧ fs.length ≤ g.pool ∧ 1 ≤ g.pool ∧ g.pool < 9223372036854775807
/-- What a call on pages leaves: at most c writes more are pending. -/
structure PTo (w : World) (F : Nat → Prop) (pb : Nat) (st : List Int) (img : Nat → List UInt8) (k c : Nat) (X : World → (Nat → Prop) → Prop) (w' : World) : Prop where
  ex : ∃ F' k', PagesOK w' F' pb st img k' ∧ k' ≤ k + c ∧ Keep F w w' ∧ (∀ b, F' b → F b ∨ w.heap.size ≤ b) ∧ X w' F'
section
variable {w w' : World} {F : Nat → Prop} {pb : Nat} {st : List Int} {img : Nat → List UInt8} {k : Nat}
theorem PagesOK.keep (h : PagesOK w F pb st img k) {G : Nat → Prop} (hk : Keep G w w') (hG : ∀ b, F b → ¬ G b) : PagesOK w' F pb st img k := by
  obtain ⟨⟨FD, g, uv, ul, fs, sec, h1, h2, h3⟩⟩ := h
  exact ⟨⟨FD, g, uv, ul, fs, sec, h1, h2.keep hk hG, h3⟩⟩
theorem PagesOK.lt (h : PagesOK w F pb st img k) : ∀ b, F b → b < w.heap.size := by
  obtain ⟨⟨FD, g, uv, ul, fs, sec, h1, h2, h3⟩⟩ := h
  exact h2.lt
theorem PagesOK.small (h : PagesOK w F pb st img k) : st.length ≤ 65536 := by
  obtain ⟨⟨FD, g, uv, ul, fs, sec, h1, h2, h3⟩⟩ := h
  exact h2.small.1
theorem PagesOK.len (h : PagesOK w F pb st img k) {n : Nat} (hn : UsedSt st n) : (img n).length = 1024 := by
  obtain ⟨⟨FD, g, uv, ul, fs, sec, h1, h2, hc, _⟩⟩ := h
  by_cases hin : (n : Int) ∈ fs.map (·.1)
  · obtain ⟨⟨x, f⟩, hf, e⟩ := List.mem_map.1 hin
    simp only at e
    subst e
    rw [← (hc.frame n f hf (fun h => h)).2.1]
    exact (h2.frs _ hf).len
  · exact (hc.out n hn (fun h => h) hin).1
theorem PagesOK.cells (h : PagesOK w F pb st img k) : ∃ ib, w.cell? ⟨pb, 3, none⟩ = some (.slice (some ⟨ib, 0, none⟩) st.length st.length) ∧ Row w ib 124 (st.map (Value.int .i64)) ∧ w.cell? ⟨pb, 6, none⟩ = some (.bool false) ∧ F pb := by
  obtain ⟨⟨FD, g, uv, ul, fs, sec, rfl, h2, hc, _⟩⟩ := h
  exact ⟨g.ib, h2.row.cell 3, h2.is, h2.row.cell 6, h2.bpb.1⟩
/-- What a page is has turned. -/
theorem Raw.setSt {FD : Nat → Prop} {g : PG} {uv : Value} {ul : List Int} {fs : List (Int × Fr)} {sec : Nat → List UInt8} (h : Raw w F FD g uv ul fs st sec k) (n : Nat) (s : Int) :
    Raw (w.setCell ⟨g.ib, n, none⟩ (.int .i64 s)) F FD g uv ul fs (st.set n s) sec k := by
  have hk : Keep (Just g.ib) w (w.setCell ⟨g.ib, n, none⟩ (.int .i64 s)) := (Keep.refl (Just g.ib) w).setCell (p := ⟨g.ib, n, none⟩) (fun _ => rfl) _
  have hl : (st.set n s).length = st.length := by simp
  refine { row := by rw [hl]; exact h.row.keep hk (fun e => h.is.ne h.row (by decide) e.symm), disk := h.disk.keep hk (fun b _ hb hj => by cases hj; exact h.bib.2 hb), is := ?_, fm := h.fm.keep hk (fun e => h.fm.ne_row h.is e), us := h.us.keep hk (fun b _ hb hj => by cases hj; exact own_ne_row h.us h.is (by decide) hb)
           und := h.und, umem := h.umem, frs := ?_, sub := h.sub, lt := fun b hb => by simpa using h.lt b hb, bpb := h.bpb, bib := h.bib, bfb := h.bfb, fits := by rw [hl]; exact h.fits, keys := by rw [hl]; exact h.keys }
  · have := h.is.set n (.int .i64 s)
    rwa [← List.map_set] at this
  · intro p hp
    have hf := h.frs p hp
    refine ⟨hf.row.keep hk (fun e => hf.row.ne h.is (by decide) e), hf.inb, hf.own.keep hk (fun b _ hb hj => by cases hj; exact own_ne_row hf.own h.is (by decide) hb), hf.len⟩

/-- How many are free. -/
def roomOf (st : List Int) : Nat := (st.filter (· == 0)).length
set_option maxRecDepth 20000 in
set_option maxHeartbeats 400000 in
theorem room_any (h : PagesOK w F pb st img k) : Calls Tryz.prog 73 #[.pointer (some ⟨pb, 0, none⟩)] w fun e w' => e = .returned (.int .i64 (roomOf st)) ∧ w' = w := by
  obtain ⟨ib, c3, hr, _, _⟩ := h.cells
  have hsm := h.small
  have HR := Lib.hid hr
  have hq : ∀ w : World, (binOp .neq 29 (.pointer (some ⟨pb, 0, none⟩)) (.pointer none)).run Tryz.prog w = .ok (.bool true) w := fun w => by kernel_rfl
  clear hr h
  go_enter Tryz.func73, Tryz.ntmps73
  go_wp2_with fail
  go_loop [3, 13] (fun t i => ∃ j : Nat, j ≤ st.length ∧ i = .int .i64 j ∧ t = .int .i64 (roomOf (st.take j))) (fun _ i => st.length - (intOf i).toNat)
  case atStart => exact ⟨0, Nat.zero_le _, rfl, rfl⟩
  case round =>
    obtain ⟨j, hj, rfl, rfl⟩ := hrel
    by_cases hlt : j < st.length
    · have hck : w.cell? ⟨ib, j, none⟩ = some (.int .i64 st[j]) := by rw [HR.out.cell, List.getElem?_map, List.getElem?_eq_getElem hlt]; rfl
      have ht : st.take (j + 1) = st.take j ++ [st[j]] := by rw [List.take_succ_eq_append_getElem hlt]
      have hle : roomOf (st.take j) ≤ j := by
        unfold roomOf
        have := List.length_filter_le (fun x => x == 0) (st.take j)
        simp at this ⊢; omega
      by_cases hz : st[j] = 0
      · have hs : roomOf (st.take (j + 1)) = roomOf (st.take j) + 1 := by
          unfold roomOf; rw [ht, List.filter_append]; simp [hz]
        have HS := Lib.hid hs
        have hb : (st[j] == 0) = true := by simpa using hz
        clear hs ht hz
        go_wp2_with fail
        go_round
        case rel => exact ⟨j + 1, by omega, by go_num, by rw [HS.out]; go_num⟩
        case measure => simp [intOf]; omega
      · have hs : roomOf (st.take (j + 1)) = roomOf (st.take j) := by
          unfold roomOf; rw [ht, List.filter_append]; simp [hz]
        have HS := Lib.hid hs
        have hb : (st[j] == 0) = false := by simpa using hz
        clear hs ht hz
        go_wp2_with fail
        go_round
        case rel => exact ⟨j + 1, by omega, by go_num, by rw [HS.out]⟩
        case measure => simp [intOf]; omega
    · have he : roomOf (st.take j) = roomOf st := by rw [List.take_of_length_le (by omega)]
      have HE := Lib.hid he
      clear he
      go_wp2_with fail
      go_ret
      exact ⟨by rw [← HE.out]; rfl, rfl⟩
set_option maxRecDepth 20000 in
set_option maxHeartbeats 400000 in
theorem fresh_any (h : PagesOK w F pb st img k) (n : Int) : Calls Tryz.prog 79 #[.pointer (some ⟨pb, 0, none⟩), .int .i64 n] w fun e w' => e = .returned (.bool (stOf st n == 2)) ∧ w' = w := by
  obtain ⟨ib, c3, hr, _, _⟩ := h.cells
  have hsm := h.small
  have HO := Lib.hid (of_any pb ib st n w c3 hr hsm)
  have hq : ∀ w : World, (binOp .neq 29 (.pointer (some ⟨pb, 0, none⟩)) (.pointer none)).run Tryz.prog w = .ok (.bool true) w := fun w => by kernel_rfl
  clear hr h c3
  go_enter Tryz.func79, Tryz.ntmps79
  go_wp2_with (go_at_call 93; refine HO.out.mono ?_; rintro e w1 ⟨rfl, rfl⟩)
  go_ret
  exact ⟨rfl, rfl⟩
end
end Go.Proofs.YtfhapbggngdckaaGreat
