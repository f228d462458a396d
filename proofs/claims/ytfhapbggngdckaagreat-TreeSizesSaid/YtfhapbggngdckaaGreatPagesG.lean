/- Pages: Get. -/
import Derived.Test.YtfhapbggngdckaaGreatPagesB
namespace Go.Proofs.YtfhapbggngdckaaGreat
set_option linter.unusedSimpArgs false
set_option linter.unusedVariables false
open Go.RowKit
section
variable {w w' : World} {F : Nat → Prop} {pb : Nat} {st : List Int} {img : Nat → List UInt8} {k : Nat}
set_option maxRecDepth 20000 in
set_option maxHeartbeats 400000 in
theorem get_bad (h : PagesOK w F pb st img k) (n : Int) (hn : stOf st n ≠ 1 ∧ stOf st n ≠ 2) :
    Calls Tryz.prog 82 #[.pointer (some ⟨pb, 0, none⟩), .int .i64 n] w fun e w' => e = .returned (.tuple #[.slice none 0 0, .int .i64 1]) ∧ w' = w := by
  obtain ⟨ib0, c3, hr0, c6, _⟩ := h.cells
  have hsm0 := h.small
  have HOF := Lib.hid (of_any pb ib0 st n w c3 hr0 hsm0)
  obtain ⟨h1, h2⟩ := hn
  have q1 : (stOf st n == 1) = false := by simpa using h1
  have q2 : (stOf st n == 2) = false := by simpa using h2
  have q3 : (stOf st n != 1) = true := by simpa using h1
  have q4 : (stOf st n != 2) = true := by simpa using h2
  generalize stOf st n = s at *
  clear h hr0 c3 h1 h2
  go_enter Tryz.func82, Tryz.ntmps82
  go_wp2_with (first
    | (go_at_call 92; refine (lost_any _ _ _ c6).mono ?_; rintro e w1 ⟨rfl, rfl⟩)
    | (go_at_call 93; refine HOF.out.mono ?_; rintro e w1 ⟨rfl, rfl⟩))
  go_ret2
  exact ⟨rfl, rfl⟩

/-- A page is in memory: it is taken out, put in ahead, and copied. -/
theorem get_hit_core {FD : Nat → Prop} {g : PG} {uv : Value} {ul : List Int} {fs : List (Int × Fr)} {sec : Nat → List UInt8} (hr : Raw w F FD g uv ul fs st sec k) (hc : Content g.off fs st sec img (fun _ => False)) (hp : fs.length ≤ g.pool) (hp1 : 1 ≤ g.pool) (hpl : g.pool < 9223372036854775807)
    (n : Nat) (hu : UsedSt st n) (f : Fr) (hf : ((n : Int), f) ∈ fs) (hk : k < 1099511627770) :
    Calls Tryz.prog 94 #[.pointer (some ⟨g.pb, 0, none⟩), .int .i64 n] w fun e w1 => e = .returned (.tuple #[]) ∧
      Calls Tryz.prog 114 #[.pointer (some ⟨g.pb, 0, none⟩), .pointer (some ⟨f.b, 0, none⟩)] w1 fun e w2 => e = .returned (.bool true) ∧ PTo w F g.pb st img k 4 (fun w2 F2 => FrOK w2 (fun b => F2 b) n f ∧ f.data = img n) w2 := by
  have hd := hc.frame n f hf (fun h => h)
  refine (drop_hit hr (n : Int) f hf).mono fun e w1 he => ?_
  obtain ⟨rfl, uv', ul', hr1, hk1⟩ := he
  refine ⟨rfl, ?_⟩
  have hfo := (hr.frs _ hf).keepDrop hr hk1
  have hc1 : Content g.off (fdel n fs) st sec img (fun m => m = n) := (hc.drop n).more (fun m h => by rcases h with h | h; exact h.elim; exact h)
  have hP := put_any hr1 (lim := fun m => m = n) hc1 (Nat.le_trans (length_fdel_le _ _) hp) hp1 hpl n hu.lt (fun _ => Iff.rfl) f hfo (fun b hb => hb.2) (fun b hb => hr1.lt b hb.1) hk
  refine hP.mono fun e w2 he => ?_
  obtain ⟨rfl, hput⟩ := he
  refine ⟨rfl, ?_⟩
  obtain ⟨⟨F2, FD2, uv2, ul2, fs2, sec2, k2, hr2, hk2, hc2, hl2, hin2, hs2, hkp2, hF2⟩⟩ := hput
  have hland := hc2.land hin2 hr2.fnd hu (fun _ _ => Iff.rfl) (fun hfd j hj => (hs2 j hj).trans (hd.2.2 hfd j hj))
  have hup : upd img n f.data = img := by
    funext i
    unfold upd
    split
    · rename_i e; subst e; exact hd.2.1
    · rfl
  rw [hup] at hland
  have hsz := hk1.size
  refine ⟨F2, k2, ⟨⟨FD2, g, uv2, ul2, fs2, sec2, rfl, hr2, hland, hl2, hp1, hpl⟩⟩, hk2, (hr.keep3 hk1).trans hkp2 (fun _ _ h => h), ?_, (hr2.frs _ hin2).more (fun b _ h => h.1), hd.2.1⟩
  intro b hb
  rcases hF2 b hb with h | h | h
  · exact .inl h
  · exact .inl h.1
  · exact .inr (by omega)

theorem pto_frame {n : Int} {f : Fr} {c m : Nat} (h : PTo w F pb st img k c (fun w2 F2 => FrOK w2 (fun b => F2 b) n f ∧ f.data = img m) w') : Row w' f.b 206 [.int .i64 n, f.bv, .bool f.dirty] ∧ Own w' (fun _ => True) 5 f.bv (f.data.map u8) ∧ f.data.length = 1024 := by
  obtain ⟨⟨F2, k2, h1, h2, h3, h4, h5, h6⟩⟩ := h
  exact ⟨h5.row, h5.own.more (fun _ _ _ => trivial), h5.len⟩
/-- What Get leaves: the page's bytes, in memory of their own. -/
structure GTo (w : World) (F : Nat → Prop) (pb : Nat) (st : List Int) (img : Nat → List UInt8) (k : Nat) (n : Nat) (v : Value) (w' : World) : Prop where
  it : PTo w F pb st img k 4 (fun w' F' => Own w' (fun b => w.heap.size ≤ b ∧ ¬ F' b) 5 v ((img n).map u8)) w'

set_option maxRecDepth 20000 in
set_option maxHeartbeats 800000 in
theorem get_hit {FD : Nat → Prop} {g : PG} {uv : Value} {ul : List Int} {fs : List (Int × Fr)} {sec : Nat → List UInt8} (hr : Raw w F FD g uv ul fs st sec k) (hc : Content g.off fs st sec img (fun _ => False)) (hp : fs.length ≤ g.pool) (hp1 : 1 ≤ g.pool) (hpl : g.pool < 9223372036854775807)
    (n : Nat) (hu : UsedSt st n) (f : Fr) (hf : ((n : Int), f) ∈ fs) (hk : k < 1099511627770) :
    Calls Tryz.prog 82 #[.pointer (some ⟨g.pb, 0, none⟩), .int .i64 n] w fun e w' => ∃ v, e = .returned (.tuple #[v, .int .i64 0]) ∧ GTo w F g.pb st img k n v w' := by
  have HOF := Lib.hid (of_any g.pb g.ib st n w (hr.row.cell 3) hr.is hr.small.1)
  have hso : stOf st n = 1 ∨ stOf st n = 2 := by
    unfold stOf
    have := hu.lt
    rw [if_pos (by omega)]
    rcases hu with h | h <;> simp [List.getD, h]
  have HCORE := Lib.hid (get_hit_core hr hc hp hp1 hpl n hu f hf hk)
  have c4 := hr.row.cell 4
  have c6 := hr.row.cell 6
  simp only [List.getElem?_cons_zero, List.getElem?_cons_succ] at c4 c6
  have hlk := hr.fm.lookup2 (P := Tryz.prog) Tryz.underlying121 Tryz.underlying3 zero_frp n
  rw [imGet_fmap_some hr.fnd hf] at hlk
  simp only [Option.getD_some, Option.isSome_some, frPtr] at hlk
  generalize hs : stOf st n = s at *
  have hq : (s == 1) = false → (s == 2) = true := by
    rcases hso with h | h <;> subst h <;> decide
  clear hr hc hf hu hs
  obtain ⟨pb, pool, db, off, sz, ib, fb⟩ := g
  simp only at c4 c6 hlk HOF HCORE hp hp1 hpl ⊢
  have fin : ∀ (e : Ending) (w2 : World), PTo w F pb st img k 4 (fun w2 F2 => FrOK w2 (fun b => F2 b) n f ∧ f.data = img n) w2 → ∀ v, ∀ w3 : World, Own w3 (From w2.heap.size) 5 v (f.data.map u8) → Keep No w2 w3 → GTo w F pb st img k n v w3 := by
    rintro e w2 ⟨F2, k2, h1, h2, h3, h4, h5, h6⟩ v w3 ho hk3
    refine ⟨⟨F2, k2, h1.keep hk3 (fun _ _ h => h), h2, h3.trans (hk3.any F) (fun _ _ h => h), h4, ?_⟩⟩
    rw [← h6]
    refine ho.more fun b hb h => ⟨?_, fun hf => ?_⟩
    · have := h3.size
      have : w2.heap.size ≤ b := h
      omega
    · have := h1.lt b hf
      have : w2.heap.size ≤ b := h
      omega
  have FIN := Lib.hid fin
  clear fin
  rcases hso with rfl | rfl
  all_goals
    clear hq
    go_enter Tryz.func82, Tryz.ntmps82
    go_wp2_with (first
      | (go_at_call 92; refine (lost_any _ _ _ c6).mono ?_; rintro e w1 ⟨rfl, rfl⟩)
      | (go_at_call 93; refine HOF.out.mono ?_; rintro e w1 ⟨rfl, rfl⟩)
      | (go_at_call 94; refine HCORE.out.mono ?_; rintro e w2 ⟨rfl, hput⟩; have HPUT := Lib.hid hput; clear hput)
      | (go_at_call 114; refine HPUT.out.mono ?_; rintro e w3 ⟨rfl, hpt⟩; have HPT := Lib.hid hpt; have b1 := (pto_frame hpt).1.cell 1; have b2 := (pto_frame hpt).2.1; simp only [List.getElem?_cons_zero, List.getElem?_cons_succ] at b1; have B2 := Lib.hid b2; clear hpt b2)
      | (go_at_call 51; refine (clone_B _ _ _ _ B2.out.rs (cells1_u8 _) (by rw [List.length_map, (pto_frame HPT.out).2.2]; decide)).mono ?_; rintro e w4 ⟨v4, rfl, ho4, hk4⟩; have HO4 := Lib.hid ho4; have HK4 := Lib.hid hk4; clear ho4 hk4))
    go_ret2
    exact ⟨v4, rfl, FIN.out (.returned v4) w3 HPT.out v4 w4 HO4.out HK4.out⟩

theorem take_chunk (l : List UInt8) (j : Nat) (h : l.length = 1024) (hj : j < 4) : l.take (256 * j) ++ chunk j l = l.take (256 * (j + 1)) := by
  unfold chunk
  rw [show 256 * (j + 1) = 256 * j + 256 by omega, List.take_add]
/-- Reading the disk: the pool stays as it is. -/
theorem Raw.readStep {FD : Nat → Prop} {g : PG} {uv : Value} {ul : List Int} {fs : List (Int × Fr)} {sec : Nat → List UInt8} (h : Raw w F FD g uv ul fs st sec k) (hd : DiskOK w' g.db g.sz FD sec k) (hk : Keep (Just g.db) w w') : Raw w' F FD g uv ul fs st sec k := by
  have hdb := h.disk.fdb
  have hB : ∀ b, (F b ∧ ¬ FD b) → ¬ Just g.db b := fun b hb hj => by cases hj; exact hb.2 hdb
  exact { row := h.row.keep hk (hB _ h.bpb), disk := hd, is := h.is.keep hk (hB _ h.bib), fm := h.fm.keep hk (hB _ h.bfb), us := h.us.keep hk (fun b _ hb => hB b (h.us.blk hb).1), und := h.und, umem := h.umem
          frs := fun p hp => (h.frs p hp).keep hk (fun b _ hb => hB b hb), sub := h.sub, lt := fun b hb => Nat.lt_of_lt_of_le (h.lt b hb) hk.size, bpb := h.bpb, bib := h.bib, bfb := h.bfb, fits := h.fits, keys := h.keys }
theorem miss_put {wr : World} {FD : Nat → Prop} {g : PG} {uv : Value} {ul : List Int} {fs : List (Int × Fr)} {sec : Nat → List UInt8} (hr : Raw wr F FD g uv ul fs st sec k) (hc : Content g.off fs st sec img (fun _ => False)) (hp : fs.length ≤ g.pool) (hp1 : 1 ≤ g.pool) (hpl : g.pool < 9223372036854775807)
    (n : Nat) (hu : UsedSt st n) (hs : ∀ j, j < 4 → sec (g.off + 4 * n + j) = chunk j (img n)) (hl : (img n).length = 1024) (hk : k < 1099511627770) (hkp : Keep (Just g.db) w wr) (hF : ∀ b, F b → b < w.heap.size) (ao : Option Addr) (cap : Nat)
    (ho : Own wr (From w.heap.size) 5 (.slice ao 1024 cap) ((img n).map u8)) :
    Calls Tryz.prog 114 #[.pointer (some ⟨g.pb, 0, none⟩), .pointer (some ⟨wr.heap.size, 0, none⟩)] (wr.alloc (.cells #[.int .i64 n, .slice ao 1024 cap, .bool false] 206)) fun e w2 => e = .returned (.bool true) ∧
      PTo w F g.pb st img k 4 (fun w2 F2 => FrOK w2 (fun b => F2 b) n ⟨wr.heap.size, .slice ao 1024 cap, false, img n⟩ ∧ (⟨wr.heap.size, .slice ao 1024 cap, false, img n⟩ : Fr).data = img n) w2 := by
  obtain ⟨W, hW⟩ : ∃ W, W = wr.alloc (.cells #[.int .i64 n, .slice ao 1024 cap, .bool false] 206) := ⟨_, rfl⟩
  rw [← hW]
  have kW : Keep No wr W := by rw [hW]; exact (Keep.refl No wr).alloc _
  have hsW : W.heap.size = wr.heap.size + 1 := by rw [hW]; simp
  have hsz := hkp.size
  have hfo : FrOK W (fun b => w.heap.size ≤ b ∧ b < W.heap.size) n ⟨wr.heap.size, .slice ao 1024 cap, false, img n⟩ := by
    refine ⟨?_, ⟨hsz, by show wr.heap.size < _; omega⟩, ?_, hl⟩
    · rw [hW]; simpa using Row.new wr 206 [.int .i64 n, .slice ao 1024 cap, .bool false]
    · rw [hW]
      exact (ho.keep ((Keep.refl No _).alloc _) (fun _ _ _ h => h)).more (fun b hb h => ⟨h, by simpa using hb⟩)
  have hP := put_any (hr.keep kW (fun _ _ h => h)) (lim := fun m => m = n) (hc.limbo (n := n) (st' := st) (fun _ _ => Iff.rfl)) hp hp1 hpl n hu.lt (fun _ => Iff.rfl) _ hfo (fun b hb hfd => by have := hF b (hr.sub b hfd); omega) (fun b hb => hb.2) hk
  refine hP.mono fun e w3 he => ?_
  obtain ⟨rfl, hput⟩ := he
  have hK : Keep F w W := (hkp.mono (G := F) (fun b _ h => by cases h; exact hr.sub _ hr.disk.fdb)).trans (kW.any F) (fun _ _ h => h)
  obtain ⟨⟨F3, k3, h1, h2, h3, h4, h5⟩⟩ := putTo_done (w := w) hK (fun b hb => .inr hb.1) hput hu hp1 hpl (fun _ => hs)
  have hup : upd img n (img n) = img := by
    funext i
    unfold upd
    split
    · rename_i e; rw [e]
    · rfl
  simp only at h1
  rw [hup] at h1
  exact ⟨rfl, ⟨F3, k3, h1, h2, h3, h4, h5, rfl⟩⟩
theorem pto_true {f : Fr} {n : Nat} {w2 : World} (h : PTo w F pb st img k 4 (fun w2 F2 => FrOK w2 (fun b => F2 b) n ⟨f.b, f.bv, f.dirty, img n⟩ ∧ True) w2) : PTo w F pb st img k 4 (fun w2 F2 => FrOK w2 (fun b => F2 b) n ⟨f.b, f.bv, f.dirty, img n⟩ ∧ (⟨f.b, f.bv, f.dirty, img n⟩ : Fr).data = img n) w2 := by
  obtain ⟨⟨F2, k2, h1, h2, h3, h4, h5, h6⟩⟩ := h
  exact ⟨F2, k2, h1, h2, h3, h4, h5, rfl⟩
theorem get_fin {f : Fr} {n : Nat} {w2 : World} (h : PTo w F pb st img k 4 (fun w2 F2 => FrOK w2 (fun b => F2 b) n f ∧ f.data = img n) w2) {v : Value} {w3 : World} (ho : Own w3 (From w2.heap.size) 5 v (f.data.map u8)) (hk3 : Keep No w2 w3) : GTo w F pb st img k n v w3 := by
  obtain ⟨F2, k2, h1, h2, h3, h4, h5, h6⟩ := h
  refine ⟨⟨F2, k2, h1.keep hk3 (fun _ _ h => h), h2, h3.trans (hk3.any F) (fun _ _ h => h), h4, ?_⟩⟩
  rw [← h6]
  refine ho.more fun b hb h => ⟨?_, fun hf => ?_⟩
  · have := h3.size
    have : w2.heap.size ≤ b := h
    omega
  · have := h1.lt b hf
    have : w2.heap.size ≤ b := h
    omega
theorem read_own {FD : Nat → Prop} {g : PG} {uv : Value} {ul : List Int} {fs : List (Int × Fr)} {sec : Nat → List UInt8} {B : Nat → Prop} {v : Value} {l : List UInt8} (h : Raw w F FD g uv ul fs st sec k) (ho : Own w B 5 v (l.map u8)) (hk : Keep (Just g.db) w.drew w') : Own w' B 5 v (l.map u8) := by
  obtain ⟨⟨nb, lb, pv, pn, pxs, a0, a1, a2, m, hrow, _⟩, _⟩ := h.disk
  exact (ho.keep ((Keep.refl No w).drew) (fun _ _ _ h => h)).keep hk (fun b _ hb hj => by cases hj; exact own_u8_ne ho hrow (by decide) hb)
theorem read_len {img1 sec1 : List UInt8} {j : Nat} (hl : img1.length = 1024) (hs : sec1 = chunk j img1) (hj : j ≤ 4) : (((img1.take (256 * j)).map u8).length + (sec1.map u8).length) * 1 ≤ 140737488355328 := by
  subst hs
  simp [chunk]
  omega
set_option maxRecDepth 40000 in
set_option maxHeartbeats 1600000 in
theorem get_miss {FD : Nat → Prop} {g : PG} {uv : Value} {ul : List Int} {fs : List (Int × Fr)} {sec : Nat → List UInt8} (hr : Raw w F FD g uv ul fs st sec k) (hc : Content g.off fs st sec img (fun _ => False)) (hp : fs.length ≤ g.pool) (hp1 : 1 ≤ g.pool) (hpl : g.pool < 9223372036854775807)
    (n : Nat) (hu : UsedSt st n) (hin : (n : Int) ∉ fs.map (·.1)) (hk : k < 1099511627770) :
    Calls Tryz.prog 82 #[.pointer (some ⟨g.pb, 0, none⟩), .int .i64 n] w fun e w' => ∃ v, e = .returned (.tuple #[v, .int .i64 0]) ∧ GTo w F g.pb st img k n v w' := by
  have HOF := Lib.hid (of_any g.pb g.ib st n w (hr.row.cell 3) hr.is hr.small.1)
  have hso : stOf st n = 1 ∨ stOf st n = 2 := by
    unfold stOf
    have := hu.lt
    rw [if_pos (by omega)]
    rcases hu with h | h <;> simp [List.getD, h]
  obtain ⟨hlen, hsec⟩ := hc.out n hu (fun h => h) hin
  have c4 := hr.row.cell 4
  have c6 := hr.row.cell 6
  simp only [List.getElem?_cons_zero, List.getElem?_cons_succ] at c4 c6
  have hlk := hr.fm.lookup2 (P := Tryz.prog) Tryz.underlying121 Tryz.underlying3 zero_frp n
  rw [imGet_fmap_none.2 hin] at hlk
  simp only [Option.getD_none, Option.isSome_none] at hlk
  have hnl := hu.lt
  have hsm := hr.small
  have hfits := hr.fits
  have HR := Lib.hid hr
  have HC := Lib.hid hc
  have HU := Lib.hid hu
  have HS := Lib.hid hsec
  have HL := Lib.hid hlen
  clear hr hc hu hin hsec hlen
  generalize hs : stOf st n = s at *
  clear hs
  obtain ⟨pb, pool, db, off, sz, ib, fb⟩ := g
  simp only at c4 c6 hlk HOF hp hp1 hpl hsm hfits HS HC ⊢
  rcases hso with rfl | rfl
  all_goals
    go_enter Tryz.func82, Tryz.ntmps82
    go_wp2_with (first
      | (go_at_call 92; refine (lost_any _ _ _ c6).mono ?_; rintro e w ⟨rfl, rfl⟩)
      | (go_at_call 93; refine HOF.out.mono ?_; rintro e w ⟨rfl, rfl⟩))
    clear HOF
    go_loopw [9, 45] (fun b i wr' => ∃ j : Nat, j ≤ 4 ∧ i = .int .i64 j ∧ Hid (Raw wr' F FD ⟨pb, pool, db, off, sz, ib, fb⟩ uv ul fs st sec k) ∧ Hid (Keep (Just db) w wr') ∧ Hid (Own wr' (From w.heap.size) 5 b (((img n).take (256 * j)).map u8))) (fun _ i _ => 4 - (intOf i).toNat)
    case atStart => exact ⟨0, by omega, rfl, HR.out, Keep.refl _ _, Own.nil _ _ _⟩
    case round =>
      obtain ⟨j, hj, rfl, hr, hkp, ho⟩ := hrel
      have c0 := hr.out.row.cell 0
      have c1 := hr.out.row.cell 1
      simp only [List.getElem?_cons_zero, List.getElem?_cons_succ] at c0 c1
      by_cases hlt : j < 4
      · have q1 : IntKind.i64.wrap (4 * (n : Int)) = 4 * (n : Int) := IntWalk.i64_in _ (by omega)
        have q2 : IntKind.i64.wrap ((off : Int) + 4 * (n : Int)) = (off : Int) + 4 * (n : Int) := IntWalk.i64_in _ (by omega)
        have q3 : IntKind.i64.wrap ((off : Int) + 4 * (n : Int) + (j : Int)) = (off : Int) + 4 * (n : Int) + (j : Int) := IntWalk.i64_in _ (by omega)
        go_wp2_with fail
        go_region_law (go_simp; go_at_call 115; rw [show ((off : Int) + 4 * (n : Int) + (j : Int)) = ((off + 4 * n + j : Nat) : Int) from by omega]; refine (diskRead _ db sz FD sec k _ (hr.out.disk.keep ((Keep.refl No wr).drew) (fun _ _ _ h => h)) (by omega)).mono ?_; rintro e w2 ⟨s2, rfl, hd2, hk2, ho2⟩; have HD2 := Lib.hid hd2; have HK2 := Lib.hid hk2; have HO2 := Lib.hid ho2; clear hd2 hk2 ho2)
        all_goals
          clear q1 q2 q3 c0 c1
          go_wp2_with (at_builtin; refine wpList_append (v := u9) (u := s2) rfl _ _ etB rfl rfl rfl (read_own hr.out ho.out HK2.out) HO2.out.rs (cells1_u8 _) (by decide) (read_len HL.out (HS.out j hlt) hj) ?_; intro v3 w3 ho3 hk3 hb3; have HO3 := Lib.hid ho3; have HK3 := Lib.hid hk3; clear ho3 hk3 hb3)
          go_roundw
          case rel =>
            have hsz : w.heap.size ≤ wr.heap.size := hkp.out.size
            have hsz2 : wr.heap.size ≤ w2.heap.size := HK2.out.size
            refine ⟨j + 1, by omega, by go_num, ?_, ?_, ?_⟩
            · exact ((hr.out.keep ((Keep.refl No wr).drew) (fun _ _ h => h)).readStep HD2.out HK2.out).keep HK3.out (fun b hb he => by
                have h1 := (ho.out.blk he).1
                have h2 := HR.out.lt b hb
                have : w.heap.size ≤ b := h1
                omega)
            · refine hkp.out.trans (G := fun b => Just db b ∨ u9.ownBlock = some b) (((Keep.refl (fun b => Just db b ∨ u9.ownBlock = some b) wr).drew.trans HK2.out (fun _ _ h => .inl h)).trans HK3.out (fun _ _ h => .inr h)) ?_
              rintro b hb (h | h)
              · exact h
              · have h1 := (ho.out.blk h).1
                have : w.heap.size ≤ b := h1
                omega
            · have h3 := HO3.out
              rw [HS.out j hlt, ← List.map_append, take_chunk _ _ HL.out hlt] at h3
              exact h3.more (fun b hb h => by
                rcases h with h | h
                · exact h
                · show w.heap.size ≤ b; omega)
          case measure => simp [intOf]; omega
      · obtain rfl : j = 4 := by omega
        have hl4 : (img n).take (256 * 4) = img n := List.take_of_length_le (by rw [HL.out]; omega)
        rw [hl4] at ho
        obtain ⟨ao, cap, hu9⟩ := ho.out.form
        rw [List.length_map, HL.out] at hu9
        subst hu9
        clear hl4 c0 c1 c4 c6 hlk
        go_wp2_with (first
          | (go_at_call 114; refine (miss_put hr.out HC.out hp hp1 hpl n HU.out HS.out HL.out hk hkp.out HR.out.lt ao cap ho.out).mono ?_; rintro e w3 ⟨rfl, hpt⟩; have HPT := Lib.hid hpt; have b2 := (pto_frame hpt).2.1; simp only at b2; have B2 := Lib.hid b2; clear hpt b2)
          | (go_at_call 51; refine (clone_B _ _ _ _ B2.out.rs (cells1_u8 _) (by rw [List.length_map, HL.out]; decide)).mono ?_; rintro e w4 ⟨v4, rfl, ho4, hk4⟩; have HO4 := Lib.hid ho4; have HK4 := Lib.hid hk4; clear ho4 hk4))
        go_ret2
        exact ⟨v4, rfl, get_fin (f := ⟨wr.heap.size, .slice ao 1024 cap, false, img n⟩) (pto_true (f := ⟨wr.heap.size, .slice ao 1024 cap, false, img n⟩) HPT.out) HO4.out HK4.out⟩
/-- Get of a page that is used. -/
theorem get_any (h : PagesOK w F pb st img k) (n : Nat) (hu : UsedSt st n) (hk : k < 1099511627770) :
    Calls Tryz.prog 82 #[.pointer (some ⟨pb, 0, none⟩), .int .i64 n] w fun e w' => ∃ v, e = .returned (.tuple #[v, .int .i64 0]) ∧ GTo w F pb st img k n v w' := by
  obtain ⟨⟨FD, g, uv, ul, fs, sec, rfl, hr, hc, hp, hp1, hpl⟩⟩ := h
  by_cases hin : (n : Int) ∈ fs.map (·.1)
  · obtain ⟨⟨x, f⟩, hf, e⟩ := List.mem_map.1 hin
    simp only at e
    subst e
    exact get_hit hr hc hp hp1 hpl n hu f hf hk
  · exact get_miss hr hc hp hp1 hpl n hu hin hk
end
end Go.Proofs.YtfhapbggngdckaaGreat
