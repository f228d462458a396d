/- A new disk, and pages on it. -/
import Derived.Test.YtfhapbggngdckaaGreatPagesG
namespace Go.Proofs.YtfhapbggngdckaaGreat
open Go.RowKit

def zsec : Nat → List UInt8 := fun _ => List.replicate 256 0
set_option maxRecDepth 20000 in
set_option maxHeartbeats 400000 in
theorem new_any (w : World) (n : Nat) (hn : n ≤ 65536) : Calls Tryz.prog 27 #[.int .i64 n] w fun e w' => e = .returned (.pointer (some ⟨w.heap.size + 2, 0, none⟩)) ∧ DiskOK w' (w.heap.size + 2) n (fun b => w.heap.size ≤ b ∧ b < w'.heap.size) zsec 0 ∧ w'.cell? ⟨w.heap.size + 2, 0, none⟩ = some (.int .i64 n) ∧ w'.heap.size = w.heap.size + 3 ∧ Keep No w w' := by
  have hmm := @run_makeMap Tryz.prog
  go_enter Tryz.func27, Tryz.ntmps27
  go_wp2_with fail
  go_ret
  refine ⟨rfl, ?_⟩
  have hm0 := IMap.new w
  have hk1 : Keep No w (w.alloc (.map #[] 0)) := (Keep.refl No w).alloc _
  have hk2 : Keep No (w.alloc (.map #[] 0)) ((w.alloc (.map #[] 0)).alloc (.map #[] 0)) := (Keep.refl No _).alloc _
  have hk3 := (Keep.refl No ((w.alloc (.map #[] 0)).alloc (.map #[] 0))).alloc (.cells #[.int .i64 n, .map (some w.heap.size), .map (some (w.heap.size + 1)), .slice none 0 0, .int .i64 (-1), .bool false, .int .i64 0, .int .i64 0, .int .i64 0] 134)
  have hrow := Row.new ((w.alloc (.map #[] 0)).alloc (.map #[] 0)) 134 [.int .i64 n, .map (some w.heap.size), .map (some (w.heap.size + 1)), .slice none 0 0, .int .i64 (-1), .bool false, .int .i64 0, .int .i64 0, .int .i64 0]
  have hs : ((w.alloc (.map #[] 0)).alloc (.map #[] 0)).heap.size = w.heap.size + 2 := by simp
  rw [hs] at hrow
  have hc := hrow.cell 0
  have hmm1 := (hm0.keep hk2 (fun h => h)).keep hk3 (fun h => h)
  refine ⟨⟨⟨w.heap.size, w.heap.size + 1, .slice none 0 0, 0, [], 0, 0, 0, [], hrow, hmm1, ?_, Nat.le_refl _, ?_, ?_, ?_, fun _ _ _ => rfl⟩, fun _ _ => by simp [zsec], ?_, hn⟩, hc, by simp, (hk1.trans hk2 (fun _ _ h => h)).trans hk3 (fun _ _ h => h)⟩
  · exact ⟨rfl, .inl ⟨rfl, rfl⟩⟩
  · simp; omega
  · intro b hb; simp [Value.ownBlock] at hb
  · intro i _ v hv; simp [imGet] at hv
  · simp
set_option maxHeartbeats 400000 in
theorem size_any (db : Nat) (w : World) (n : Nat) (h : w.cell? ⟨db, 0, none⟩ = some (.int .i64 n)) :
    Calls Tryz.prog 49 #[.pointer (some ⟨db, 0, none⟩)] w fun e w' => e = .returned (.int .i64 n) ∧ w' = w := by
  have hq : ∀ w : World, (binOp .eql 66 (.pointer (some ⟨db, 0, none⟩)) (.pointer none)).run Tryz.prog w = .ok (.bool false) w := fun w => by kernel_rfl
  go_enter Tryz.func49, Tryz.ntmps49
  go_wp2_with fail
  go_ret
  exact ⟨rfl, rfl⟩

theorem etS : ET Tryz.prog 120 124 (.int .i64 0) 8 := ET.mk' Tryz.underlying120 (by kernel_rfl) rfl
/-- Pages on a new disk: all are free. -/
structure Opened (w : World) (cnt : Nat) (pb : Nat) (w' : World) : Prop where
  it : ∃ F, PagesOK w' F pb (List.replicate cnt 0) (fun _ => []) 0 ∧ Keep No w w' ∧ (∀ b, F b → w.heap.size ≤ b)
theorem opened_of (w0 w : World) (n cnt pool : Nat) (hd : DiskOK w (w0.heap.size + 2) n (fun b => w0.heap.size ≤ b ∧ b < w.heap.size) zsec 0) (hs : w.heap.size = w0.heap.size + 3) (hk : Keep No w0 w) (hcn : 4 * cnt ≤ n) (hp : 1 ≤ pool) (hpl : pool < 9223372036854775807) :
    Opened w0 cnt (w.heap.size + 1 + 1) (((w.alloc (.cells (zs (.int .i64 0) cnt).toArray 124)).alloc (.map #[] 0)).alloc (.cells #[.pointer (some ⟨w0.heap.size + 2, 0, none⟩), .int .i64 0, .int .i64 pool, .slice (some ⟨w.heap.size, 0, none⟩) cnt cnt, .map (some (w.heap.size + 1)), .slice none 0 0, .bool false] 123)) := by
  have hz : zs (.int .i64 0) cnt = (List.replicate cnt (0 : Int)).map (Value.int .i64) := by simp [zs]
  have k1 := (Keep.refl No w).alloc (.cells (zs (.int .i64 0) cnt).toArray 124)
  have r1 := Row.new w 124 (zs (.int .i64 0) cnt)
  have s1 : (w.alloc (.cells (zs (.int .i64 0) cnt).toArray 124)).heap.size = w.heap.size + 1 := by simp
  generalize (w.alloc (.cells (zs (.int .i64 0) cnt).toArray 124)) = w1 at *
  have k2 := (Keep.refl No w1).alloc (.map #[] 0)
  have r2 := IMap.new w1
  have s2 : (w1.alloc (.map #[] 0)).heap.size = w1.heap.size + 1 := by simp
  generalize (w1.alloc (.map #[] 0)) = w2 at *
  have k3 := (Keep.refl No w2).alloc (.cells #[.pointer (some ⟨w0.heap.size + 2, 0, none⟩), .int .i64 0, .int .i64 pool, .slice (some ⟨w.heap.size, 0, none⟩) cnt cnt, .map (some (w.heap.size + 1)), .slice none 0 0, .bool false] 123)
  have r3 := Row.new w2 123 [.pointer (some ⟨w0.heap.size + 2, 0, none⟩), .int .i64 0, .int .i64 pool, .slice (some ⟨w.heap.size, 0, none⟩) cnt cnt, .map (some (w.heap.size + 1)), .slice none 0 0, .bool false]
  have s3 : (w2.alloc (.cells #[.pointer (some ⟨w0.heap.size + 2, 0, none⟩), .int .i64 0, .int .i64 pool, .slice (some ⟨w.heap.size, 0, none⟩) cnt cnt, .map (some (w.heap.size + 1)), .slice none 0 0, .bool false] 123)).heap.size = w2.heap.size + 1 := by simp
  rw [show ([.pointer (some ⟨w0.heap.size + 2, 0, none⟩), .int .i64 0, .int .i64 pool, .slice (some ⟨w.heap.size, 0, none⟩) cnt cnt, .map (some (w.heap.size + 1)), .slice none 0 0, .bool false] : List Value).toArray = #[.pointer (some ⟨w0.heap.size + 2, 0, none⟩), .int .i64 0, .int .i64 pool, .slice (some ⟨w.heap.size, 0, none⟩) cnt cnt, .map (some (w.heap.size + 1)), .slice none 0 0, .bool false] from rfl] at r3
  generalize (w2.alloc (.cells #[.pointer (some ⟨w0.heap.size + 2, 0, none⟩), .int .i64 0, .int .i64 pool, .slice (some ⟨w.heap.size, 0, none⟩) cnt cnt, .map (some (w.heap.size + 1)), .slice none 0 0, .bool false] 123)) = w3 at *
  have k13 := (k1.trans k2 (fun _ _ h => h)).trans k3 (fun _ _ h => h)
  have e2 : w2.heap.size = w.heap.size + 1 + 1 := by omega
  rw [e2] at r3
  rw [s1] at r2
  refine ⟨fun b => w0.heap.size ≤ b ∧ b < w3.heap.size, ⟨⟨fun b => w0.heap.size ≤ b ∧ b < w.heap.size, ⟨w.heap.size + 1 + 1, pool, w0.heap.size + 2, 0, n, w.heap.size, w.heap.size + 1⟩, .slice none 0 0, [], [], zsec, rfl, ?_, ?_, Nat.zero_le _, hp, hpl⟩⟩, hk.trans k13 (fun _ _ h => h), fun b hb => hb.1⟩
  · refine { row := by simpa using r3, disk := hd.keep k13 (fun _ _ _ h => h), is := ?_, fm := (r2.keep k3 (fun h => h)), us := Own.nil _ _ _, und := List.nodup_nil, umem := by simp, frs := by simp, sub := fun b hb => ⟨hb.1, by omega⟩, lt := fun b hb => hb.2, bpb := ?_, bib := ?_, bfb := ?_, fits := by simpa using hcn, keys := by simp }
    · have := (r1.keep k2 (fun h => h)).keep k3 (fun h => h)
      rw [hz] at this
      exact this
    · constructor <;> simp <;> omega
    · constructor <;> simp <;> omega
    · constructor <;> simp <;> omega
  · refine ⟨by simp, fun m hu => ?_⟩
    rcases hu with h | h
    · rw [List.getElem?_replicate] at h; split at h <;> simp at h
    · rw [List.getElem?_replicate] at h; split at h <;> simp at h
set_option maxRecDepth 20000 in
set_option maxHeartbeats 400000 in
theorem open_any (w0 w : World) (n cnt pool : Nat) (hd : DiskOK w (w0.heap.size + 2) n (fun b => w0.heap.size ≤ b ∧ b < w.heap.size) zsec 0) (hc : w.cell? ⟨w0.heap.size + 2, 0, none⟩ = some (.int .i64 n)) (hs : w.heap.size = w0.heap.size + 3) (hk : Keep No w0 w)
    (hcn : 4 * cnt ≤ n) (hn : n ≤ 65536) (hp : 1 ≤ pool) (hpl : pool < 9223372036854775807) :
    Calls Tryz.prog 28 #[.pointer (some ⟨w0.heap.size + 2, 0, none⟩), .int .i64 0, .int .i64 cnt, .int .i64 pool, .slice none 0 0] w fun e w' => ∃ pb, e = .returned (.tuple #[.pointer (some ⟨pb, 0, none⟩), .int .i64 0]) ∧ Opened w0 cnt pb w' := by
  have hmm := @run_makeMap Tryz.prog
  have hmk := run_mk (P := Tryz.prog) etS w .i64 .i64 cnt cnt (by omega) (Int.le_refl _) (by omega) (by omega)
  have HD := Lib.hid hd
  have HK := Lib.hid hk
  have hq1 : IntKind.i64.wrap ((n : Int) - 0) = n := IntWalk.i64_in _ (by omega)
  have hq2 : Int.tdiv (n : Int) 4 = (n : Int) / 4 := Int.tdiv_eq_ediv_of_nonneg (by omega)
  clear hd hk
  go_enter Tryz.func28, Tryz.ntmps28
  go_wp2_with (go_at_call 49; refine (size_any _ _ _ hc).mono ?_; rintro e w1 ⟨rfl, rfl⟩)
  go_loop [50] (fun i => i = .int .i64 0) (fun _ => 0)
  case atStart => rfl
  case round =>
    subst hrel
    go_wp2_with fail
    go_ret2
    refine ⟨_, rfl, ?_⟩
    have := opened_of w0 _ n cnt pool HD.out hs HK.out hcn hp hpl
    rw [hs] at this
    exact this
end Go.Proofs.YtfhapbggngdckaaGreat
