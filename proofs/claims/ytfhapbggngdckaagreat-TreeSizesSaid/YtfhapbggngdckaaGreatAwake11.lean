/- munimentlaw11.awake. -/
import Derived.Test.YtfhapbggngdckaaGreatTS
import Derived.Lib.SlBytesConst
namespace Go.Proofs.YtfhapbggngdckaaGreat
open Go.RowKit
theorem conv_B (w : World) (C : Array Value) (n c : Nat) : (convert 23 23 (.slice (some ⟨w.heap.size, 0, none⟩) n c)).run Tryz.prog (w.alloc (.cells C 5)) = .ok (.slice (some ⟨w.heap.size, 0, none⟩) n c) (w.alloc (.cells C 5 (C.size, C.size + 1))) := Lib.run_convert_bytes_const w 23 5 C n c Tryz.underlying23 Tryz.underlying5
theorem conv_B2 (w : World) (o : Obj) (C : Array Value) (n c : Nat) : (convert 23 23 (.slice (some ⟨w.heap.size + 1, 0, none⟩) n c)).run Tryz.prog ((w.alloc o).alloc (.cells C 5)) = .ok (.slice (some ⟨w.heap.size + 1, 0, none⟩) n c) ((w.alloc o).alloc (.cells C 5 (C.size, C.size + 1))) := by
  have h := conv_B (w.alloc o) C n c
  have e : (w.alloc o).heap.size = w.heap.size + 1 := by simp
  rw [e] at h
  exact h
/-- A literal of one byte. -/
theorem lit_bs (w : World) (b : UInt8) : BS (w.alloc (.cells #[u8 b] 5 (1, 2))) (From w.heap.size) (.slice (some ⟨w.heap.size, 0, none⟩) 1 1) [b] := by
  refine ⟨_, 1, by rfl, by simp, by omega, fun _ => ⟨w.heap.size, 0, rfl, Nat.le_refl _, by simp, fun i hi => ?_⟩⟩
  have h0 : i = 0 := by simpa using hi
  subst h0
  have h : (w.alloc (.cells #[u8 b] 5 (1, 2))).heap[w.heap.size]? = some (.cells #[u8 b] 5 (1, 2)) := (MapKept.heap_alloc w _).1
  simp only [World.cell?, h]
  rfl
set_option maxRecDepth 20000 in
set_option maxHeartbeats 800000 in
theorem awake11_any (w : World) : Calls Tryz.prog 26 #[] w fun e w' => e = .returned (.bool true) ∧ Keep No w w' := by
  have hcv := conv_B
  have hcv2 := conv_B2
  go_enter Tryz.func26, Tryz.ntmps26
  go_upto_region 2 with (first
    | (go_at_call 27; refine (new_any w 80 (by omega)).mono ?_; rintro e w1 ⟨rfl, hd, hc, hs, hk⟩; have HD := Lib.hid hd; have HC := Lib.hid hc; have HS := Lib.hid hs; have HK := Lib.hid hk; clear hd hc hs hk)
    | (go_at_call 28; refine (open_any w _ 80 20 4 HD.out HC.out HS.out HK.out (by omega) (by omega) (by omega) (by omega)).mono ?_; rintro e w2 ⟨pb, rfl, ho⟩; have HO := Lib.hid ho; clear ho))
  go_upto_region 3 with (go_at_call 29; refine (topen_any w2 pb).mono ?_; rintro e w3 ⟨rfl, hr, hk⟩; have HR := Lib.hid hr; have HK3 := Lib.hid hk; clear hr hk)
  have HT := Lib.hid (TS.start HO.out HR.out HK3.out (Nat.le_refl _))
  clear HD HC HS HK HO HR HK3
  generalize w2.heap.size = tb at *
  have k1 := (Keep.refl No w3).alloc (.cells #[.int .u8 97] 5 (1, 2))
  have b1 : BS (w3.alloc (.cells #[.int .u8 97] 5 (1, 2))) (From w3.heap.size) (.slice (some ⟨w3.heap.size, 0, none⟩) 1 1) [97] := lit_bs w3 97
  have e1 : (w3.alloc (.cells #[.int .u8 97] 5 (1, 2))).heap.size = w3.heap.size + 1 := by simp
  have k2 := (Keep.refl No (w3.alloc (.cells #[.int .u8 97] 5 (1, 2)))).alloc (.cells #[.int .u8 98] 5 (1, 2))
  have b2 : BS ((w3.alloc (.cells #[.int .u8 97] 5 (1, 2))).alloc (.cells #[.int .u8 98] 5 (1, 2))) (From (w3.alloc (.cells #[.int .u8 97] 5 (1, 2))).heap.size) (.slice (some ⟨(w3.alloc (.cells #[.int .u8 97] 5 (1, 2))).heap.size, 0, none⟩) 1 1) [98] := lit_bs _ 98
  rw [e1] at b2
  have HP := Lib.hid (TS.put HT.out (k1.next k2 (fun _ e => e.elim)) (b1.keep k2 (fun _ _ _ h => h)) (b2.more (fun b _ e => by
    have e3 : w3.heap.size + 1 ≤ b := e
    show _ ≤ _
    omega)) (by simp) (by simp) (by simp) (by simp) (by simp) (by omega))
  clear k1 b1 e1 k2 b2 HT
  go_upto_region 4 with (go_at_call 30; refine HP.out.mono ?_; rintro e w5 ⟨rfl, ht, hk⟩; have HT5 := Lib.hid ht; clear ht hk)
  clear HP
  have k1 := (Keep.refl No w5).alloc (.cells #[.int .u8 97] 5 (1, 2))
  have b1 : BS (w5.alloc (.cells #[.int .u8 97] 5 (1, 2))) (From w5.heap.size) (.slice (some ⟨w5.heap.size, 0, none⟩) 1 1) [97] := lit_bs w5 97
  have HG := Lib.hid (TS.get HT5.out k1 b1 (by simp [insE]) (by omega))
  clear k1 b1
  go_upto_region 5 with (go_at_call 32; refine HG.out.mono ?_; rintro e w6 ⟨v, rfl, ht, hk, hb⟩; have HT6 := Lib.hid ht; have HB := Lib.hid (hb [98] (by simp [insE, lookE])); clear ht hk hb)
  have hst := run_str HB.out
  have hlk : (lookE (insE [] [97] [98]) [97]).isSome = true := by simp [insE, lookE]
  go_wp2_with fail
  go_ret
  exact ⟨rfl, HT6.out.since⟩
end Go.Proofs.YtfhapbggngdckaaGreat
