/- What is proved: the given statement on TreeSizes: for every input the law returns true, and its arguments read as they did. No condition. -/
import Derived.Test.YtfhapbggngdckaaGreatAwake11
import Derived.Deep.RegionWith
import Derived.Deep.DeepCutAuto
import Derived.WalkKit
import Derived.ProofKit
import Derived.OpenShut
namespace Go.Proofs.YtfhapbggngdckaaGreat
open Go.RowKit
theorem lt_head {x y : UInt8} (h : x < y) (a b : Byt) : lt (x :: a) (y :: b) := by
  show cb (x :: a) (y :: b) = -1
  unfold cb
  rw [Lib.compareBytes, if_pos h]
/-- The entries behind i puts. -/
def esN : Nat → List Ent
  | 0 => []
  | i + 1 => esN i ++ [(someB (UInt8.ofNat (i + 1)) 100, someB 7 200)]
theorem esN_len : ∀ i, (esN i).length = i
  | 0 => rfl
  | i + 1 => by simp [esN, esN_len i]
theorem esN_mem : ∀ {i : Nat} {e : Ent}, e ∈ esN i → ∃ j, 1 ≤ j ∧ j ≤ i ∧ e.1 = someB (UInt8.ofNat j) 100
  | 0, e, h => by simp [esN] at h
  | i + 1, e, h => by
    simp only [esN, List.mem_append, List.mem_singleton] at h
    rcases h with h | h
    · obtain ⟨j, h1, h2, h3⟩ := esN_mem h
      exact ⟨j, h1, by omega, h3⟩
    · subst h; exact ⟨i + 1, by omega, by omega, rfl⟩
theorem ofNat_lt {a b : Nat} (h : a < b) (hb : b < 256) : UInt8.ofNat a < UInt8.ofNat b := by
  rw [UInt8.lt_iff_toNat_lt, UInt8.toNat_ofNat', UInt8.toNat_ofNat']
  simp
  omega
theorem esN_next {i : Nat} (hi : i < 20) : insE (esN i) (someB (UInt8.ofNat (i + 1)) 100) (someB 7 200) = esN (i + 1) := by
  have h := insE_left (k := someB (UInt8.ofNat (i + 1)) 100) (v := someB 7 200) (esN i) [] (fun e he => by
    obtain ⟨j, h1, h2, h3⟩ := esN_mem he
    rw [h3]
    exact lt_head (ofNat_lt (by omega) (by omega)) _ _)
  rw [List.append_nil] at h
  rw [h]
  rfl
theorem insE_new {k v : Byt} : ∀ {es : List Ent}, (∀ e ∈ es, e.1 ≠ k) → (insE es k v).length = es.length + 1
  | [], _ => rfl
  | e :: es, h => by
    have ih := insE_new (v := v) (fun x hx => h x (List.mem_cons_of_mem _ hx))
    have h1 := h e (by simp)
    unfold insE
    split
    · simp [ih]
    · simp
theorem look_ins (k v : Byt) : ∀ es : List Ent, lookE (insE es k v) k = some v
  | [] => by simp [insE, lookE]
  | e :: es => by
    unfold insE
    split
    · rename_i h
      rw [lookE, if_neg (ne_of_lt h)]
      exact look_ins k v es
    · split
      · rw [lookE, if_pos rfl]
      · rw [lookE, if_pos rfl]
def zb (n : Nat) : Byt := List.replicate n 0
theorem zb_len (n : Nat) : (zb n).length = n := by simp [zb]
theorem zb_ne {i n : Nat} (hi : i ≤ 20) : ∀ e ∈ esN i, e.1 ≠ zb n := fun e he h => by
  obtain ⟨j, h1, h2, h3⟩ := esN_mem he
  rw [h3] at h
  cases n with
  | zero => simp [zb, someB] at h
  | succ n =>
    simp only [zb, someB, List.replicate_succ, List.cons.injEq] at h
    have := congrArg UInt8.toNat h.1
    rw [UInt8.toNat_ofNat'] at this
    simp at this
    omega
theorem zs_zb (n : Nat) : zs (.int .u8 0) n = (zb n).map u8 := by simp [zs, zb, u8]
end Go.Proofs.YtfhapbggngdckaaGreat
namespace Go.Proofs.YtfhapbggngdckaaGreat
open Go.RowKit
/-- Two new rows of zeros, in whatever order. -/
structure ZZ (w : World) (kn vn : Nat) (a b : Value) (w' : World) : Prop where
  a : BS w' (From w.heap.size) a (zb kn)
  b : BS w' (From w.heap.size) b (zb vn)
  k : Keep No w w'
theorem zrow (w : World) (n : Nat) (hn : n ≤ 65536) : BS (w.alloc (.cells (zs (.int .u8 0) n).toArray 5)) (From w.heap.size) (.slice (some ⟨w.heap.size, 0, none⟩) n n) (zb n) := by
  have hr := Row.new w 5 (zs (.int .u8 0) n)
  rw [zs_zb] at hr ⊢
  exact (bs_row hr n (zb_len n) (by omega)).more (fun b _ e => Nat.le_of_eq e.symm)
theorem zz_of (w : World) (kn vn : Nat) (h1 : kn ≤ 65536) (h2 : vn ≤ 65536) :
    ZZ w kn vn (.slice (some ⟨w.heap.size, 0, none⟩) kn kn) (.slice (some ⟨w.heap.size + 1, 0, none⟩) vn vn) ((w.alloc (.cells (zs (.int .u8 0) kn).toArray 5)).alloc (.cells (zs (.int .u8 0) vn).toArray 5)) := by
  have k1 := (Keep.refl No w).alloc (.cells (zs (.int .u8 0) kn).toArray 5)
  have b1 := zrow w kn h1
  have e1 : (w.alloc (.cells (zs (.int .u8 0) kn).toArray 5)).heap.size = w.heap.size + 1 := by simp
  have k2 := (Keep.refl No (w.alloc (.cells (zs (.int .u8 0) kn).toArray 5))).alloc (.cells (zs (.int .u8 0) vn).toArray 5)
  have b2 := zrow (w.alloc (.cells (zs (.int .u8 0) kn).toArray 5)) vn h2
  rw [e1] at b2
  exact ⟨b1.keep k2 (fun _ _ _ h => h), b2.more (fun b _ e => by
    have e3 : w.heap.size + 1 ≤ b := e
    show _ ≤ _
    omega), k1.next k2 (fun _ e => e.elim)⟩
theorem zz_swap {w w' : World} {kn vn : Nat} {a b : Value} (h : ZZ w vn kn b a w') : ZZ w kn vn a b w' := ⟨h.b, h.a, h.k⟩
theorem ZZ.drew {w w' : World} {kn vn : Nat} {a b : Value} (h : ZZ w kn vn a b w') : ZZ w kn vn a b w'.drew := ⟨RS.keep h.a ((Keep.refl No w').drew) (fun _ _ _ h => h), RS.keep h.b ((Keep.refl No w').drew) (fun _ _ _ h => h), h.k.drew⟩
theorem BS.form2 {w : World} {D : Nat → Prop} {v : Value} {l : Byt} (h : BS w D v l) : ∃ ao c, v = .slice ao l.length c := by
  obtain ⟨ao, c, hv, _⟩ := h
  exact ⟨ao, c, by rw [hv, List.length_map]⟩
set_option maxRecDepth 20000 in
set_option maxHeartbeats 1000000 in
theorem sizes_walk (w : World) (a0 a1 : Int) (w0 : (Lit.int .u16 a0).wf = true) (w1 : (Lit.int .u16 a1).wf = true) : Calls Tryz.prog 8 #[.int .u16 a0, .int .u16 a1] w fun e w' => e = .returned (.bool true) ∧ Below w.heap.size w w' := by
  obtain ⟨kn, hkn, hk4⟩ : ∃ kn : Nat, Int.tmod a0 400 = kn ∧ kn < 400 := by
    have hm : IntKind.u16.min = 0 := rfl
    simp [Lit.wf] at w0
    refine ⟨(Int.tmod a0 400).toNat, ?_, ?_⟩ <;> (rw [Int.tmod_eq_emod_of_nonneg (by omega)]; omega)
  obtain ⟨vn, hvn, hv4⟩ : ∃ vn : Nat, Int.tmod a1 400 = vn ∧ vn < 400 := by
    have hm : IntKind.u16.min = 0 := rfl
    simp [Lit.wf] at w1
    refine ⟨(Int.tmod a1 400).toNat, ?_, ?_⟩ <;> (rw [Int.tmod_eq_emod_of_nonneg (by omega)]; omega)
  have hmk : ∀ w : World, (Instr.makeSlice 23 (.int .i64 kn) (.int .i64 kn)).run Tryz.prog w = .ok (.slice (some ⟨w.heap.size, 0, none⟩) kn kn) (w.alloc (.cells (zs (.int .u8 0) kn).toArray 5)) := fun w => by
    simpa using run_mk (P := Tryz.prog) etB w .i64 .i64 kn kn (by omega) (by omega) (by omega) (by omega)
  have hmv : ∀ w : World, (Instr.makeSlice 23 (.int .i64 vn) (.int .i64 vn)).run Tryz.prog w = .ok (.slice (some ⟨w.heap.size, 0, none⟩) vn vn) (w.alloc (.cells (zs (.int .u8 0) vn).toArray 5)) := fun w => by
    simpa using run_mk (P := Tryz.prog) etB w .i64 .i64 vn vn (by omega) (by omega) (by omega) (by omega)
  have HMK := Lib.hid hmk
  have HMV := Lib.hid hmv
  clear w0 w1 hmk hmv
  go_enter Tryz.func8, Tryz.ntmps8
  go_upto_region 3 with (go_at_call 26; refine (awake11_any w).mono ?_; rintro e wA ⟨rfl, hk⟩; have HKA := Lib.hid hk; clear hk)
  go_upto_region 4 with (go_at_call 27; refine (new_any wA 400 (by omega)).mono ?_; rintro e w1 ⟨rfl, hd, hc, hs, hk⟩; have HD := Lib.hid hd; have HC := Lib.hid hc; have HS := Lib.hid hs; have HK := Lib.hid hk; clear hd hc hs hk)
  go_upto_region 5 with (go_at_call 28; refine (open_any wA _ 400 100 4 HD.out HC.out HS.out HK.out (by omega) (by omega) (by omega) (by omega)).mono ?_; rintro e w2 ⟨pb, rfl, ho⟩; have HO := Lib.hid ho; clear ho)
  go_upto_region 6 with (go_at_call 29; refine (topen_any w2 pb).mono ?_; rintro e w3 ⟨rfl, hr, hk⟩; have HR := Lib.hid hr; have HK3 := Lib.hid hk; clear hr hk)
  have HT : Hid (TS wA w2.heap.size pb 100 (500 * 0) (esN 0) w3) := TS.start HO.out HR.out HK3.out (Nat.le_refl _)
  clear HD HC HS HK HO HR HK3
  generalize w2.heap.size = tb at *
  go_upto_region 7 with fail
  go_loopw [9] (fun u9 wr => ∃ i : Nat, u9 = .int .i64 i ∧ i ≤ 20 ∧ Hid (TS wA tb pb 100 (500 * i) (esN i) wr)) (fun u9 _ => 20 - (intOf u9).toNat)
  case atStart => exact ⟨0, rfl, Nat.zero_le _, HT.out⟩
  case round =>
    obtain ⟨i, rfl, hi, HA⟩ := hrel
    by_cases hlt : i < 20
    · have hiI : (i : Int) < 20 := by omega
      obtain ⟨K, hK⟩ : ∃ K : UInt8, K = UInt8.ofNat (i + 1) := ⟨_, rfl⟩
      have hKn : K.toNat = i + 1 := by rw [hK, UInt8.toNat_ofNat']; simp; omega
      have hw1 : IntKind.u8.wrap (i : Int) = (i : Int) := by rw [IntWalk.u8_in _ (by omega)]
      have hw2 : IntKind.u8.wrap ((i : Int) + 1) = ((K.toNat : Nat) : Int) := by rw [IntWalk.u8_in _ (by omega), hKn]; omega
      have HNX : Hid (insE (esN i) (someB K 100) (someB 7 200) = esN (i + 1)) := by rw [hK]; exact esN_next hlt
      have HLN : Hid ((esN i).length ≤ 20) := by show _ ≤ _; rw [esN_len]; exact hi
      clear hK hKn
      go_upto_region 10 with (first
        | (go_at_call_of 31 (Value.int .u8 7); refine (some_any wB 7 200 (by omega) (by omega)).mono ?_; rintro e wC ⟨v2, rfl, ho, hk⟩; have HO2 := Lib.hid ho; have HKC := Lib.hid hk; clear ho hk)
        | (go_at_call_of 31 (Value.int .u8 ((K.toNat : Nat) : Int)); refine (some_any wr K 100 (by omega) (by omega)).mono ?_; rintro e wB ⟨v1, rfl, ho, hk⟩; have HO1 := Lib.hid ho; have HKB := Lib.hid hk; clear ho hk)
        | (go_at_call 30; refine (TS.put HA.out (HKB.out.next HKC.out (fun _ e => e.elim)) (HO1.out.rs.keep HKC.out (fun _ _ _ h => h)) (HO2.out.rs.more (fun b _ e => Nat.le_trans HKB.out.size e)) (by simp [someB]) (by simp [someB]) (by simp [someB]) (by have := HLN.out; omega) (by have := HLN.out; omega) (by omega)).mono ?_; rintro e wD ⟨rfl, ht, hk⟩; have HTD := Lib.hid ht; clear ht hk))
      go_wp2_with fail
      go_roundw
      case rel =>
        refine ⟨i + 1, by go_num, by omega, ?_⟩
        refine Lib.hid ?_
        rw [← HNX.out, show 500 * (i + 1) = 500 * i + 500 by omega]
        exact HTD.out
      case measure => simp [intOf]; omega
    · have hge : ¬ ((i : Int) < 20) := by omega
      have h20 : i = 20 := by omega
      subst h20
      have hmk := HMK.out
      have hmv := HMV.out
      go_upto_region 11 with fail
      go_cut [10, 11] (fun u10 u11 wc => Hid (ZZ wr kn vn u10 u11 wc))
      case first =>
        go_region
        all_goals
          go_wp2_with fail
          go_meet
        · exact (zz_of wr kn vn (by omega) (by omega)).drew
        · exact (zz_swap (zz_of wr vn kn (by omega) (by omega))).drew
      case rest =>
        have HZ := hcut
        obtain ⟨ao, ac, ha⟩ := BS.form2 HZ.out.a
        obtain ⟨bo, bc, hb⟩ := BS.form2 HZ.out.b
        rw [zb_len] at ha hb
        subst ha
        subst hb
        clear hcut hmk hmv HMK HMV
        go_upto_region 12 with fail
        go_cut [12] (fun u12 wx => u12 = .bool (decide (1 ≤ kn ∧ kn ≤ 240 ∧ vn ≤ 260)) ∧ wx = wc)
        case first =>
          rcases Nat.lt_or_ge kn 1 with h1 | h1
          · have hd1 : decide (1 ≤ (kn : Int)) = false := by simp; omega
            have hr : decide (1 ≤ kn ∧ kn ≤ 240 ∧ vn ≤ 260) = false := by simp; omega
            go_upto_region 13 with fail
            go_meet
            rw [hr]
            exact ⟨rfl, rfl⟩
          · have hd1 : decide (1 ≤ (kn : Int)) = true := by simp; omega
            rcases Nat.lt_or_ge 240 kn with h2 | h2
            · have hd2 : decide ((kn : Int) ≤ 240) = false := by simp; omega
              have hr : decide (1 ≤ kn ∧ kn ≤ 240 ∧ vn ≤ 260) = false := by simp; omega
              go_upto_region 13 with fail
              go_meet
              rw [hr]
              exact ⟨rfl, rfl⟩
            · have hd2 : decide ((kn : Int) ≤ 240) = true := by simp; omega
              rcases Nat.lt_or_ge 260 vn with h3 | h3
              · have hd3 : decide ((vn : Int) ≤ 260) = false := by simp; omega
                have hr : decide (1 ≤ kn ∧ kn ≤ 240 ∧ vn ≤ 260) = false := by simp; omega
                go_upto_region 13 with fail
                go_meet
                rw [hr]
                exact ⟨rfl, rfl⟩
              · have hd3 : decide ((vn : Int) ≤ 260) = true := by simp; omega
                have hr : decide (1 ≤ kn ∧ kn ≤ 240 ∧ vn ≤ 260) = true := by simp; omega
                go_upto_region 13 with fail
                go_meet
                rw [hr]
                exact ⟨rfl, rfl⟩
        case rest =>
          obtain ⟨rfl, rfl⟩ := hcut
          have HT20 := HA
          clear HA hlt hge hi HT
          have HFR : Hid (∀ b, From wr.heap.size b → ¬ (From wA.heap.size b ∧ b < wr.heap.size)) := fun b e f => by
            have e2 : wr.heap.size ≤ b := e
            have := f.2
            omega
          by_cases hok : 1 ≤ kn ∧ kn ≤ 240 ∧ vn ≤ 260
          · rw [decide_eq_true hok]
            have HP := Lib.hid (TB.put HT20.out HZ.out.k (HZ.out.a.more fun b _ e => HFR.out b e) (HZ.out.b.more fun b _ e => HFR.out b e) (by rw [zb_len]; omega) (by rw [zb_len]; omega) (by rw [zb_len]; omega) (by rw [esN_len]; omega) (by rw [esN_len]; omega) (by omega))
            have HLN : Hid ((insE (esN 20) (zb kn) (zb vn)).length = 21) := by
              show _ = _
              rw [insE_new (zb_ne (Nat.le_refl _)), esN_len]
            have HLK := Lib.hid (look_ins (zb kn) (zb vn) (esN 20))
            clear hok
            go_upto_region 14 with (go_at_call 30; refine HP.out.mono ?_; rintro e wP ⟨rfl, ht, hk⟩; have HTP := Lib.hid ht; have HKP := Lib.hid hk; clear ht hk)
            clear HP
            have HAP : Hid (BS wP (fun b => wr.heap.size ≤ b ∧ b < wc.heap.size) (.slice ao kn ac) (zb kn)) := (RS.more HZ.out.a (D' := fun b => wr.heap.size ≤ b ∧ b < wc.heap.size) (fun b hb e => ⟨e, hb⟩)).keep HKP.out (fun b _ e f => by
              have h1 := f.2
              have h2 := e.1
              omega)
            have HG := Lib.hid (TB.get HTP.out (Keep.refl No wP) (HAP.out.more fun b _ e f => by
              rcases f.1 with g | g
              · have h1 := g.2
                have h2 := e.1
                omega
              · have h1 := e.2
                omega) (by have := HLN.out; omega) (by omega))
            generalize insE (esN 20) (zb kn) (zb vn) = ES at *
            have hsm : (lookE ES (zb kn)).isSome = true := by rw [HLK.out]; rfl
            go_upto_region 15 with (go_at_call 32; refine HG.out.mono ?_; rintro e wG ⟨v, rfl, ht, hk, hb⟩; have HTG := Lib.hid ht; have HB := Lib.hid (hb _ HLK.out); clear ht hk hb)
            clear HG HAP HTP
            obtain ⟨go, gc, hv⟩ := BS.form2 HB.out
            rw [zb_len] at hv
            subst hv
            have hct := TB.count HTG.out (fun e => by have := HLN.out; rw [e] at this; cases this) (by have := HLN.out; omega) (by omega)
            rw [HLN.out] at hct
            have HC := Lib.hid hct
            clear hct
            go_upto_region 16 with (go_at_call 33; refine HC.out.mono ?_; rintro e wZ ⟨rfl, ht, hk⟩; have HTZ := Lib.hid ht; clear ht hk)
            go_wp2_with fail
            go_ret
            exact ⟨rfl, (HKA.out.next HTZ.out.since (fun _ e => e.elim)).below (fun _ _ h => h)⟩
          · rw [decide_eq_false hok]
            have HP := Lib.hid (tput_bad (tb := tb) HZ.out.a HZ.out.b (by rw [zb_len, zb_len]; omega))
            clear hok
            have HG := Lib.hid (TB.get HT20.out HZ.out.k (HZ.out.a.more fun b _ e => HFR.out b e) (by rw [esN_len]; omega) (by omega))
            have hsm : (lookE (esN 20) (zb kn)).isSome = false := by rw [lookE_none (zb_ne (Nat.le_refl _))]; rfl
            have HLN : Hid ((esN 20).length = 20) := esN_len 20
            generalize esN 20 = ES at *
            go_upto_region 14 with (go_at_call 30; refine HP.out.mono ?_; rintro e wP ⟨rfl, rfl⟩)
            go_upto_region 15 with (go_at_call 32; refine HG.out.mono ?_; rintro e wG ⟨v, rfl, ht, hk, hb⟩; have HTG := Lib.hid ht; clear ht hk hb)
            clear HG HP
            have hct := TB.count HTG.out (fun e => by have := HLN.out; rw [e] at this; cases this) (by have := HLN.out; omega) (by omega)
            rw [HLN.out] at hct
            have HC := Lib.hid hct
            clear hct
            go_upto_region 16 with (go_at_call 33; refine HC.out.mono ?_; rintro e wZ ⟨rfl, ht, hk⟩; have HTZ := Lib.hid ht; clear ht hk)
            go_wp2_with fail
            go_ret
            exact ⟨rfl, (HKA.out.next HTZ.out.since (fun _ e => e.elim)).below (fun _ _ h => h)⟩
end Go.Proofs.YtfhapbggngdckaaGreat
namespace Go.Proofs.YtfhapbggngdckaaGreat.treeSizes
open Go.ChangeShapes Go.WideShapes Go.ChangeAt Go.RowKit

theorem own : ownKnob Tryz.prog.godebug = none := by kernel_rfl
set_option maxRecDepth 100000 in
theorem lifted (os : Os) (started : os.Started) (H : Type) (enc : TypeId × Value → H) :
    ReturnsInHanded {} Tryz.checked os 8 .any (Rows.treeSizesSpec.pre6 enc Tryz.prog Tryz.f8 Rows.treeSizesRow.domain false) (Rows.treeSizesSpec.post enc Tryz.prog Tryz.f8 false true false false) := by
  refine returnsInHanded_of_change (C := Tryz.checked) own started (by kernel_rfl) Tryz.func8
    (ChangeSpec.witness6 (enc := enc) (C := Tryz.checked) false ⟨#[], #[.int .u16 0, .int .u16 0], []⟩ 8 (by kernel_rfl) (by kernel_rfl) (by kernel_rfl) (by kernel_rfl)) ?_
  intro W base args ds gs before hval0 hW hcnd _
  have hval : ∀ (j : Nat) t v, Tryz.f8.params[j]? = some t → args[j]? = some v → Value.okWide Tryz.prog W .any base t v := hval0
  have hW' := hW
  obtain ⟨p, q, hA0, hV, rfl, hfz, hnd⟩ := hW
  have hA : DataW.TrodAll enc Tryz.prog W 0 (fun _ => true) true Tryz.f8.params.toList args.toList ds p := hA0
  rw [Tryz.params8] at hA hval
  obtain ⟨v0, vs0, d0, ds0, p0, q0, hargs, rfl, rfl, h0, r0⟩ := trodAll_cons hA
  obtain ⟨v1, vs1, d1, ds1, p1, q1, rfl, rfl, rfl, h1, r1⟩ := trodAll_cons r0
  obtain ⟨rfl, rfl, rfl⟩ := trodAll_nil r1
  obtain rfl : args = #[v0, v1] := by cases args; simp_all
  obtain ⟨rfl, rfl⟩ := trodVars_none hV
  obtain ⟨a0, rfl, rfl, rfl, w0⟩ := open_int Tryz.underlying65 (hval 0 65 v0 rfl rfl) h0
  obtain ⟨a1, rfl, rfl, rfl, w1⟩ := open_int Tryz.underlying65 (hval 1 65 v1 rfl rfl) h1
  clear hA0 hval0
  simp only [List.append_nil] at hW'
  refine (sizes_walk W a0 a1 w0 w1).mono fun e W' ⟨he, hg⟩ => ?_
  subst he
  exact ⟨_, rfl, _, _, _, [], [], [], hW', trodAll_cons_mk (shut_bool Tryz.underlying4 _) trodAll_mk0, trodAll_cons_mk (shut_int Tryz.underlying65 w0) (trodAll_cons_mk (shut_int Tryz.underlying65 w1) trodAll_mk0), rfl, hg.frame _, fun h => by cases h⟩

theorem over : Rows.treeSizesRow.holds Tryz.pinned (OpenSpec.ofChange Rows.treeSizesSpec) :=
  OpenClaim.holds_of_wide 8 Tryz.f8 rfl rfl rfl rfl rfl rfl rfl ⟨rfl, rfl, rfl, rfl, rfl⟩ rfl rfl rfl rfl rfl (by kernel_rfl) Tryz.func8 (by kernel_rfl)
    (of_decide_eq_true (by kernel_rfl)) (by unfold Func.isWrapper; first | (rw [if_pos (by decide +kernel)]; kernel_rfl) | (rw [if_neg (by decide +kernel)]; exact ⟨rfl, rfl⟩))
    (fun os started H enc _ => lifted os started H enc)

theorem proved : Rows.TreeSizesSaid := over
#print axioms proved
end Go.Proofs.YtfhapbggngdckaaGreat.treeSizes
