/- Nodes: clone, own. -/
import Derived.Test.YtfhapbggngdckaaGreatFind
namespace Go.Proofs.YtfhapbggngdckaaGreat
open Go.RowKit
/-- A list of slices, of its own memory. -/
structure Cl (w : World) (v : Value) (l : List (List UInt8)) (wr : World) : Prop where
  keep : Keep No w wr
  it : ∃ vs, Own wr (From w.heap.size) 23 v vs ∧ Els wr (fun b => w.heap.size ≤ b ∧ v.ownBlock ≠ some b) vs l
section
variable {w wr w' : World} {D : Nat → Prop} {v : Value} {l : List (List UInt8)}
theorem Cl.push (h : Cl w v l wr) {c : Value} {b : List UInt8} (hc : Own wr (From w.heap.size) 5 c (b.map u8)) (hl : l.length ≤ 1000) :
    ∃ ao cap w', (Builtin.append_ #[115, 115] 115 #[v, .slice (some ⟨wr.heap.size, 0, none⟩) 1 1]).run Tryz.prog (wr.alloc (.cells #[c] 23)) = .ok (.slice ao (l.length + 1) cap) w' ∧ Cl w (.slice ao (l.length + 1) cap) (l ++ [b]) w' := by
  have hk := (Keep.refl No wr).alloc (.cells #[c] 23)
  obtain ⟨vs, ho0, he0⟩ := h.it
  have ho := ho0.keep hk (fun _ _ _ h => h)
  have hb0 : BS wr (fun b => w.heap.size ≤ b ∧ v.ownBlock ≠ some b) c b := hc.rs'.more (fun k _ e => ⟨(hc.blk e).1, hc.ne_of_type ho0 (by decide) e⟩)
  have he := he0.append (Els.one hb0)
  have hc1 : Cells1 [c] := (Els.one hb0).cells1
  have hlen := he0.1
  obtain ⟨v', w', hrun, ho', hk', hm⟩ := run_append etBB 115 ho (rs_box wr 23 c) hc1 (by decide) (by simp only [List.length_cons, List.length_nil]; omega)
  obtain ⟨ao, cap, hf⟩ := ho'.form
  rw [List.length_append, hlen] at hf
  simp only [List.length_cons, List.length_nil, Nat.zero_add] at hf
  subst hf
  refine ⟨ao, cap, w', hrun, (h.keep.trans hk (fun _ _ h => h)).trans hk' (fun i hi e => by have := (ho.blk e).1; unfold From at this; omega), vs ++ [c], ho'.more (fun k _ e => e.elim id (fun e => by have := h.keep.size; have := hk.size; unfold From; omega)), ?_⟩
  have hs : (wr.alloc (.cells #[c] 23)).heap.size = wr.heap.size + 1 := by simp
  have e1 := (he.more (D' := fun b => (w.heap.size ≤ b ∧ v.ownBlock ≠ some b) ∧ b < wr.heap.size) (fun b hb e => ⟨e, hb⟩)).keep hk (fun _ _ _ h => h)
  refine (e1.keep hk' (fun b _ e => e.1.2)).more (fun b _ e => ⟨e.1.1, ?_⟩)
  rcases hm with hm | hm
  · rw [hm]; exact e.1.2
  · rw [hm, hs]; simp; omega
set_option maxRecDepth 20000 in
set_option maxHeartbeats 800000 in
theorem clone_nd (h : BBS w D v l) (hl : l.length ≤ 1000) (hb : ∀ b ∈ l, b.length ≤ 1000) : Calls Tryz.prog 127 #[v] w fun e w' => ∃ v', e = .returned v' ∧ Cl w v' l w' := by
  have H := Lib.hid (h.more (D' := fun b => b < w.heap.size) (fun b hb _ => hb))
  obtain ⟨ao, cap, rfl, _, _⟩ := h.form
  have HB := Lib.hid hb
  clear h hb
  go_enter Tryz.func127, Tryz.ntmps127
  go_wp2_with fail
  go_loopw [3, 8] (fun o i wr => ∃ j : Nat, j ≤ l.length ∧ i = .int .i64 j ∧ Hid (Cl w o (l.take j) wr)) (fun _ i _ => l.length - (intOf i).toNat)
  case atStart => exact ⟨0, Nat.zero_le _, rfl, Keep.refl _ _, [], Own.nil _ _ _, by simpa using Els.nil⟩
  case round =>
    obtain ⟨j, hj, rfl, HC⟩ := hrel
    by_cases hlt : j < l.length
    · have hw := H.out.keep HC.out.keep (fun _ _ _ h => h)
      obtain ⟨_, _, ek, _, HF⟩ := hw.form
      simp only [Value.slice.injEq, true_and] at ek
      obtain ⟨rfl, rfl⟩ := ek
      clear hw
      obtain ⟨g, o, u, rfl, _, _, ca, ba⟩ := HF.out j hlt
      obtain ⟨xo, xc, rfl, _, _⟩ := ba.form
      have BA := Lib.hid ba
      have hbl := HB.out _ (List.getElem_mem hlt)
      clear ba
      have hlk : (l.take j).length = j := by rw [List.length_take]; omega
      obtain ⟨oo, oc, rfl⟩ : ∃ oo oc, u3 = .slice oo j oc := by
        obtain ⟨vs, ho, he⟩ := HC.out.it
        obtain ⟨oo, oc, hf⟩ := ho.form
        exact ⟨oo, oc, by rw [hf, he.1, hlk]⟩
      have HLK := Lib.hid hlk
      have HT : Hid (l.take j ++ [l[j]] = l.take (j + 1)) := (List.take_succ_eq_append_getElem hlt).symm
      clear hlk
      go_upto_region 5 with fail
      go_wp2_with (first
        | (go_at_call 51; refine (clone_B _ _ _ _ BA.out (cells1_u8 _) (by rw [List.length_map]; omega)).mono ?_; rintro e w1 ⟨c, rfl, ho1, hk1⟩; obtain ⟨co, cc, hfc⟩ := ho1.form; rw [List.length_map] at hfc; subst hfc; obtain ⟨ao2, cap2, w2, hrun, hcl⟩ := Cl.push (w := w) (v := .slice oo j oc) (l := l.take j) (wr := w1) (b := l[j]) ⟨HC.out.keep.trans hk1 (fun _ _ h => h), (by obtain ⟨vs, h1, h2⟩ := HC.out.it; exact ⟨vs, h1.keep hk1 (fun _ _ _ h => h), h2.keep hk1 (fun _ _ _ h => h)⟩)⟩ (ho1.more (fun k _ e => by have := HC.out.keep.size; unfold From at *; omega)) (by rw [HLK.out]; omega); rw [HLK.out, HT.out] at hcl; rw [HLK.out] at hrun; have HCL := Lib.hid hcl; have HRUN := Lib.hid hrun; clear hcl hrun ho1 hk1)
        | (at_builtin; refine wpList_append_eq rfl _ _ rfl rfl rfl HRUN.out ?_))
      go_roundw
      case rel => exact ⟨j + 1, by omega, by go_num, HCL.out⟩
      case measure => simp [intOf]; omega
    · obtain rfl : j = l.length := by omega
      go_wp2_with fail
      go_ret
      refine ⟨_, rfl, ?_⟩
      have := HC.out
      rw [List.take_length] at this
      exact this
theorem Keep.onto {W X Y Z : World} (_ : Keep No W X) (h : Keep No Y Z) (e1 : Y.heap = X.heap) (e2 : Y.os = X.os) (e3 : Y.tape = X.tape) (e4 : Y.output = X.output) : Keep No X Z :=
  ⟨h.os.trans e2, h.tape.trans e3, h.output.trans e4, by rw [← e1]; exact h.size, fun i hi hn => by rw [← e1] at hi ⊢; exact h.block i hi hn⟩
/-- Blocks of a stretch of memory. -/
def Str (a b : Nat) : Nat → Prop := fun k => a ≤ k ∧ k < b
/-- A list of slices within a stretch. -/
def ClS (w : World) (a b : Nat) (v : Value) (l : List (List UInt8)) : Prop := ∃ vs, Own w (Str a b) 23 v vs ∧ Els w (fun k => Str a b k ∧ v.ownBlock ≠ some k) vs l
theorem Cl.str {w w' : World} {v : Value} {l : List (List UInt8)} (h : Cl w v l w') : ClS w' w.heap.size w'.heap.size v l := by
  obtain ⟨vs, h1, h2⟩ := h.it
  exact ⟨vs, h1.more (fun k hk e => ⟨e, hk⟩), h2.more (fun k hk e => ⟨⟨e.1, hk⟩, e.2⟩)⟩
theorem ClS.keep {w w' : World} {a b : Nat} {v : Value} {l : List (List UInt8)} (h : ClS w a b v l) {F : Nat → Prop} (hk : Keep F w w') (hF : ∀ k, Str a b k → ¬ F k) : ClS w' a b v l := by
  obtain ⟨vs, h1, h2⟩ := h
  exact ⟨vs, h1.keep hk (fun k _ e => hF k (h1.blk e).1), h2.keep hk (fun k _ e => hF k e.1)⟩
theorem ndO_of {w : World} {B : Nat → Prop} {kv vv iv : Value} {n : Nd} {ka kb va vb ia ib : Nat} (hk : ClS w ka kb kv n.keys) (hv : ClS w va vb vv n.vals) (hi : Own w (Str ia ib) 3 iv (n.kids.map (Value.int .i64)))
    (h1 : kb ≤ va ∨ vb ≤ ka) (h2 : kb ≤ ia ∨ ib ≤ ka) (h3 : vb ≤ ia ∨ ib ≤ va) (hB : ∀ b, Str ka kb b ∨ Str va vb b ∨ Str ia ib b → B b) : NdO w B kv vv iv n := by
  obtain ⟨ks, hk1, hk2⟩ := hk
  obtain ⟨vs, hv1, hv2⟩ := hv
  refine ⟨⟨ks, hk1.more (fun b _ e => hB b (.inl e)), hk2.more (fun b _ e => ⟨hB b (.inl e.1), e.2, fun e2 => ?_, fun e2 => ?_⟩)⟩, ⟨vs, hv1.more (fun b _ e => hB b (.inr (.inl e))), hv2.more (fun b _ e => ⟨hB b (.inr (.inl e.1)), fun e2 => ?_, e.2, fun e2 => ?_⟩)⟩, hi.more (fun b _ e => hB b (.inr (.inr e))), fun b e1 e2 => ?_⟩
  · have := (hv1.blk e2).1; have := e.1; unfold Str at *; omega
  · have := (hi.blk e2).1; have := e.1; unfold Str at *; omega
  · have := (hk1.blk e2).1; have := e.1; unfold Str at *; omega
  · have := (hi.blk e2).1; have := e.1; unfold Str at *; omega
  · have := (hk1.blk e1).1; have := (hv1.blk e2).1; unfold Str at *; omega
end
end Go.Proofs.YtfhapbggngdckaaGreat
