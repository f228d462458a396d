/- Nodes: what they are, what they are written as, how they lie in memory. -/
import Derived.Test.YtfhapbggngdckaaGreatLess
namespace Go.Proofs.YtfhapbggngdckaaGreat
open Go.RowKit

structure Nd where
  leaf : Bool
  keys : List (List UInt8)
  vals : List (List UInt8)
  kids : List Int
def Nd.klen (n : Nd) (i : Nat) : Nat := (n.keys.getD i []).length
def Nd.vlen (n : Nd) (i : Nat) : Nat := (n.vals.getD i []).length
def Nd.ent (n : Nd) (i : Nat) : Nat := if n.leaf then 3 + n.klen i + n.vlen i else 5 + n.klen i
def Nd.sum (n : Nd) : Nat → Nat
  | 0 => 0
  | i + 1 => n.sum i + n.ent i
def Nd.base (n : Nd) : Nat := if n.leaf then 3 else 7
def Nd.size (n : Nd) : Nat := n.base + n.sum n.keys.length
/-- Formed but for its size. -/
structure Nd.Sh (n : Nd) : Prop where
  klen : ∀ i (h : i < n.keys.length), 1 ≤ n.keys[i].length ∧ n.keys[i].length ≤ 240
  rise : ∀ i (h : i + 1 < n.keys.length), lt n.keys[i] n.keys[i + 1]
  lf : n.leaf = true → n.vals.length = n.keys.length ∧ n.kids = [] ∧ ∀ v ∈ n.vals, v.length ≤ 260
  inn : n.leaf = false → n.vals = [] ∧ n.kids.length = n.keys.length + 1 ∧ ∀ k ∈ n.kids, 0 ≤ k ∧ k ≤ 2147483647
/-- Bounds for the arithmetic alone. -/
structure Nd.Few (n : Nd) : Prop where
  keys : n.keys.length ≤ 1000
  vals : n.vals.length ≤ 1000
  kids : n.kids.length ≤ 1001
  klen : ∀ k ∈ n.keys, k.length ≤ 1000
  vlen : ∀ k ∈ n.vals, k.length ≤ 1000
  lv : n.leaf = true → n.vals.length = n.keys.length
theorem mem_getD_len {l : List (List UInt8)} (h : ∀ k ∈ l, k.length ≤ 1000) (i : Nat) : (l.getD i []).length ≤ 1000 := by
  rw [List.getD_eq_getElem?_getD]
  rcases hi : l[i]? with _ | x
  · simp
  · exact h x (List.mem_of_getElem? hi)
theorem Nd.Few.ent {n : Nd} (h : n.Few) (i : Nat) : n.ent i ≤ 2005 := by
  have h1 := mem_getD_len h.klen i
  have h2 := mem_getD_len h.vlen i
  unfold Nd.ent Nd.klen Nd.vlen
  split <;> omega
theorem Nd.Few.sum {n : Nd} (h : n.Few) : ∀ i, n.sum i ≤ 2005 * i
  | 0 => Nat.le_refl _
  | i + 1 => by have := h.sum i; have := h.ent i; unfold Nd.sum; omega
/-- The elements of a list of slices. -/
def Els (w : World) (D : Nat → Prop) (vs : List Value) (l : List (List UInt8)) : Prop := vs.length = l.length ∧ ∀ (i : Nat) u b, vs[i]? = some u → l[i]? = some b → BS w D u b
def BBS (w : World) (D : Nat → Prop) (v : Value) (l : List (List UInt8)) : Prop := ∃ vs, RS w D v vs ∧ Els w D vs l
section
variable {w w' : World} {D D' F : Nat → Prop} {v : Value} {l l' : List (List UInt8)} {vs vs' : List Value}
theorem Els.keep (h : Els w D vs l) (k : Keep F w w') (hn : ∀ b, b < w.heap.size → D b → ¬ F b) : Els w' D vs l := ⟨h.1, fun i u b h1 h2 => (h.2 i u b h1 h2).keep k hn⟩
theorem Els.more (h : Els w D vs l) (hn : ∀ b, b < w.heap.size → D b → D' b) : Els w D' vs l := ⟨h.1, fun i u b h1 h2 => (h.2 i u b h1 h2).more hn⟩
theorem Els.nil : Els w D [] [] := ⟨rfl, fun i u b h => by simp at h⟩
theorem Els.append (h : Els w D vs l) (h' : Els w D vs' l') : Els w D (vs ++ vs') (l ++ l') := by
  refine ⟨by simp [h.1, h'.1], fun i u b h1 h2 => ?_⟩
  by_cases hi : i < vs.length
  · rw [List.getElem?_append_left hi] at h1
    rw [List.getElem?_append_left (by rw [← h.1]; exact hi)] at h2
    exact h.2 i u b h1 h2
  · rw [List.getElem?_append_right (by omega)] at h1
    rw [List.getElem?_append_right (by rw [← h.1]; omega), ← h.1] at h2
    exact h'.2 _ u b h1 h2
theorem Els.one {u : Value} {b : List UInt8} (h : BS w D u b) : Els w D [u] [b] := ⟨rfl, fun i u' b' h1 h2 => by
  rcases i with _ | i
  · simp at h1 h2; subst h1; subst h2; exact h
  · simp at h1⟩
theorem Els.take (h : Els w D vs l) (n : Nat) : Els w D (vs.take n) (l.take n) := by
  refine ⟨by simp [h.1], fun i u b h1 h2 => ?_⟩
  rw [List.getElem?_take] at h1 h2
  split at h1
  · rename_i hi
    rw [if_pos hi] at h2
    exact h.2 i u b h1 h2
  · simp at h1
theorem Els.drop (h : Els w D vs l) (n : Nat) : Els w D (vs.drop n) (l.drop n) := by
  refine ⟨by simp [h.1], fun i u b h1 h2 => ?_⟩
  rw [List.getElem?_drop] at h1 h2
  exact h.2 _ u b h1 h2
theorem Els.set (h : Els w D vs l) (n : Nat) {u : Value} {b : List UInt8} (hb : BS w D u b) : Els w D (vs.set n u) (l.set n b) := by
  refine ⟨by simp [h.1], fun i u' b' h1 h2 => ?_⟩
  rw [List.getElem?_set] at h1 h2
  split at h1
  · rename_i e
    rw [if_pos e] at h2
    split at h1
    · split at h2
      · simp at h1 h2; subst h1; subst h2; exact hb
      · simp at h2
    · simp at h1
  · rename_i e
    rw [if_neg e] at h2
    exact h.2 i u' b' h1 h2
theorem Els.cells1 (h : Els w D vs l) : Cells1 vs := by
  intro u hu
  obtain ⟨i, hi, rfl⟩ := List.getElem_of_mem hu
  obtain ⟨ao, cap, e, _⟩ := h.2 i vs[i] (l[i]'(by rw [← h.1]; exact hi)) (List.getElem?_eq_getElem hi) (List.getElem?_eq_getElem _)
  rw [e]; rfl
theorem Els.at (h : Els w D vs l) {i : Nat} (hi : i < l.length) : ∃ u, vs[i]? = some u ∧ BS w D u l[i] := by
  have hv : i < vs.length := by rw [h.1]; exact hi
  exact ⟨vs[i], List.getElem?_eq_getElem hv, h.2 i _ _ (List.getElem?_eq_getElem hv) (List.getElem?_eq_getElem hi)⟩
theorem BBS.keep (h : BBS w D v l) (k : Keep F w w') (hn : ∀ b, b < w.heap.size → D b → ¬ F b) : BBS w' D v l := by
  obtain ⟨vs, h1, h2⟩ := h
  exact ⟨vs, h1.keep k hn, h2.keep k hn⟩
theorem BBS.more (h : BBS w D v l) (hn : ∀ b, b < w.heap.size → D b → D' b) : BBS w D' v l := by
  obtain ⟨vs, h1, h2⟩ := h
  exact ⟨vs, h1.more hn, h2.more hn⟩
/-- A list of slices, its cells one by one. -/
theorem BBS.form (h : BBS w D v l) : ∃ ao cap, v = .slice ao l.length cap ∧ l.length ≤ 9223372036854775807 ∧ Hid (∀ i (hi : i < l.length), ∃ b o u, ao = some ⟨b, o, none⟩ ∧ D b ∧ b < w.heap.size ∧ w.cell? ⟨b, o + i, none⟩ = some u ∧ BS w D u l[i]) := by
  obtain ⟨vs, ⟨ao, cap, rfl, hcap, hcm, hcell⟩, he⟩ := h
  have hl := he.1
  refine ⟨ao, cap, by rw [hl], by omega, fun i hi => ?_⟩
  obtain ⟨b, o, rfl, h1, h2, hc⟩ := hcell (by omega)
  obtain ⟨u, hu, hb⟩ := he.at hi
  exact ⟨b, o, u, rfl, h1, h2, by rw [hc i (by omega), hu], hb⟩
theorem IS.form {l : List Int} (h : IS w D v l) : ∃ ao cap, v = .slice ao l.length cap ∧ l.length ≤ 9223372036854775807 ∧ Hid (∀ i (hi : i < l.length), ∃ b o, ao = some ⟨b, o, none⟩ ∧ D b ∧ b < w.heap.size ∧ w.cell? ⟨b, o + i, none⟩ = some (.int .i64 l[i])) := by
  obtain ⟨ao, cap, rfl, hcap, hcm, hcell⟩ := h
  rw [List.length_map] at hcap hcell ⊢
  refine ⟨ao, cap, rfl, by omega, fun i hi => ?_⟩
  obtain ⟨b, o, rfl, h1, h2, hc⟩ := hcell (by omega)
  exact ⟨b, o, rfl, h1, h2, by rw [hc i hi, List.getElem?_map, List.getElem?_eq_getElem hi]; rfl⟩
end
/-- A node that can be read. -/
structure NdR (w : World) (D : Nat → Prop) (kv vv iv : Value) (n : Nd) : Prop where
  keys : BBS w D kv n.keys
  vals : BBS w D vv n.vals
  kids : IS w D iv n.kids
def ndV (b : Bool) (kv vv iv : Value) : Value := .agg #[.bool b, kv, vv, iv]
theorem NdR.keep {w w' : World} {D F : Nat → Prop} {kv vv iv : Value} {n : Nd} (h : NdR w D kv vv iv n) (k : Keep F w w') (hn : ∀ b, b < w.heap.size → D b → ¬ F b) : NdR w' D kv vv iv n := ⟨h.keys.keep k hn, h.vals.keep k hn, h.kids.keep k hn⟩
theorem NdR.more {w : World} {D D' : Nat → Prop} {kv vv iv : Value} {n : Nd} (h : NdR w D kv vv iv n) (hn : ∀ b, b < w.heap.size → D b → D' b) : NdR w D' kv vv iv n := ⟨h.keys.more hn, h.vals.more hn, h.kids.more hn⟩

section
variable {w : World} {D : Nat → Prop} {kv vv iv : Value} {n : Nd}
set_option maxRecDepth 20000 in
set_option maxHeartbeats 800000 in
theorem entry_any (h : NdR w D kv vv iv n) (hf : n.Few) (i : Nat) (hi : i < n.keys.length) : Calls Tryz.prog 102 #[.agg #[.bool n.leaf, kv, vv, iv], .int .i64 i] w fun e w' => e = .returned (.int .i64 (n.ent i)) ∧ Keep No w w' := by
  have hd := h.vals
  obtain ⟨ko, kc, rfl, lk, HK⟩ := h.keys.form
  obtain ⟨vo, vc, rfl, lv, HV⟩ := h.vals.form
  obtain ⟨io, ic, rfl, li, HI⟩ := h.kids.form
  clear h hd
  obtain ⟨gk, ok, uk, rfl, _, hgk, ck, bk⟩ := HK.out i hi
  obtain ⟨uo, uc, rfl, lu, HU⟩ := bk.form
  have hl1 : n.keys[i].length ≤ 1000 := hf.klen _ (List.getElem_mem hi)
  have hn := hf.keys
  have he : n.ent i = if n.leaf then 3 + n.keys[i].length + n.vlen i else 5 + n.keys[i].length := by
    unfold Nd.ent Nd.klen
    rw [List.getD_eq_getElem?_getD, List.getElem?_eq_getElem hi]; rfl
  have HE := Lib.hid he
  clear he bk
  rcases hlf : n.leaf with _ | _
  · have HL := Lib.hid hlf
    clear hlf
    go_enter Tryz.func102, Tryz.ntmps102
    go_wp2_with fail
    go_ret
    rw [HE.out, HL.out]
    exact ⟨rfl, (Keep.refl No w).alloc _⟩
  · have hiv : i < n.vals.length := by rw [hf.lv hlf]; exact hi
    obtain ⟨gv, ov, uv, rfl, _, hgv, cv, bv⟩ := HV.out i hiv
    obtain ⟨xo, xc, rfl, lx, HX⟩ := bv.form
    have hl2 : n.vals[i].length ≤ 1000 := hf.vlen _ (List.getElem_mem hiv)
    have HL := Lib.hid hlf
    have HV2 : Hid (n.vlen i = n.vals[i].length) := by
      unfold Nd.vlen; rw [List.getD_eq_getElem?_getD, List.getElem?_eq_getElem hiv]; rfl
    have hdv : decide ((i : Int) < (n.vals.length : Int)) = true := by simpa using hiv
    have hw1 : IntKind.i64.wrap (3 + (n.keys[i].length : Int)) = 3 + (n.keys[i].length : Int) := IntWalk.i64_in _ (by omega)
    have hw2 : IntKind.i64.wrap (3 + (n.keys[i].length : Int) + (n.vals[i].length : Int)) = 3 + (n.keys[i].length : Int) + (n.vals[i].length : Int) := IntWalk.i64_in _ (by omega)
    clear hlf bv
    go_enter Tryz.func102, Tryz.ntmps102
    go_wp2_with fail
    go_quiet (fail)
    go_wp2_with fail
    go_ret
    rw [HE.out, HL.out, if_pos rfl, HV2.out]
    exact ⟨rfl, ((Keep.refl No w).alloc _).drewN _⟩
end
end Go.Proofs.YtfhapbggngdckaaGreat
