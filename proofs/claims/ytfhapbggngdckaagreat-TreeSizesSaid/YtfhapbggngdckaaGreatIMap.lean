/- Maps with int keys: a block of the heap that reads as a list of pairs; what look-up, store, delete and len do. No program in sight. -/
import Derived.Test.YtfhapbggngdckaaGreatMem
import Derived.Maps.Own
import Derived.Maps.OwnOps
import Derived.Maps.OwnSet
import Derived.Maps.RangeWalk
namespace Go.Proofs.YtfhapbggngdckaaGreat
set_option linter.unusedSimpArgs false
set_option linter.unusedVariables false
open Go.RowKit

def imFind (k : Int) : List (Int × Value) → Nat → Option (Nat × Value)
  | [], _ => none
  | (a, v) :: r, i => if k = a then some (i, v) else imFind k r (i + 1)
def imGet (k : Int) : List (Int × Value) → Option Value
  | [] => none
  | (a, v) :: r => if k = a then some v else imGet k r
def imPut (k : Int) (v : Value) : List (Int × Value) → List (Int × Value)
  | [] => [(k, v)]
  | (a, u) :: r => if k = a then (k, v) :: r else (a, u) :: imPut k v r
def imDel (k : Int) : List (Int × Value) → List (Int × Value)
  | [] => []
  | (a, u) :: r => if k = a then r else (a, u) :: imDel k r

theorem imFind_get (k : Int) : ∀ (m : List (Int × Value)) (i : Nat), (imFind k m i).map (·.2) = imGet k m
  | [], _ => rfl
  | (a, v) :: r, i => by
    unfold imFind imGet
    split
    · rfl
    · exact imFind_get k r (i + 1)
theorem imFind_idx (k : Int) : ∀ (m : List (Int × Value)) (i j : Nat) (v : Value), imFind k m i = some (j, v) → i ≤ j ∧ m[j - i]? = some (k, v)
  | [], _, _, _, h => by simp [imFind] at h
  | (a, u) :: r, i, j, v, h => by
    unfold imFind at h
    split at h
    · rename_i hk; subst hk; simp at h; obtain ⟨rfl, rfl⟩ := h; simp
    · obtain ⟨h1, h2⟩ := imFind_idx k r (i + 1) j v h
      refine ⟨by omega, ?_⟩
      rw [show j - i = (j - (i + 1)) + 1 by omega]
      simpa using h2
theorem imGet_put (k k' : Int) (v : Value) : ∀ m : List (Int × Value), imGet k' (imPut k v m) = if k' = k then some v else imGet k' m
  | [] => by simp [imPut, imGet]
  | (a, u) :: r => by
    unfold imPut
    split
    · rename_i h; subst h
      simp only [imGet]
      split <;> simp_all
    · rename_i h
      simp only [imGet]
      split
      · rename_i h2; subst h2
        rw [if_neg (fun e => h e.symm)]
      · exact imGet_put k k' v r
theorem imGet_of_not_mem (k : Int) : ∀ m : List (Int × Value), k ∉ m.map (·.1) → imGet k m = none
  | [], _ => rfl
  | (a, u) :: r, h => by
    simp only [List.map_cons, List.mem_cons, not_or] at h
    unfold imGet
    rw [if_neg h.1]
    exact imGet_of_not_mem k r h.2
theorem imGet_some_mem {k : Int} {v : Value} : ∀ {m : List (Int × Value)}, imGet k m = some v → k ∈ m.map (·.1)
  | [], h => by simp [imGet] at h
  | (a, u) :: r, h => by
    unfold imGet at h
    split at h
    · rename_i e; subst e; simp
    · simp only [List.map_cons, List.mem_cons]; exact .inr (imGet_some_mem h)
theorem imGet_mem_iff {k : Int} : ∀ {m : List (Int × Value)}, (imGet k m).isSome = true ↔ k ∈ m.map (·.1)
  | [] => by simp [imGet]
  | (a, u) :: r => by
    unfold imGet
    split
    · rename_i e; subst e; simp
    · rename_i e; rw [imGet_mem_iff]; simp [e]
theorem imGet_del (k k' : Int) : ∀ m : List (Int × Value), (m.map (·.1)).Nodup → imGet k' (imDel k m) = if k' = k then none else imGet k' m
  | [], _ => by simp [imDel, imGet]
  | (a, u) :: r, hn => by
    simp only [List.map_cons, List.nodup_cons] at hn
    unfold imDel
    split
    · rename_i h; subst h
      simp only [imGet]
      split
      · rename_i h2; subst h2; exact imGet_of_not_mem _ r hn.1
      · rfl
    · rename_i h
      simp only [imGet]
      split
      · rename_i h2; subst h2; rw [if_neg (fun e => h e.symm)]
      · exact imGet_del k k' r hn.2
theorem mem_imPut {k x : Int} {v : Value} : ∀ {m : List (Int × Value)}, x ∈ (imPut k v m).map (·.1) ↔ x = k ∨ x ∈ m.map (·.1)
  | [] => by simp [imPut]
  | (a, u) :: r => by
    unfold imPut
    split
    · rename_i h; subst h; simp
    · simp only [List.map_cons, List.mem_cons, mem_imPut]
      constructor
      · rintro (h | h | h) <;> simp [h]
      · rintro (h | h | h) <;> simp [h]
theorem nodup_imPut {k : Int} {v : Value} : ∀ {m : List (Int × Value)}, (m.map (·.1)).Nodup → ((imPut k v m).map (·.1)).Nodup
  | [], _ => by simp [imPut]
  | (a, u) :: r, hn => by
    simp only [List.map_cons, List.nodup_cons] at hn
    unfold imPut
    split
    · rename_i h; subst h; simpa using hn
    · rename_i h
      simp only [List.map_cons, List.nodup_cons, mem_imPut, not_or]
      exact ⟨⟨fun e => h e.symm, hn.1⟩, nodup_imPut hn.2⟩
theorem mem_imDel {k x : Int} : ∀ {m : List (Int × Value)}, x ∈ (imDel k m).map (·.1) → x ∈ m.map (·.1)
  | [], h => by simp [imDel] at h
  | (a, u) :: r, h => by
    unfold imDel at h
    split at h
    · simp only [List.map_cons, List.mem_cons]; exact .inr h
    · simp only [List.map_cons, List.mem_cons] at h ⊢
      rcases h with h | h
      · exact .inl h
      · exact .inr (mem_imDel h)
theorem nodup_imDel {k : Int} : ∀ {m : List (Int × Value)}, (m.map (·.1)).Nodup → ((imDel k m).map (·.1)).Nodup
  | [], _ => by simp [imDel]
  | (a, u) :: r, hn => by
    simp only [List.map_cons, List.nodup_cons] at hn
    unfold imDel
    split
    · exact hn.2
    · simp only [List.map_cons, List.nodup_cons]
      exact ⟨fun h => hn.1 (mem_imDel h), nodup_imDel hn.2⟩
theorem length_imPut (k : Int) (v : Value) : ∀ m : List (Int × Value), (imPut k v m).length = if (imGet k m).isSome then m.length else m.length + 1
  | [] => by simp [imPut, imGet]
  | (a, u) :: r => by
    unfold imPut imGet
    split
    · simp
    · rw [List.length_cons, length_imPut k v r]; split <;> simp
theorem length_imDel (k : Int) : ∀ m : List (Int × Value), (imDel k m).length = if (imGet k m).isSome then m.length - 1 else m.length
  | [] => by simp [imDel, imGet]
  | (a, u) :: r => by
    unfold imDel imGet
    split
    · simp
    · rw [List.length_cons, length_imDel k r]
      split
      · rename_i h
        have : r ≠ [] := by rintro rfl; simp [imGet] at h
        have : 0 < r.length := List.length_pos_iff.2 this
        simp; omega
      · simp

/-- The stamps: each below the clock, no two alike. -/
def Stm (es : List MapEntry) (clock : Nat) : Prop := (∀ x ∈ es, x.born < clock) ∧ (es.map (·.born)).Nodup
/-- Block b is a map from int that holds just these pairs. -/
def IMap (w : World) (b : Nat) (m : List (Int × Value)) : Prop :=
  ∃ es clock, w.heap[b]? = some (.map es clock) ∧ es.toList.map (fun e => (e.key, e.val)) = m.map (fun p => (Value.int .i64 p.1, p.2)) ∧ (m.map (·.1)).Nodup ∧ Stm es.toList clock
theorem Stm.push {es : List MapEntry} {clock : Nat} (h : Stm es clock) (k v : Value) (c : Nat) (hc : c = clock := by rfl) : Stm (es ++ [{ key := k, val := v, born := c }]) (clock + 1) := by
  subst hc
  refine ⟨fun x hx => ?_, ?_⟩
  · rcases List.mem_append.1 hx with h1 | h1
    · have := h.1 x h1; omega
    · simp at h1; subst h1; exact Nat.lt_succ_self _
  · rw [List.map_append, List.nodup_append]
    refine ⟨h.2, by simp, ?_⟩
    intro a ha c hc e
    simp only [List.map_cons, List.map_nil, List.mem_singleton] at hc
    obtain ⟨x, hx, rfl⟩ := List.mem_map.1 ha
    have := h.1 x hx
    omega
theorem Stm.modify {es : Array MapEntry} {clock : Nat} (h : Stm es.toList clock) (j : Nat) (f : MapEntry → MapEntry) (hf : ∀ e, (f e).born = e.born) : Stm (es.modify j f).toList clock := by
  have e1 : (es.modify j f).toList.map (·.born) = es.toList.map (·.born) := by
    apply List.ext_getElem?
    intro i
    simp only [List.getElem?_map, Array.getElem?_toList, Array.getElem?_modify]
    split
    · rename_i h1; subst h1; cases es[j]? <;> simp [hf]
    · rfl
  refine ⟨fun x hx => ?_, by rw [e1]; exact h.2⟩
  have : x.born ∈ (es.modify j f).toList.map (·.born) := List.mem_map.2 ⟨x, hx, rfl⟩
  rw [e1] at this
  obtain ⟨y, hy, e⟩ := List.mem_map.1 this
  rw [← e]
  exact h.1 y hy
theorem Stm.erase {es : Array MapEntry} {clock : Nat} (h : Stm es.toList clock) (j : Nat) : Stm (es.eraseIdxIfInBounds j).toList clock := by
  have e2 : (es.eraseIdxIfInBounds j).toList.Sublist es.toList := by
    unfold Array.eraseIdxIfInBounds
    split
    · simp only [Array.toList_eraseIdx]; exact List.eraseIdx_sublist _ _
    · exact List.Sublist.refl _
  exact ⟨fun x hx => h.1 x (e2.subset hx), h.2.sublist (e2.map _)⟩
section
variable {F : Nat → Prop} {P : Program} {w w' : World} {b : Nat} {m : List (Int × Value)}
theorem IMap.lt (h : IMap w b m) : b < w.heap.size := by
  obtain ⟨es, clock, h, _⟩ := h
  exact (Array.getElem?_eq_some_iff.1 h).1
theorem IMap.nodup (h : IMap w b m) : (m.map (·.1)).Nodup := by
  obtain ⟨es, clock, _, _, h, _⟩ := h; exact h
theorem IMap.keep (h : IMap w b m) (k : Keep F w w') (hn : ¬ F b) : IMap w' b m := by
  obtain ⟨es, clock, hb, he, hd, hst⟩ := h
  exact ⟨es, clock, (k.block b (Array.getElem?_eq_some_iff.1 hb).1 hn).trans hb, he, hd, hst⟩
theorem IMap.drewN (h : IMap w b m) (n : Nat) : IMap (w.drewN n) b m := h
theorem IMap.new (w : World) : IMap (w.alloc (.map #[] 0)) w.heap.size [] := ⟨#[], 0, by show (w.heap.push _)[w.heap.size]? = _; simp, rfl, by simp, by simp [Stm]⟩
theorem IMap.ne_row (h : IMap w b m) {g : Nat} {T : TypeId} {cs : List Value} (h' : Row w g T cs) : b ≠ g := by
  rintro rfl
  obtain ⟨es, clock, hb, _⟩ := h
  unfold Row at h'
  rw [hb] at h'
  simp at h'

theorem findNow_int (k : Int) : ∀ (es : List MapEntry) (m : List (Int × Value)) (i : Nat), es.map (fun e => (e.key, e.val)) = m.map (fun p => (Value.int .i64 p.1, p.2)) →
    Instr.findNow (.int .i64) (.int .i64 k) es i = some (imFind k m i)
  | [], [], _, _ => rfl
  | [], _ :: _, _, h => by simp at h
  | _ :: _, [], _, h => by simp at h
  | e :: es, (a, v) :: r, i, h => by
    simp only [List.map_cons, List.cons.injEq, Prod.mk.injEq] at h
    obtain ⟨⟨h1, h2⟩, h3⟩ := h
    have ih := findNow_int k es r (i + 1) h3
    unfold Instr.findNow imFind
    rw [h1]
    simp only [Instr.sameNow, ↓reduceIte]
    by_cases hk : k = a
    · subst hk; simp [h2]
    · have hb : (k == a) = false := by simpa using hk
      simp [hk, hb, ih]
theorem run_findKey_int (k : Int) {K : TypeId} (hK : P.underlying K = some (.int .i64)) (es : List MapEntry) (m : List (Int × Value)) (h : es.map (fun e => (e.key, e.val)) = m.map (fun p => (Value.int .i64 p.1, p.2))) (w : World) :
    (Instr.findKey K (.int .i64 k) es).run P w = .ok (imFind k m 0) w := by
  simp [Instr.findKey, run_underlying hK, findNow_int k es m 0 h]
theorem run_checkKey_int (k : Int) {K : TypeId} (hK : P.underlying K = some (.int .i64)) (e : Bool) (n : Nat) (w : World) : (Instr.checkKey e (n + 1) K (.int .i64 k)).run P w = .ok () w := by
  simp [Instr.checkKey, run_underlying hK]
theorem run_getObj_map {es : Array MapEntry} {clock : Nat} (h : w.heap[b]? = some (.map es clock)) : (getObj b).run P w = .ok (.map es clock) w := by
  simp [getObj, Sem.run, h]
/-- 'v, ok := m[k]' -/
theorem IMap.lookup2 (h : IMap w b m) {t K E : TypeId} (ht : P.underlying t = some (.map K E)) (hK : P.underlying K = some (.int .i64)) {z : Value} (hz : ∀ w, (zeroValue E).run P w = .ok z w) (k : Int) :
    (Instr.lookup t (.map (some b)) (.int .i64 k) true).run P w = .ok (.tuple #[(imGet k m).getD z, .bool (imGet k m).isSome]) w := by
  obtain ⟨es, clock, hb, he, _, _⟩ := h
  have hg := imFind_get k m 0
  simp only [Instr.lookup, Sem.run_bind, run_underlying ht, Result.andThen_ok, run_getObj_map hb, Sem.run_pure, run_checkKey_int k hK _ 9999, run_findKey_int k hK es.toList m he]
  cases hf : imFind k m 0 with
  | none => rw [hf] at hg; simp [← hg, hz]
  | some x => obtain ⟨j, v⟩ := x; rw [hf] at hg; simp [← hg]
/-- 'm[k]' -/
theorem IMap.lookup1 (h : IMap w b m) {t K E : TypeId} (ht : P.underlying t = some (.map K E)) (hK : P.underlying K = some (.int .i64)) {z : Value} (hz : ∀ w, (zeroValue E).run P w = .ok z w) (k : Int) :
    (Instr.lookup t (.map (some b)) (.int .i64 k) false).run P w = .ok ((imGet k m).getD z) w := by
  obtain ⟨es, clock, hb, he, _, _⟩ := h
  have hg := imFind_get k m 0
  simp only [Instr.lookup, Sem.run_bind, run_underlying ht, Result.andThen_ok, run_getObj_map hb, Sem.run_pure, run_checkKey_int k hK _ 9999, run_findKey_int k hK es.toList m he]
  cases hf : imFind k m 0 with
  | none => rw [hf] at hg; simp [← hg, hz]
  | some x => obtain ⟨j, v⟩ := x; rw [hf] at hg; simp [← hg]
/-- The world with another object in a block that there is. -/
def setObjW (w : World) (b : Nat) (o : Obj) : World := { w with heap := w.heap.setIfInBounds b o }
theorem setObjW_same (hb : b < w.heap.size) (o : Obj) : (setObjW w b o).heap[b]? = some o := by simp [setObjW, hb]
theorem setObjW_keep (o : Obj) : Keep (Just b) w (setObjW w b o) :=
  ⟨rfl, rfl, rfl, by simp [setObjW], fun k _ hn => by
    have : b ≠ k := fun e => hn e.symm
    simp [setObjW, Array.getElem?_setIfInBounds, this]⟩
theorem run_setObj_map {es : Array MapEntry} {clock : Nat} (h : w.heap[b]? = some (.map es clock)) (o : Obj) : (setObj b o).run P w = .ok () (setObjW w b o) := by
  simp [setObj, Sem.run, h, setObjW]
theorem imPut_found {k : Int} {v u : Value} : ∀ {m : List (Int × Value)} {i j : Nat}, imFind k m i = some (j, u) → imPut k v m = m.set (j - i) (k, v)
  | [], _, _, h => by simp [imFind] at h
  | (a, x) :: r, i, j, h => by
    have hle := imFind_idx k _ _ _ _ h
    unfold imFind at h
    unfold imPut
    split at h
    · rename_i e; subst e; simp at h; obtain ⟨rfl, _⟩ := h; simp
    · rename_i e
      have := imFind_idx k _ _ _ _ h
      rw [if_neg e, imPut_found (v := v) h, show j - i = (j - (i + 1)) + 1 by omega]
      rfl
theorem imPut_none {k : Int} {v : Value} : ∀ {m : List (Int × Value)} {i : Nat}, imFind k m i = none → imPut k v m = m ++ [(k, v)]
  | [], _, _ => rfl
  | (a, x) :: r, i, h => by
    unfold imFind at h
    unfold imPut
    split at h
    · simp at h
    · rename_i e; rw [if_neg e, imPut_none (v := v) h]; rfl
theorem imDel_found {k : Int} {u : Value} : ∀ {m : List (Int × Value)} {i j : Nat}, imFind k m i = some (j, u) → imDel k m = m.eraseIdx (j - i)
  | [], _, _, h => by simp [imFind] at h
  | (a, x) :: r, i, j, h => by
    unfold imFind at h
    unfold imDel
    split at h
    · rename_i e; subst e; simp at h; obtain ⟨rfl, _⟩ := h; simp
    · rename_i e
      have := imFind_idx k _ _ _ _ h
      rw [if_neg e, imDel_found h, show j - i = (j - (i + 1)) + 1 by omega]
      rfl
theorem imDel_none {k : Int} : ∀ {m : List (Int × Value)} {i : Nat}, imFind k m i = none → imDel k m = m
  | [], _, _ => rfl
  | (a, x) :: r, i, h => by
    unfold imFind at h
    unfold imDel
    split at h
    · simp at h
    · rename_i e; rw [if_neg e, imDel_none h]
/-- 'm[k] = v' -/
theorem IMap.update (h : IMap w b m) {t K E : TypeId} (ht : P.underlying t = some (.map K E)) (hK : P.underlying K = some (.int .i64)) (k : Int) (v : Value) :
    ∃ w', (Instr.mapUpdate t (.map (some b)) (.int .i64 k) v).run P w = .ok () w' ∧ IMap w' b (imPut k v m) ∧ Keep (Just b) w w' := by
  obtain ⟨es, clock, hb, he, hd, hst⟩ := h
  have hlt := (Array.getElem?_eq_some_iff.1 hb).1
  simp only [Instr.mapUpdate, Sem.run_bind, run_underlying ht, Result.andThen_ok, run_getObj_map hb, Sem.run_pure, run_checkKey_int k hK _ 9999, run_findKey_int k hK es.toList m he]
  cases hf : imFind k m 0 with
  | none =>
    simp only [run_setObj_map hb]
    exact ⟨_, rfl, ⟨_, _, setObjW_same hlt _, by rw [imPut_none hf]; simp [he], nodup_imPut hd, by rw [Array.toList_push]; exact hst.push _ _ _⟩, setObjW_keep _⟩
  | some x =>
    obtain ⟨j, u⟩ := x
    obtain ⟨_, hj⟩ := imFind_idx k m 0 j u hf
    simp only [Nat.sub_zero] at hj
    have hej : (es.toList.map (fun e => (e.key, e.val)))[j]? = some (.int .i64 k, u) := by rw [he]; simp [hj]
    simp only [List.getElem?_map, Option.map_eq_some_iff, Prod.mk.injEq] at hej
    obtain ⟨e0, he0, hk0, hv0⟩ := hej
    have he0' : es[j]? = some e0 := by simpa using he0
    simp only [he0', Option.map_some, Option.getD_some, hk0, Instr.keyThatStays, Instr.sameBits, BEq.rfl, Bool.and_self, ↓reduceIte, Sem.run_pure, Sem.run_bind, Result.andThen_ok, run_setObj_map hb]
    refine ⟨_, rfl, ⟨_, _, setObjW_same hlt _, ?_, nodup_imPut hd, hst.modify _ _ (fun _ => rfl)⟩, setObjW_keep _⟩
    rw [imPut_found hf, Nat.sub_zero]
    apply List.ext_getElem?
    intro i
    have hei : (es.toList.map (fun e => (e.key, e.val)))[i]? = (m.map (fun p => (Value.int .i64 p.1, p.2)))[i]? := by rw [he]
    simp only [List.getElem?_map, Array.getElem?_toList] at hei
    simp only [List.getElem?_map, Array.getElem?_toList, Array.getElem?_modify, List.getElem?_set]
    by_cases hij : j = i
    · subst hij
      have hjl : j < m.length := by
        rcases Nat.lt_or_ge j m.length with h | h
        · exact h
        · rw [List.getElem?_eq_none h] at hj; simp at hj
      simp [he0', hjl]
    · simp [hij, hei]
/-- 'delete(m, k)' -/
theorem IMap.delete (h : IMap w b m) {t K E : TypeId} (ht : P.underlying t = some (.map K E)) (hK : P.underlying K = some (.int .i64)) (k : Int) (t2 ty : TypeId) :
    ∃ w', (Builtin.delete_ #[t, t2] ty #[.map (some b), .int .i64 k]).run P w = .ok (.tuple #[]) w' ∧ IMap w' b (imDel k m) ∧ Keep (Just b) w w' := by
  obtain ⟨es, clock, hb, he, hd, hst⟩ := h
  have hlt := (Array.getElem?_eq_some_iff.1 hb).1
  have h0 : (#[t, t2] : Array TypeId)[0]? = some t := rfl
  have h1 : (#[Value.map (some b), .int .i64 k] : Array Value)[0]? = some (.map (some b)) := rfl
  have h2 : (#[Value.map (some b), .int .i64 k] : Array Value)[1]? = some (.int .i64 k) := rfl
  simp only [Builtin.delete_, h0, h1, h2, Sem.run_bind, run_underlying ht, Result.andThen_ok, run_getObj_map hb, Sem.run_pure, run_checkKey_int k hK _ 9999, run_findKey_int k hK es.toList m he]
  cases hf : imFind k m 0 with
  | none =>
    simp only [Sem.run_bind, run_setObj_map hb, Result.andThen_ok, Sem.run_pure]
    exact ⟨_, rfl, ⟨_, _, setObjW_same hlt _, by rw [imDel_none hf]; exact he, nodup_imDel hd, hst⟩, setObjW_keep _⟩
  | some x =>
    obtain ⟨j, u⟩ := x
    simp only [Sem.run_bind, run_setObj_map hb, Result.andThen_ok, Sem.run_pure]
    refine ⟨_, rfl, ⟨_, _, setObjW_same hlt _, ?_, nodup_imDel hd, hst.erase j⟩, setObjW_keep _⟩
    rw [imDel_found hf, Nat.sub_zero]
    have e1 : ∀ {α β : Type} (f : α → β) (l : List α) (i : Nat), (l.eraseIdx i).map f = (l.map f).eraseIdx i := by
      intro α β f l
      induction l with
      | nil => intro i; rfl
      | cons x r ih => intro i; cases i with
        | zero => rfl
        | succ i => simp [ih]
    have e2 : (es.eraseIdxIfInBounds j).toList = es.toList.eraseIdx j := by
      unfold Array.eraseIdxIfInBounds
      split
      · simp
      · rename_i hnl
        have : es.toList.length ≤ j := by simpa using hnl
        rw [List.eraseIdx_of_length_le this]
    rw [e2, e1, he, ← e1]
/-- 'len(m)' -/
theorem IMap.len (h : IMap w b m) {t K E : TypeId} (ht : P.underlying t = some (.map K E)) (ty : TypeId) :
    (Builtin.len_ #[t] ty #[.map (some b)]).run P w = .ok (.int .i64 m.length) w := by
  obtain ⟨es, clock, hb, he, hd, hst⟩ := h
  have h0 : (#[t] : Array TypeId)[0]? = some t := rfl
  have h1 : (#[Value.map (some b)] : Array Value)[0]? = some (.map (some b)) := rfl
  have hl : es.size = m.length := by have := congrArg List.length he; simpa using this
  simp only [Builtin.len_, h0, h1, Sem.run_bind, run_underlying ht, Result.andThen_ok, run_getObj_map hb, Sem.run_pure, hl, goInt]
/-- 'm[k] = v' in a walk. -/
theorem wp_mapUpdate_I {o : Oper} {a : Act} {K : Act → World → Prop} {Q : Exit → Act → World → Prop} (x y z : Operand) {t KT E : TypeId} (ht : P.underlying t = some (.map KT E)) (hKT : P.underlying KT = some (.int .i64))
    (ho : o.op = .mapUpdate t x y z) (h : IMap w b m) {k : Int} {v : Value} (hx : a.eval x = .map (some b)) (hy : a.eval y = .int .i64 k) (hz : a.eval z = v)
    (hK : ∀ w', IMap w' b (imPut k v m) → Keep (Just b) w w' → K (a.put o.dst undef) w') : o.wp P a w K Q := by
  obtain ⟨w', hrun, h2, h3⟩ := h.update (P := P) ht hKT k v
  unfold Oper.wp execOp
  simp only [ho, Sem.run_bind, Sem.run_pure, Result.andThen_ok, hx, hy, hz, hrun]
  exact hK w' h2 h3
theorem wpList_mapUpdate_I {ops : Array Oper} {rest : List Oper} {o : Oper} {a : Act} {Q : Exit → Act → World → Prop} (hgd : o.guard = none) (x y z : Operand) {t KT E : TypeId} (ht : P.underlying t = some (.map KT E)) (hKT : P.underlying KT = some (.int .i64))
    (ho : o.op = .mapUpdate t x y z) (h : IMap w b m) {k : Int} {v : Value} (hx : a.eval x = .map (some b)) (hy : a.eval y = .int .i64 k) (hz : a.eval z = v)
    (hK : ∀ w', IMap w' b (imPut k v m) → Keep (Just b) w w' → wpList P ops Q rest (a.put o.dst undef) w') : wpList P ops Q (o :: rest) a w :=
  wpList_plain hgd fun _ hh => wp_mapUpdate_I x y z ht hKT ho h hx hy hz fun w' h2 h3 => hh _ _ (hK w' h2 h3)
theorem step_mapUpdate_I {ops : Array Oper} {o : Oper} {a : Act} {K : Act → World → Prop} {Q : Exit → Act → World → Prop} {E' : Prop} (hgd : o.guard = none) (x y z : Operand) {t KT E : TypeId} (ht : P.underlying t = some (.map KT E)) (hKT : P.underlying KT = some (.int .i64))
    (ho : o.op = .mapUpdate t x y z) (h : IMap w b m) {k : Int} {v : Value} (hx : a.eval x = .map (some b)) (hy : a.eval y = .int .i64 k) (hz : a.eval z = v)
    (hK : ∀ w', IMap w' b (imPut k v m) → Keep (Just b) w w' → K (a.put o.dst undef) w') : if Region.wanted o (yielded ops a.tmps) = true then Oper.wp P o a w K Q else E' := by
  have hw : Region.wanted o (yielded ops a.tmps) = true := by simp [Region.wanted, hgd]
  rw [if_pos hw]
  exact wp_mapUpdate_I x y z ht hKT ho h hx hy hz hK
/-- 'delete(m, k)' in a walk. -/
theorem wp_delete_I {o : Oper} {a : Act} {K : Act → World → Prop} {Q : Exit → Act → World → Prop} (x y : Operand) {t t2 KT E : TypeId} (ht : P.underlying t = some (.map KT E)) (hKT : P.underlying KT = some (.int .i64))
    (ho : o.op = .call { callee := .builtin .delete, args := #[x, y], argTypes := #[t, t2] }) (h : IMap w b m) {k : Int} (hx : a.eval x = .map (some b)) (hy : a.eval y = .int .i64 k)
    (hK : ∀ w', IMap w' b (imDel k m) → Keep (Just b) w w' → K (a.put o.dst (.tuple #[])) w') : o.wp P a w K Q := by
  obtain ⟨w', hrun, h2, h3⟩ := h.delete (P := P) ht hKT k t2 o.type
  unfold Oper.wp execOp
  simp only [ho, resolve, invoke, builtin, Sem.run_bind, Sem.run_pure, Result.andThen_ok, List.map_toArray, List.map_cons, List.map_nil, hx, hy, hrun]
  exact hK w' h2 h3
theorem wpList_delete_I {ops : Array Oper} {rest : List Oper} {o : Oper} {a : Act} {Q : Exit → Act → World → Prop} (hgd : o.guard = none) (x y : Operand) {t t2 KT E : TypeId} (ht : P.underlying t = some (.map KT E)) (hKT : P.underlying KT = some (.int .i64))
    (ho : o.op = .call { callee := .builtin .delete, args := #[x, y], argTypes := #[t, t2] }) (h : IMap w b m) {k : Int} (hx : a.eval x = .map (some b)) (hy : a.eval y = .int .i64 k)
    (hK : ∀ w', IMap w' b (imDel k m) → Keep (Just b) w w' → wpList P ops Q rest (a.put o.dst (.tuple #[])) w') : wpList P ops Q (o :: rest) a w :=
  wpList_plain hgd fun _ hh => wp_delete_I x y ht hKT ho h hx hy fun w' h2 h3 => hh _ _ (hK w' h2 h3)
def keyInt : Value → Int
  | .int _ i => i
  | _ => 0
/-- 'range m' under way: block r is an iterator over the map in block b; done: the keys so far. -/
structure IRng (w : World) (b r : Nat) (m : List (Int × Value)) (done : List Int) : Prop where
  it : ∃ es clock since seen c0, w.heap[b]? = some (.map es clock) ∧ es.toList.map (fun e => (e.key, e.val)) = m.map (fun p => (Value.int .i64 p.1, p.2)) ∧ (m.map (·.1)).Nodup ∧ Stm es.toList clock ∧
    w.heap[r]? = some (.mapIter (some b) since seen c0) ∧ (∀ x ∈ es.toList, x.born < since) ∧ since ≤ c0 ∧ since ≤ clock ∧ ∃ left : List Int, (leftOf es seen).toList.map (·.key) = left.map (Value.int .i64) ∧ (done ++ left).Perm (m.map (·.1))
variable {r : Nat} {done : List Int}
theorem IRng.keep (h : IRng w b r m done) (k : Keep F w w') (hb : ¬ F b) (hr : ¬ F r) : IRng w' b r m done := by
  obtain ⟨⟨es, clock, since, seen, c0, h1, h2, h3, h4, h5, h6⟩⟩ := h
  exact ⟨⟨es, clock, since, seen, c0, (k.block b (Array.getElem?_eq_some_iff.1 h1).1 hb).trans h1, h2, h3, h4, (k.block r (Array.getElem?_eq_some_iff.1 h5).1 hr).trans h5, h6⟩⟩
theorem IRng.lt (h : IRng w b r m done) : r < w.heap.size ∧ b < w.heap.size ∧ r ≠ b := by
  obtain ⟨⟨es, clock, since, seen, c0, h1, h2, h3, h4, h5, h6⟩⟩ := h
  refine ⟨(Array.getElem?_eq_some_iff.1 h5).1, (Array.getElem?_eq_some_iff.1 h1).1, fun e => ?_⟩
  rw [e, h1] at h5; cases h5
theorem IRng.subset (h : IRng w b r m done) : done.length ≤ m.length := by
  obtain ⟨⟨es, clock, since, seen, c0, h1, h2, h3, h4, h5, h6, h7, h8, left, h9, h10⟩⟩ := h
  have := h10.length_eq
  simp at this; omega
theorem IMap.range (h : IMap w b m) {t K E : TypeId} (ht : P.underlying t = some (.map K E)) :
    ∃ w', (Instr.range t (.map (some b))).run P w = .ok (.pointer (some ⟨w.heap.size, 0, none⟩)) w' ∧ IRng w' b w.heap.size m [] ∧ Keep No w w' ∧ w'.heap.size = w.heap.size + 1 := by
  have hlt := h.lt
  obtain ⟨es, clock, hb, he, hd, hst⟩ := h
  refine ⟨_, run_range_map w t K E b es clock ht hb, ⟨⟨es, clock, clock, #[], clock, ((MapKept.heap_alloc w _).2 b hlt).trans hb, he, hd, hst, (MapKept.heap_alloc w _).1, hst.1, Nat.le_refl _, Nat.le_refl _, m.map (·.1), ?_, by simp⟩⟩, (Keep.refl _ _).alloc _, by simp⟩
  have := congrArg (List.map Prod.fst) he
  have e0 : leftOf es #[] = es := by unfold leftOf; exact Array.filter_eq_self.2 (fun x _ => by simp)
  rw [e0]
  simpa [Function.comp_def] using this
theorem born_apart {es : List MapEntry} (hn : (es.map (·.born)).Nodup) {e : MapEntry} (he : e ∈ es) : es.Perm (e :: es.filter (fun x => !(x.born == e.born))) := by
  obtain ⟨s, t, rfl⟩ := List.append_of_mem he
  rw [List.map_append, List.map_cons, List.nodup_append, List.nodup_cons] at hn
  obtain ⟨h1, ⟨h2, h3⟩, h4⟩ := hn
  have hs : s.filter (fun x => !(x.born == e.born)) = s := List.filter_eq_self.2 fun x hx => by
    have := h4 x.born (List.mem_map.2 ⟨x, hx, rfl⟩) e.born (by simp)
    simp [this]
  have htt : t.filter (fun x => !(x.born == e.born)) = t := List.filter_eq_self.2 fun x hx => by
    have : x.born ≠ e.born := fun e2 => h2 (e2 ▸ List.mem_map.2 ⟨x, hx, rfl⟩)
    simp [this]
  rw [List.filter_append, List.filter_cons, hs, htt]
  simp
/-- The step. -/
theorem IRng.next (h : IRng w b r m done) (ty : TypeId) :
    (done.Perm (m.map (·.1)) ∧ (Instr.next (.pointer (some ⟨r, 0, none⟩)) false ty).run P w = .ok (.tuple #[.bool false]) w) ∨
    ∃ (k : Int) (v : Value) (w' : World), (Instr.next (.pointer (some ⟨r, 0, none⟩)) false ty).run P w = .ok (.tuple #[.bool true, .int .i64 k, v]) w' ∧ IRng w' b r m (done ++ [k]) ∧ Keep (Just r) w w' ∧
      (Instr.entry (.pointer (some ⟨r, 0, none⟩))).run P w' = .ok (.tuple #[.int .i64 k, v]) w' := by
  obtain ⟨_, _, hne⟩ := h.lt
  obtain ⟨⟨es, clock, since, seen, c0, hb, he, hd, hst, hr, hold, hsc, hsk, left, hl, hp⟩⟩ := h
  rcases run_next_at (P := P) w ty r b since c0 seen es clock hr hb hold hsc with ⟨h0, hrun⟩ | ⟨e, hem, w1, hal, hrun⟩
  · left
    refine ⟨?_, hrun⟩
    have : (leftOf es seen).toList = [] := List.eq_nil_of_length_eq_zero (by simpa using h0)
    rw [this] at hl
    have hl' : left = [] := by simpa using hl.symm
    subst hl'
    simpa using hp
  · right
    obtain ⟨hin, _⟩ := mem_left hem
    have hkey : e.key ∈ left.map (Value.int .i64) := by rw [← hl]; exact List.mem_map.2 ⟨e, hem, rfl⟩
    obtain ⟨k, hk, ek⟩ := List.mem_map.1 hkey
    have hr1 : w1.heap[r]? = some (.mapIter (some b) since seen c0) := by rcases hal with rfl | rfl <;> exact hr
    have hb1 : w1.heap[b]? = some (.map es clock) := by rcases hal with rfl | rfl <;> exact hb
    have hset := MapKept.heap_set (o' := .mapIter (some b) since (seen.push e.born) clock) hr1
    have hb' : (ChangeMaps.setBlock w1 r (.mapIter (some b) since (seen.push e.born) clock)).heap[b]? = some (.map es clock) := (hset.2 b (fun e1 => hne e1.symm)).trans hb1
    rw [← ek] at hrun
    refine ⟨k, e.val, _, hrun, ⟨⟨es, clock, since, seen.push e.born, clock, hb', he, hd, hst, hset.1, hold, hsk, hsk, ((leftOf es (seen.push e.born)).toList.map (·.key)).map keyInt, ?_, ?_⟩⟩, ?_, ?_⟩
    · rw [List.map_map]
      refine (List.map_congr_left ?_).trans (List.map_id _) |>.symm
      intro x hx
      obtain ⟨y, hy, rfl⟩ := List.mem_map.1 hx
      have : (y.key, y.val) ∈ m.map (fun p => (Value.int .i64 p.1, p.2)) := by rw [← he]; exact List.mem_map.2 ⟨y, (mem_left hy).1, rfl⟩
      obtain ⟨q, _, eq⟩ := List.mem_map.1 this
      simp only [Prod.mk.injEq] at eq
      show Value.int .i64 (keyInt y.key) = id y.key
      rw [← eq.1]; rfl
    · refine List.Perm.trans ?_ hp
      rw [List.append_assoc]
      refine List.Perm.append_left done ?_
      have h1 : (leftOf es seen).toList.Perm (e :: (leftOf es (seen.push e.born)).toList) := by
        have hn : ((leftOf es seen).toList.map (·.born)).Nodup := by
          refine hst.2.sublist (List.Sublist.map _ ?_)
          unfold leftOf
          rw [Array.toList_filter]
          exact List.filter_sublist
        have e2 : (leftOf es (seen.push e.born)).toList = (leftOf es seen).toList.filter (fun x => !(x.born == e.born)) := by
          unfold leftOf
          simp only [Array.toList_filter, List.filter_filter]
          refine List.filter_congr fun x _ => ?_
          rw [contains_push]
          cases seen.contains x.born <;> cases (x.born == e.born) <;> rfl
        rw [e2]
        exact born_apart hn hem
      have h2 := (h1.map (·.key)).map keyInt
      have h3 : (left.map (Value.int .i64)).map keyInt = left := by
        rw [List.map_map]
        exact List.map_id _
      rw [hl, h3, List.map_cons, List.map_cons, ← ek] at h2
      exact h2.symm
    · refine ⟨?_, ?_, ?_, ?_, fun i _ hi => (hset.2 i (fun e => hi e)).trans (by rcases hal with rfl | rfl <;> rfl)⟩
      · rcases hal with rfl | rfl <;> rfl
      · rcases hal with rfl | rfl <;> rfl
      · rcases hal with rfl | rfl <;> rfl
      · have e5 : (ChangeMaps.setBlock w1 r (.mapIter (some b) since (seen.push e.born) clock)).heap.size = w1.heap.size := by simp [ChangeMaps.setBlock]
        have e6 : w1.heap.size = w.heap.size := by rcases hal with rfl | rfl <;> rfl
        omega
    · have := run_entry_at (P := P) _ r b since seen es clock e hset.1 hb' hin hst.2
      rw [← ek] at this
      exact this
end
section
variable {P : Program} {w : World} {b r : Nat} {m : List (Int × Value)} {done : List Int} {ops : Array Oper} {rest : List Oper} {o : Oper} {a : Act} {Q : Exit → Act → World → Prop}
theorem wpList_range_I (hg : o.guard = none) (x : Operand) {t K E : TypeId} (hop : o.op = Op.range t x) (ht : P.underlying t = some (.map K E)) (hx : a.eval x = .map (some b)) (h : IMap w b m)
    (hK : ∀ w', IRng w' b w.heap.size m [] → Keep No w w' → wpList P ops Q rest (a.put o.dst (.pointer (some ⟨w.heap.size, 0, none⟩))) w') : wpList P ops Q (o :: rest) a w := by
  refine wpList_plain hg fun K' hK' => ?_
  obtain ⟨w', hrun, r1, r2, r3⟩ := h.range (P := P) ht
  unfold Oper.wp
  simp [execOp, hop, hx, hrun, Result.andThen]
  exact hK' _ _ (hK w' r1 r2)
theorem wpList_next_I (hg : o.guard = none) (it : Operand) (hop : o.op = Op.next it false) (hit : a.eval it = .pointer (some ⟨r, 0, none⟩)) (h : IRng w b r m done)
    (hDone : done.Perm (m.map (·.1)) → wpList P ops Q rest (a.put o.dst (.tuple #[.bool false])) w)
    (hMore : ∀ (k : Int) (v : Value) (w' : World), IRng w' b r m (done ++ [k]) → Keep (Just r) w w' → (Instr.entry (.pointer (some ⟨r, 0, none⟩))).run P w' = .ok (.tuple #[.int .i64 k, v]) w' → wpList P ops Q rest (a.put o.dst (.tuple #[.bool true, .int .i64 k, v])) w') :
    wpList P ops Q (o :: rest) a w := by
  refine wpList_plain hg fun K' hK' => ?_
  unfold Oper.wp
  rcases h.next (P := P) o.type with ⟨h0, hrun⟩ | ⟨k, v, w', hrun, h1, h2, h3⟩
  · simp [execOp, hop, hit, hrun, Result.andThen]
    exact hK' _ _ (hDone h0)
  · simp [execOp, hop, hit, hrun, Result.andThen]
    exact hK' _ _ (hMore k v w' h1 h2 h3)
end
end Go.Proofs.YtfhapbggngdckaaGreat
