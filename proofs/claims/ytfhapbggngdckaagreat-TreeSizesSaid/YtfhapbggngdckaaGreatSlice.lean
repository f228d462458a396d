/- Laws for slices of one-cell elements, in the words of Mem: append, and the operation in a walk. No program in sight. -/
import Derived.Test.YtfhapbggngdckaaGreatMem
import Derived.Deep.AppendLies
import Derived.RegionTactic
namespace Go.Proofs.YtfhapbggngdckaaGreat
open Go.RowKit

/-- t is a slice type, e its element type, of one cell, so many bytes, with zero value z. -/
structure ET (P : Program) (t e : TypeId) (z : Value) (bytes : Nat) : Prop where
  ht : P.underlying t = some (.slice e)
  hi : ∃ i, P.info? e = some i ∧ i.zero = some z ∧ i.size = 1 ∧ i.bytes = bytes
  hz : z.cells = #[z]
theorem ET.mk' {P : Program} {t e : TypeId} {z : Value} {bytes : Nat} (ht : P.underlying t = some (.slice e)) (h : (P.info? e).map (fun i => (i.zero, i.size, i.bytes)) = some (some z, 1, bytes)) (hz : z.cells = #[z]) : ET P t e z bytes := by
  obtain ⟨i, h1, h2, h3, h4⟩ := info_parts h
  exact ⟨ht, ⟨i, h1, h2, h3, h4⟩, hz⟩
/-- Every value of a list is one cell. -/
def Cells1 (xs : List Value) : Prop := ∀ u ∈ xs, u.oneCell' = true
theorem cells1_u8 (l : List UInt8) : Cells1 (l.map u8) := by intro u hu; obtain ⟨b, _, rfl⟩ := List.mem_map.1 hu; rfl
theorem cells1_int (k : IntKind) (l : List Int) : Cells1 (l.map (Value.int k)) := ints_oneCell k l
theorem cells1_append {xs ys : List Value} (h : Cells1 xs) (h' : Cells1 ys) : Cells1 (xs ++ ys) := by
  intro u hu; rcases List.mem_append.1 hu with hu | hu
  · exact h u hu
  · exact h' u hu
theorem cells1_take {xs : List Value} (h : Cells1 xs) (n : Nat) : Cells1 (xs.take n) := fun u hu => h u (List.mem_of_mem_take hu)
theorem cells1_drop {xs : List Value} (h : Cells1 xs) (n : Nat) : Cells1 (xs.drop n) := fun u hu => h u (List.mem_of_mem_drop hu)

section
variable {P : Program} {t e : TypeId} {z : Value} {bytes : Nat} {w : World} {B D : Nat → Prop} {v u : Value} {xs ys : List Value}
theorem run_append (E : ET P t e z bytes) (ty : TypeId) (hown : Own w B e v xs) (hr : RS w D u ys) (h1 : Cells1 ys) (hb : bytes ≠ 0) (hlen : (xs.length + ys.length) * bytes ≤ 140737488355328) :
    ∃ v' w', (Builtin.append_ #[t, t] ty #[v, u]).run P w = .ok v' w' ∧ Own w' (fun k => B k ∨ w.heap.size ≤ k) e v' (xs ++ ys) ∧ Keep (fun k => v.ownBlock = some k) w w' ∧
      (v'.ownBlock = v.ownBlock ∨ v'.ownBlock = some w.heap.size) := by
  obtain ⟨i, hi, hz, hs, hby⟩ := E.hi
  have hl : xs.length + ys.length ≤ 140737488355328 := Nat.le_trans (Nat.le_mul_of_pos_right _ (Nat.pos_of_ne_zero hb)) hlen
  have hor : w.ownsRow 0 e 1 v xs.length xs := hown.to_ownsRow (fun _ _ _ => Nat.zero_le _)
  have fin : ∀ v' w', w'.ownsRow 0 e 1 v' (xs.length + ys.length) (xs ++ ys) → w.grownBy w' v.ownBlock → (v'.ownBlock = v.ownBlock ∨ v'.ownBlock = some w.heap.size) →
      Own w' (fun k => B k ∨ w.heap.size ≤ k) e v' (xs ++ ys) ∧ Keep (fun k => v.ownBlock = some k) w w' := by
    intro v' w' h2 h3 h4
    refine ⟨?_, Keep.of_grown h3⟩
    have h5 := Own.of_ownsRow h2
    rcases h5 with h5 | ⟨g, rest, e1, _, hrow, hm⟩
    · exact .inl h5
    · refine .inr ⟨g, rest, e1, ?_, hrow, hm⟩
      subst e1
      simp only [Value.ownBlock, Option.some.injEq] at h4
      rcases h4 with h4 | h4
      · exact .inl (hown.blk h4.symm).1
      · exact .inr (by omega)
  obtain ⟨ao, cap, rfl, hcap, hm, hcell⟩ := hr
  rcases ao with _ | ad
  · have hy : ys = [] := by
      rcases Nat.eq_zero_or_pos ys.length with h0 | h0
      · exact List.eq_nil_of_length_eq_zero h0
      · obtain ⟨b, o, h, _⟩ := hcell h0; cases h
    subst hy
    refine ⟨v, w, ?_, by simpa using hown.more (fun _ _ h => Or.inl h), Keep.refl _ _, .inl rfl⟩
    rcases hown with ⟨rfl, rfl⟩ | ⟨g, rest, rfl, _, _, _⟩
    · simp [Builtin.append_, run_underlying E.ht, sizeOf, typeInfo, hi, Builtin.lenOf, Builtin.firstCells]
    · simp [Builtin.append_, run_underlying E.ht, sizeOf, typeInfo, hi, Builtin.lenOf, Builtin.firstCells, storeCells]
  · have hnews : ∀ j x, ys[j]? = some x → w.cell? (ad.add j) = some x := by
      intro j x hx
      have hj : j < ys.length := (List.getElem?_eq_some_iff.1 hx).1
      obtain ⟨b, o, h, _, _, hc⟩ := hcell (by omega)
      cases h
      have := hc j hj
      rw [hx] at this
      rw [Addr.add_lit]; exact this
    obtain ⟨v', w', hrun, h2, h3, _, h5⟩ := run_append_own_at (P := P) w 0 t ty e i z 1 bytes E.ht hi hz hs hby (by rw [E.hz]; rfl) (by omega) v xs.length xs hor ad ys.length cap ys (by simp) hnews h1
      (by simp [maxLen]; omega) hlen (Nat.zero_le _)
    obtain ⟨f1, f2⟩ := fin v' w' h2 h3 h5
    exact ⟨v', w', hrun, f1, f2, h5⟩

/-- append as one operation, whatever comes behind. -/
theorem wp_append {o : Oper} {a : Act} {K : Act → World → Prop} {Q : Exit → Act → World → Prop} (s x : Operand) (E : ET P t e z bytes)
    (ho : o.op = .call { callee := .builtin .append, args := #[s, x], argTypes := #[t, t] }) (hs : a.eval s = v) (hx : a.eval x = u)
    (hown : Own w B e v xs) (hr : RS w D u ys) (h1 : Cells1 ys) (hb : bytes ≠ 0) (hlen : (xs.length + ys.length) * bytes ≤ 140737488355328)
    (h : ∀ v' w', Own w' (fun k => B k ∨ w.heap.size ≤ k) e v' (xs ++ ys) → Keep (fun k => v.ownBlock = some k) w w' → (v'.ownBlock = v.ownBlock ∨ v'.ownBlock = some w.heap.size) → K (a.put o.dst v') w') : o.wp P a w K Q := by
  obtain ⟨v', w', hrun, h2, h3, h4⟩ := run_append E o.type hown hr h1 hb hlen
  unfold Oper.wp execOp
  simp only [ho, resolve, invoke, builtin, Sem.run_bind, Sem.run_pure, Result.andThen_ok, List.map_toArray, List.map_cons, List.map_nil, hs, hx, hrun]
  exact h v' w' h2 h3 h4
theorem wpList_append {ops : Array Oper} {rest : List Oper} {o : Oper} {a : Act} {Q : Exit → Act → World → Prop} (hgd : o.guard = none) (s x : Operand) (E : ET P t e z bytes)
    (ho : o.op = .call { callee := .builtin .append, args := #[s, x], argTypes := #[t, t] }) (hs : a.eval s = v) (hx : a.eval x = u)
    (hown : Own w B e v xs) (hr : RS w D u ys) (h1 : Cells1 ys) (hb : bytes ≠ 0) (hlen : (xs.length + ys.length) * bytes ≤ 140737488355328)
    (h : ∀ v' w', Own w' (fun k => B k ∨ w.heap.size ≤ k) e v' (xs ++ ys) → Keep (fun k => v.ownBlock = some k) w w' → (v'.ownBlock = v.ownBlock ∨ v'.ownBlock = some w.heap.size) → wpList P ops Q rest (a.put o.dst v') w') :
    wpList P ops Q (o :: rest) a w :=
  wpList_plain hgd fun _ hK => wp_append s x E ho hs hx hown hr h1 hb hlen fun v' w' h2 h3 h4 => hK _ _ (h v' w' h2 h3 h4)
theorem step_append {ops : Array Oper} {o : Oper} {a : Act} {K : Act → World → Prop} {Q : Exit → Act → World → Prop} {E' : Prop} (hgd : o.guard = none) (s x : Operand) (E : ET P t e z bytes)
    (ho : o.op = .call { callee := .builtin .append, args := #[s, x], argTypes := #[t, t] }) (hs : a.eval s = v) (hx : a.eval x = u)
    (hown : Own w B e v xs) (hr : RS w D u ys) (h1 : Cells1 ys) (hb : bytes ≠ 0) (hlen : (xs.length + ys.length) * bytes ≤ 140737488355328)
    (h : ∀ v' w', Own w' (fun k => B k ∨ w.heap.size ≤ k) e v' (xs ++ ys) → Keep (fun k => v.ownBlock = some k) w w' → (v'.ownBlock = v.ownBlock ∨ v'.ownBlock = some w.heap.size) → K (a.put o.dst v') w') :
    if Region.wanted o (yielded ops a.tmps) = true then Oper.wp P o a w K Q else E' := by
  have hw : Region.wanted o (yielded ops a.tmps) = true := by simp [Region.wanted, hgd]
  rw [if_pos hw]
  exact wp_append s x E ho hs hx hown hr h1 hb hlen h
/-- A new block of one cell, as a slice. -/
theorem rs_box (w : World) (T : TypeId) (x : Value) : RS (w.alloc (.cells #[x] T)) (Just w.heap.size) (.slice (some ⟨w.heap.size, 0, none⟩) 1 1) [x] :=
  ⟨_, 1, rfl, by simp, by omega, fun _ => ⟨w.heap.size, 0, rfl, rfl, by simp, fun i hi => by
    simp at hi; subst hi; rw [Nat.add_zero, World.cell?_alloc_new]; rfl⟩⟩
/-- So many zeros: behind a name, so that the walk does not write them out. -/
def zs (z : Value) (n : Nat) : List Value := List.replicate n z
/-- make, whatever the sizes. -/
theorem run_mk (E : ET P t e z bytes) (w : World) (kl kc : IntKind) (l c : Int) (h0 : 0 ≤ l) (hlc : l ≤ c) (hb : (bytes : Int) * c ≤ 281474976710656) (h63 : c ≤ 9223372036854775807) :
    (Instr.makeSlice t (.int kl l) (.int kc c)).run P w = .ok (.slice (some ⟨w.heap.size, 0, none⟩) l.toNat c.toNat) (w.alloc (.cells (zs z c.toNat).toArray e)) := by
  obtain ⟨i, hi, hz, hs, hby⟩ := E.hi
  rw [run_make (P := P) w t e i z E.ht hi hz kl kc l c h0 hlc (by rw [hby]; exact hb) h63, E.hz, hs, Nat.mul_one]
  have : madeCells #[z] c.toNat = (zs z c.toNat).toArray := by
    unfold zs; rw [← toList_madeCells_one, Array.toArray_toList]
  rw [this]
theorem length_zs (z : Value) (n : Nat) : (zs z n).length = n := by simp [zs]
theorem zs_u8 (n : Nat) : zs (.int .u8 0) n = (List.replicate n (0 : UInt8)).map u8 := by simp [zs, u8]
theorem own_new (w : World) (e : TypeId) (cs : List Value) (h : cs.length ≤ 9223372036854775807) : Own (w.alloc (.cells cs.toArray e)) (From w.heap.size) e (.slice (some ⟨w.heap.size, 0, none⟩) cs.length cs.length) cs :=
  .inr ⟨_, [], by simp, Nat.le_refl _, by simpa using Row.new w e cs, by simpa using h⟩
/-- The cells of a readable slice, loaded. -/
theorem run_first (n : Nat) (hr : RS w D u ys) (hn : n = ys.length) : (Builtin.firstCells 1 n u).run P w = .ok ys.toArray w := by
  obtain ⟨ao, cap, rfl, hcap, hm, hcell⟩ := hr
  subst hn
  rcases ao with _ | ad
  · have hy : ys = [] := by
      rcases Nat.eq_zero_or_pos ys.length with h0 | h0
      · exact List.eq_nil_of_length_eq_zero h0
      · obtain ⟨b, o, h, _⟩ := hcell h0; cases h
    subst hy
    simp [Builtin.firstCells]
  · simp only [Builtin.firstCells, Nat.mul_one]
    exact run_loadCells_list w ad ys (fun j x hx => by
      have hj : j < ys.length := (List.getElem?_eq_some_iff.1 hx).1
      obtain ⟨b, o, h, _, _, hc⟩ := hcell (by omega)
      cases h
      have := hc j hj
      rw [hx] at this
      rw [Addr.add_lit]; exact this)
/-- The prefix of a readable slice. -/
theorem RS.take (hr : RS w D u ys) (n : Nat) (hn : n ≤ ys.length) : ∃ ao cap, u = .slice ao ys.length cap ∧ RS w D (.slice ao n cap) (ys.take n) := by
  obtain ⟨ao, cap, rfl, hcap, hm, hcell⟩ := hr
  refine ⟨ao, cap, rfl, ao, cap, by simp [Nat.min_eq_left hn], by simp; omega, hm, fun h => ?_⟩
  simp at h
  obtain ⟨b, o, h, hD, hb, hc⟩ := hcell (by omega)
  exact ⟨b, o, h, hD, hb, fun i hi => by simp at hi; rw [hc i (by omega), List.getElem?_take_of_lt (by omega)]⟩
/-- append where there is room, over a row that is known whole. -/
theorem run_append_row (E : ET P t e z bytes) (ty : TypeId) {g : Nat} {T : TypeId} {rest : List Value} (hrow : Row w g T (xs ++ rest)) (hr : RS w D u ys) (h1 : Cells1 ys) (hfit : ys.length ≤ rest.length) :
    (Builtin.append_ #[t, t] ty #[.slice (some ⟨g, 0, none⟩) xs.length (xs.length + rest.length), u]).run P w =
      .ok (.slice (some ⟨g, 0, none⟩) (xs.length + ys.length) (xs.length + rest.length)) (w.setRow g (xs ++ (ys ++ rest.drop ys.length)).toArray) := by
  obtain ⟨i, hi, hz, hs, hby⟩ := E.hi
  have hf := run_first (P := P) ys.length hr rfl
  obtain ⟨ao, cap, rfl, _⟩ := hr
  have hst := run_storeCells_at (P := P) g xs.length T ys 0 (xs ++ rest).toArray w hrow (by simp; omega) h1
  have e1 : (xs ++ rest).take xs.length ++ ys ++ (xs ++ rest).drop (xs.length + ys.length) = xs ++ (ys ++ rest.drop ys.length) := by
    rw [List.take_left, List.append_assoc, List.drop_append, List.drop_of_length_le (by omega), List.nil_append]
    congr 3; omega
  simp only [Nat.add_zero] at hst
  rw [e1] at hst
  simp [Builtin.append_, run_underlying E.ht, sizeOf, typeInfo, hi, hs, Builtin.lenOf, hfit, hf, Addr.add_lit, hst]
/-- clear of a part of a row that is known whole. -/
theorem run_clear_row (E : ET P t e z bytes) (ty : TypeId) {g off m c : Nat} {T : TypeId} {cs : List Value} (hrow : Row w g T cs) (hm : 0 < m) (hfit : off + m ≤ cs.length) (h1 : z.oneCell' = true) :
    (Builtin.clear_ #[t] ty #[.slice (some ⟨g, off, none⟩) m c]).run P w = .ok (.tuple #[]) (w.setRow g (cs.take off ++ (zs z m ++ cs.drop (off + m))).toArray) := by
  obtain ⟨i, hi, hz, hs, hby⟩ := E.hi
  have hst := run_storeCells_at (P := P) g off T (zs z m) 0 cs.toArray w hrow (by simp [length_zs]; omega) (by intro x hx; rw [zs, List.mem_replicate] at hx; rw [hx.2]; exact h1)
  simp only [Nat.add_zero, length_zs, List.append_assoc] at hst
  have hzc : (Builtin.zeroCells z.cells m).toList = zs z m := by
    apply List.ext_getElem?
    intro j
    simp only [Builtin.zeroCells, E.hz, zs]
    simp [List.getElem?_replicate]
    split <;> simp_all [Nat.mod_one]
  match m, hm with
  | m + 1, _ =>
    simp [Builtin.clear_, run_underlying E.ht, zeroValue, typeInfo, hi, hz, hzc, hst]
/-- A builtin whose run is known, in a walk. -/
theorem wp_append_eq {o : Oper} {a : Act} {K : Act → World → Prop} {Q : Exit → Act → World → Prop} (s x : Operand) {t t' : TypeId}
    (ho : o.op = .call { callee := .builtin .append, args := #[s, x], argTypes := #[t, t'] }) (hs : a.eval s = v) (hx : a.eval x = u) {v' : Value} {w' : World}
    (hrun : (Builtin.append_ #[t, t'] o.type #[v, u]).run P w = .ok v' w') (h : K (a.put o.dst v') w') : o.wp P a w K Q := by
  unfold Oper.wp execOp
  simp only [ho, resolve, invoke, builtin, Sem.run_bind, Sem.run_pure, Result.andThen_ok, List.map_toArray, List.map_cons, List.map_nil, hs, hx, hrun]
  exact h
theorem wpList_append_eq {ops : Array Oper} {rest : List Oper} {o : Oper} {a : Act} {Q : Exit → Act → World → Prop} (hgd : o.guard = none) (s x : Operand) {t t' : TypeId}
    (ho : o.op = .call { callee := .builtin .append, args := #[s, x], argTypes := #[t, t'] }) (hs : a.eval s = v) (hx : a.eval x = u) {v' : Value} {w' : World}
    (hrun : (Builtin.append_ #[t, t'] o.type #[v, u]).run P w = .ok v' w') (h : wpList P ops Q rest (a.put o.dst v') w') : wpList P ops Q (o :: rest) a w :=
  wpList_plain hgd fun _ hK => wp_append_eq s x ho hs hx hrun (hK _ _ h)
theorem wp_copy_eq {o : Oper} {a : Act} {K : Act → World → Prop} {Q : Exit → Act → World → Prop} (s x : Operand) {t t' : TypeId}
    (ho : o.op = .call { callee := .builtin .copy, args := #[s, x], argTypes := #[t, t'] }) (hs : a.eval s = v) (hx : a.eval x = u) {v' : Value} {w' : World}
    (hrun : (Builtin.copy_ #[t, t'] o.type #[v, u]).run P w = .ok v' w') (h : K (a.put o.dst v') w') : o.wp P a w K Q := by
  unfold Oper.wp execOp
  simp only [ho, resolve, invoke, builtin, Sem.run_bind, Sem.run_pure, Result.andThen_ok, List.map_toArray, List.map_cons, List.map_nil, hs, hx, hrun]
  exact h
theorem wpList_copy_eq {ops : Array Oper} {rest : List Oper} {o : Oper} {a : Act} {Q : Exit → Act → World → Prop} (hgd : o.guard = none) (s x : Operand) {t t' : TypeId}
    (ho : o.op = .call { callee := .builtin .copy, args := #[s, x], argTypes := #[t, t'] }) (hs : a.eval s = v) (hx : a.eval x = u) {v' : Value} {w' : World}
    (hrun : (Builtin.copy_ #[t, t'] o.type #[v, u]).run P w = .ok v' w') (h : wpList P ops Q rest (a.put o.dst v') w') : wpList P ops Q (o :: rest) a w :=
  wpList_plain hgd fun _ hK => wp_copy_eq s x ho hs hx hrun (hK _ _ h)
theorem wp_clear_eq {o : Oper} {a : Act} {K : Act → World → Prop} {Q : Exit → Act → World → Prop} (s : Operand) {t : TypeId}
    (ho : o.op = .call { callee := .builtin .clear, args := #[s], argTypes := #[t] }) (hs : a.eval s = v) {v' : Value} {w' : World}
    (hrun : (Builtin.clear_ #[t] o.type #[v]).run P w = .ok v' w') (h : K (a.put o.dst v') w') : o.wp P a w K Q := by
  unfold Oper.wp execOp
  simp only [ho, resolve, invoke, builtin, Sem.run_bind, Sem.run_pure, Result.andThen_ok, List.map_toArray, List.map_cons, List.map_nil, hs, hrun]
  exact h
theorem wpList_clear_eq {ops : Array Oper} {rest : List Oper} {o : Oper} {a : Act} {Q : Exit → Act → World → Prop} (hgd : o.guard = none) (s : Operand) {t : TypeId}
    (ho : o.op = .call { callee := .builtin .clear, args := #[s], argTypes := #[t] }) (hs : a.eval s = v) {v' : Value} {w' : World}
    (hrun : (Builtin.clear_ #[t] o.type #[v]).run P w = .ok v' w') (h : wpList P ops Q rest (a.put o.dst v') w') : wpList P ops Q (o :: rest) a w :=
  wpList_plain hgd fun _ hK => wp_clear_eq s ho hs hrun (hK _ _ h)
/-- 's[lo:]' gives some value: of use where it only must not panic. -/
theorem run_slice_lo (E : ET P t e z bytes) (ao : Option Addr) (n cap lo : Nat) (h : lo ≤ n) (w : World) :
    (Instr.slice t (.slice ao n cap) (some (.int .i64 lo)) none none).run P w = .ok (.slice (if cap = lo then ao else ao.map (·.add lo)) (n - lo) (cap - lo)) w := by
  obtain ⟨i, hi, hz, hs, hby⟩ := E.hi
  simp [Instr.slice, run_underlying E.ht, Instr.sliceBounds, Instr.sliceBound, asIntOf, h, sizeOf, typeInfo, hi, hs]
theorem run_slice_at (E : ET P t e z bytes) (g o n cap lo : Nat) (l : Int) (hl : l = lo) (h : lo ≤ n) (hc : lo < cap) (w : World) :
    (Instr.slice t (.slice (some ⟨g, o, none⟩) n cap) (some (.int .i64 l)) none none).run P w = .ok (.slice (some ⟨g, o + lo, none⟩) (n - lo) (cap - lo)) w := by
  subst hl
  rw [run_slice_lo E _ n cap lo h w, if_neg (by omega), Option.map_some, Addr.add_lit]
theorem run_slice_lh_at (E : ET P t e z bytes) (g o n cap lo hi : Nat) (l h : Int) (hl : l = lo) (hh : h = hi) (h1 : lo ≤ hi) (h2 : hi ≤ cap) (hc : lo < cap) (w : World) :
    (Instr.slice t (.slice (some ⟨g, o, none⟩) n cap) (some (.int .i64 l)) (some (.int .i64 h)) none).run P w = .ok (.slice (some ⟨g, o + lo, none⟩) (hi - lo) (cap - lo)) w := by
  obtain ⟨i, hi', hz, hs, hby⟩ := E.hi
  subst hl; subst hh
  have hne : ¬ cap = lo := by omega
  simp [Instr.slice, run_underlying E.ht, Instr.sliceBounds, Instr.sliceBound, asIntOf, h1, h2, sizeOf, typeInfo, hi', hs, hne, Addr.add_lit]
end
end Go.Proofs.YtfhapbggngdckaaGreat
