/- The abstract executor: reading and writing cells, new rows, appending, as the machine does it. -/
import Derived.Test.YtnccicagemmjeaaGreatDoorVx5
import Derived.Laws.CopyRow
import Derived.Laws.Rows
namespace Go.Vx

/-! ### Values of one cell -/
theorem scalar_one (m : Ren) (v : AV) (h : scalar v = true) : (v.val m).oneCell' = true := by
  cases v with
  | agg l => cases h
  | tup l => cases h
  | nil k => cases k <;> rfl
  | oth o => cases o <;> rfl
  | _ => rfl
theorem scalars_cons (v : AV) (l : List AV) : scalars (v :: l) = true ↔ scalar v = true ∧ scalars l = true := by
  have e : scalars (v :: l) = Bool.rec (motive := fun _ => Bool) false (scalars l) (scalar v) := rfl
  rw [e]
  cases scalar v
  · exact ⟨fun h => (by cases h), fun h => (by cases h.1)⟩
  · exact ⟨fun h => ⟨rfl, h⟩, fun h => h.2⟩
theorem scalars_iff (l : List AV) : scalars l = true ↔ ∀ v ∈ l, scalar v = true := by
  induction l with
  | nil => exact ⟨fun _ v hv => (by cases hv), fun _ => rfl⟩
  | cons v l ih => rw [scalars_cons, ih]; simp
theorem cells_val (m : Ren) (v : AV) : (v.val m).cells = (valL m v.cells).toArray := by
  cases v with
  | nil k => cases k <;> rfl
  | oth o => cases o <;> rfl
  | agg l => simp [AV.val, AV.cells, Value.cells]
  | _ => simp [AV.val, AV.cells, Value.cells, valL, strV]
theorem cells_wf {n : Nat} {v : AV} (h : v.wf n) : wfL n v.cells := by
  cases v with
  | agg l => exact h
  | nil k => exact ⟨h, trivial⟩
  | oth o => exact ⟨h, trivial⟩
  | _ => exact ⟨h, trivial⟩
theorem valL_get (m : Ren) (l : List AV) (i : Nat) : (valL m l)[i]? = (l[i]?).map (AV.val m) := by rw [valL_eq]; simp

/-! ### Rows -/
theorem rowOf_eq {o : HO} {cells : List AV} (h : rowOf o = some cells) : ∃ es g p, o = .row cells es g p := by
  cases o <;> simp [rowOf] at h
  subst h; exact ⟨_, _, _, rfl⟩
theorem loadCells_eq {s : St} {b o n : Nat} {xs : List AV} (h : loadCells s b o n = some xs) : ∃ cells es g p, s.hp.get b = some (.row cells es g p) ∧ sub cells o n = some xs := by
  unfold loadCells at h
  rw [recO] at h
  cases hb : s.hp.get b with
  | none => rw [hb] at h; cases h
  | some ob =>
    rw [hb] at h
    simp only at h
    rw [recO] at h
    cases hr : rowOf ob with
    | none => rw [hr] at h; cases h
    | some cells =>
      rw [hr] at h
      obtain ⟨es, g, p, rfl⟩ := rowOf_eq hr
      exact ⟨cells, es, g, p, rfl, h⟩
theorem loadCell_eq {s : St} {b o : Nat} {x : AV} (h : loadCell s b o = some x) : ∃ cells es g p, s.hp.get b = some (.row cells es g p) ∧ cells[o]? = some x := by
  unfold loadCell at h
  rw [recO] at h
  cases hb : s.hp.get b with
  | none => rw [hb] at h; cases h
  | some ob =>
    rw [hb] at h
    simp only at h
    rw [recO] at h
    cases hr : rowOf ob with
    | none => rw [hr] at h; cases h
    | some cells =>
      rw [hr] at h
      simp only at h
      rw [nth_eq] at h
      obtain ⟨es, g, p, rfl⟩ := rowOf_eq hr
      exact ⟨cells, es, g, p, rfl, h⟩
/-- one row's cell, in the machine -/
theorem row_cell {m : Ren} {w : World} {b : Nat} {cells : List AV} {es g p : Nat} (hr : HO.rel m w.heap b (.row cells es g p)) {i : Nat} {v : AV} (hv : cells[i]? = some v) :
    w.cell? ⟨m.blk b, m.sh b + i, none⟩ = some (v.val m) := by
  obtain ⟨c, el, fz, hc, _, _, _, h4⟩ := hr
  rw [cell_of_row w _ _ c el fz hc]; exact h4 i v hv
theorem run_loadCells_row {P : Program} {m : Ren} {w : World} {b : Nat} {cells : List AV} {es g p o n : Nat} {xs : List AV} (hr : HO.rel m w.heap b (.row cells es g p)) (hs : sub cells o n = some xs) :
    (Go.loadCells ⟨m.blk b, m.sh b + o, none⟩ n).run P w = .ok (valL m xs).toArray w := by
  obtain ⟨hl, hg, _⟩ := sub_eq hs
  have := run_loadCells_list (P := P) w ⟨m.blk b, m.sh b + o, none⟩ (valL m xs) fun j v hj => by
    rw [valL_get] at hj
    have hj' : j < n := by
      have : j < (valL m xs).length := by
        rcases Nat.lt_or_ge j (valL m xs).length with h | h
        · exact h
        · rw [valL_len] at h; rw [List.getElem?_eq_none h] at hj; cases hj
      rwa [valL_len, hl] at this
    rw [hg j hj'] at hj
    cases hc : cells[o + j]? with
    | none => rw [hc] at hj; cases hj
    | some x =>
      rw [hc] at hj
      cases hj
      rw [Addr.add_lit, Nat.add_assoc]
      exact row_cell hr hc
  rwa [valL_len, hl] at this

/-! ### Stores -/
theorem run_storeCells_own (P : Program) (g o : Nat) (t : TypeId) (fz : Nat × Nat) : ∀ (vs : List Value) (i : Nat) (cur : Array Value) (w : World), w.heap[g]? = some (.cells cur t fz) →
    fzOk fz cur.size → o + i + vs.length ≤ cur.size → (∀ v ∈ vs, v.oneCell' = true) →
    (Go.storeCells ⟨g, o, none⟩ vs i).run P w = .ok () (w.setRow g (cur.toList.take (o + i) ++ vs ++ cur.toList.drop (o + i + vs.length)).toArray)
  | [], i, cur, w, hg, _, _, _ => by
    simp only [Go.storeCells, List.append_nil, List.length_nil, Nat.add_zero, List.take_append_drop, Array.toArray_toList]
    rw [setRow_self w g cur t fz hg]
    rfl
  | v :: rest, i, cur, w, hg, hfz, hl, h1 => by
    have hi : o + i < cur.size := by simp at hl; omega
    have hadd : (⟨g, o, none⟩ : Addr).add i = ⟨g, o + i, none⟩ := Addr.add_lit _ _ _
    have hcell : w.cell? ⟨g, o + i, none⟩ = some cur[o + i] := by simp [World.cell?, hg, hi]
    have hfro : w.frozen? ⟨g, o + i, none⟩ = false := by
      obtain ⟨lo, hi'⟩ := fz
      have := hfz (o + i) hi
      simp only [World.frozen?, hg, Bool.and_eq_false_iff, decide_eq_false_iff_not]
      simp only at this
      omega
    have hst : (store ((⟨g, o, none⟩ : Addr).add i) v).run P w = .ok () (w.setRow g (cur.setIfInBounds (o + i) v)) := by
      rw [hadd, run_store P w _ v _ (h1 v (by simp)), hcell]
      simp [hfro, setCell_eq_setRow w g (o + i) cur t fz v hg]
    have ih := run_storeCells_own P g o t fz rest (i + 1) (cur.setIfInBounds (o + i) v) (w.setRow g (cur.setIfInBounds (o + i) v)) (setRow_heap w g cur _ t _ hg) (by simpa using hfz) (by simp at hl ⊢; omega) (fun x hx => h1 x (by simp [hx]))
    simp only [Go.storeCells, Sem.run_bind, hst, Result.andThen_ok, ih, setRow_setRow]
    congr 3
    have e := list_seg_step cur.toList (o + i) v rest (by simp at hl ⊢; omega)
    simpa [Array.toList_setIfInBounds, Nat.add_assoc] using e

/-- the cells of a row, new ones from place o on -/
def over (cur : Array Value) (o : Nat) (vs : List Value) : Array Value := (cur.toList.take o ++ vs ++ cur.toList.drop (o + vs.length)).toArray
theorem over_get (cur : Array Value) (o : Nat) (vs : List Value) (h : o + vs.length ≤ cur.size) :
    (over cur o vs).size = cur.size ∧ (∀ i, i < vs.length → (over cur o vs)[o + i]? = vs[i]?) ∧ (∀ i, i < o ∨ o + vs.length ≤ i → (over cur o vs)[i]? = cur[i]?) := by
  have ht : (cur.toList.take o).length = o := by rw [List.length_take, Array.length_toList]; omega
  refine ⟨?_, fun i hi => ?_, fun i hi => ?_⟩
  · unfold over; simp; omega
  · unfold over
    rw [List.getElem?_toArray, List.append_assoc, List.getElem?_append_right (by omega), ht, List.getElem?_append_left (by omega)]
    congr 1; omega
  · unfold over
    rw [List.getElem?_toArray]
    rcases hi with hi | hi
    · rw [List.append_assoc, List.getElem?_append_left (by omega), List.getElem?_take_of_lt hi]; simp
    · rw [List.getElem?_append_right (by simp; omega), List.getElem?_drop]
      rw [Array.getElem?_toList]
      congr 1
      simp
      omega
theorem storeRow_eq {s s' : St} {b o : Nat} {vs cells : List AV} {es g p : Nat} (h : storeRow s b o vs cells es g p = some s') :
    ∃ cells', put cells o vs = some cells' ∧ s' = s.withHp ((killAll b (p + o) (p + o + vs.length) (members s g) s.hp).set b (.row cells' es g p)) := by
  unfold storeRow at h
  rw [recO] at h
  cases hp : put cells o vs with
  | none => rw [hp] at h; cases h
  | some cells' =>
    rw [hp] at h
    simp only [Option.some.injEq] at h
    refine ⟨cells', rfl, ?_⟩
    rw [← h, lenL_eq]; rfl
theorem withHp_eq (s : St) (h : Tr HO) : s.withHp h = ⟨h, s.nx, s.gr, s.df⟩ := by cases s; rfl
theorem storeCells_eq {s s' : St} {b o : Nat} {vs : List AV} (h : storeCells s b o vs = some s') :
    (vs = [] ∧ s' = s) ∨ (vs ≠ [] ∧ scalars vs = true ∧ ∃ cells es g p, s.hp.get b = some (.row cells es g p) ∧ storeRow s b o vs cells es g p = some s') := by
  cases vs with
  | nil => left; exact ⟨rfl, (Option.some.inj h).symm⟩
  | cons v l =>
    right
    have e : storeCells s b o (v :: l) = Option.rec (motive := fun _ => Option St) none (fun ob => match ob with
      | .row cells es grp pos => Bool.rec (motive := fun _ => Option St) none (storeRow s b o (v :: l) cells es grp pos) (scalars (v :: l))
      | _ => none) (s.hp.get b) := rfl
    rw [e, recO] at h
    cases hb : s.hp.get b with
    | none => rw [hb] at h; cases h
    | some ob =>
      rw [hb] at h
      cases ob with
      | row cells es g p =>
        simp only at h
        rw [recB] at h
        split at h
        · rename_i hs; exact ⟨by simp, hs, cells, es, g, p, rfl, h⟩
        · cases h
      | _ => cases h

/-- the row's relation, new cells in it -/
theorem row_over {m : Ren} {h h' : Array Obj} {b k o : Nat} {cells cells' vs : List AV} {es g p : Nat} {c : Array Value} {el : TypeId} {fz : Nat × Nat}
    (hb : m.blk b = k) (_hc : h[k]? = some (.cells c el fz)) (hf : fzOk fz c.size) (h2 : m.sh b + m.cap b * es ≤ c.size) (h3 : cells.length ≤ m.cap b * es)
    (h4 : ∀ i v, cells[i]? = some v → c[m.sh b + i]? = some (v.val m)) (hp : put cells o vs = some cells')
    (hc' : h'[k]? = some (.cells (over c (m.sh b + o) (valL m vs)) el fz)) : HO.rel m h' b (.row cells' es g p) := by
  obtain ⟨hl, hle, hin, hlo, hhi⟩ := put_get hp
  obtain ⟨e1, e2, e3⟩ := over_get c (m.sh b + o) (valL m vs) (by rw [valL_len]; omega)
  refine ⟨_, el, fz, by rw [hb]; exact hc', by rw [e1]; exact hf, by rw [e1]; exact h2, by rw [hl]; exact h3, fun i v hi => ?_⟩
  rw [valL_len] at e2 e3
  by_cases h1 : i < o
  · rw [e3 (m.sh b + i) (.inl (by omega))]; rw [hlo i h1] at hi; exact h4 i v hi
  · by_cases hx : i < o + vs.length
    · have := hin (i - o) (by omega)
      rw [show o + (i - o) = i by omega] at this
      rw [this] at hi
      rw [show m.sh b + i = m.sh b + o + (i - o) by omega, e2 _ (by omega), valL_get, hi]; rfl
    · rw [e3 (m.sh b + i) (.inr (by omega))]; rw [hhi i (by omega)] at hi; exact h4 i v hi
/-- another row of that block, where nothing of it is written -/
theorem row_beside {m : Ren} {h h' : Array Obj} {b k o : Nat} {cells vs : List AV} {es g p : Nat} {c : Array Value} {el : TypeId} {fz : Nat × Nat}
    (hb : m.blk b = k) (hc : h[k]? = some (.cells c el fz)) (hle : o + vs.length ≤ c.size) (hr : HO.rel m h b (.row cells es g p))
    (hno : ∀ i, i < cells.length → m.sh b + i < o ∨ o + vs.length ≤ m.sh b + i)
    (hc' : h'[k]? = some (.cells (over c o (valL m vs)) el fz)) : HO.rel m h' b (.row cells es g p) := by
  obtain ⟨c1, el1, fz1, hc1, hf, h2, h3, h4⟩ := hr
  rw [hb, hc] at hc1
  cases hc1
  obtain ⟨e1, e2, e3⟩ := over_get c o (valL m vs) (by rw [valL_len]; exact hle)
  refine ⟨_, el, fz, by rw [hb]; exact hc', by rw [e1]; exact hf, by rw [e1]; exact h2, h3, fun i v hi => ?_⟩
  rw [valL_len] at e3
  rw [e3 _ (hno i (by
    rcases Nat.lt_or_ge i cells.length with h | h
    · exact h
    · rw [List.getElem?_eq_none h] at hi; cases hi))]
  exact h4 i v hi
theorem val_ones (m : Ren) {vs : List AV} (h : scalars vs = true) : ∀ v ∈ valL m vs, v.oneCell' = true := by
  intro v hv
  rw [valL_eq, List.mem_map] at hv
  obtain ⟨x, hx, rfl⟩ := hv
  exact scalar_one m x ((scalars_iff vs).1 h x hx)
theorem put_wf {n o : Nat} {l vs r : List AV} (h : put l o vs = some r) (hl : wfL n l) (hv : wfL n vs) : wfL n r := by
  obtain ⟨_, e⟩ := put_eq o l vs r h
  rw [wfL_iff] at hl hv ⊢
  intro v hx
  rw [e, List.mem_append, List.mem_append] at hx
  rcases hx with (hx | hx) | hx
  · exact hl v (List.mem_of_mem_take hx)
  · exact hv v hx
  · exact hl v (List.mem_of_mem_drop hx)
theorem put_scalars {o : Nat} {l vs r : List AV} (h : put l o vs = some r) (hl : scalars l = true) (hv : scalars vs = true) : scalars r = true := by
  obtain ⟨_, e⟩ := put_eq o l vs r h
  rw [scalars_iff] at hl hv ⊢
  intro v hx
  rw [e, List.mem_append, List.mem_append] at hx
  rcases hx with (hx | hx) | hx
  · exact hl v (List.mem_of_mem_take hx)
  · exact hv v hx
  · exact hl v (List.mem_of_mem_drop hx)
/-- the others of the group, behind the striking, lie beside -/
theorem beside_of {m : Ren} {s : St} {h : Array Obj} (hR : Rel m s h) {b o n : Nat} {cells : List AV} {es g p : Nat} (hb : s.hp.get b = some (.row cells es g p)) {hp' : Tr HO} {me : Nat}
    (hk : hp' = killAll me (p + o) (p + o + n) (members s g) s.hp) {b' : Nat} {o1 : HO} (hne : b' ≠ me) (hb1 : hp'.get b' = some o1) (hl1 : o1.live) (he : m.blk b' = m.blk b) (hbb : b' ≠ b ∨ b ≠ me) :
    ∃ cells1 es1 p1, o1 = .row cells1 es1 g p1 ∧ s.hp.get b' = some o1 ∧ m.sh b' + p = m.sh b + p1 ∧ (p + o + n ≤ p1 ∨ p1 + cells1.length ≤ p + o) := by
  have hs : s.hp.get b' = some o1 := by
    rcases killAll_get me (p + o) (p + o + n) (members s g) s.hp b' with e | ⟨e, _⟩
    · rw [← e, ← hk]; exact hb1
    · rw [← hk, hb1] at e; rw [Option.some.inj e] at hl1; exact hl1.elim
  have hkey : ∃ p1, o1.key = some (g, p1) ∧ m.sh b' + p = m.sh b + p1 := by
    by_cases e : b' = b
    · subst e; rw [hb] at hs; cases hs; exact ⟨p, rfl, rfl⟩
    · obtain ⟨g', q, q', e1, e2, e3⟩ := hR.sep b' b o1 _ e hs hb hl1 trivial he
      cases e2
      exact ⟨q, e1, e3⟩
  obtain ⟨p1, e1, e2⟩ := hkey
  cases o1 with
  | row cells1 es1 g1 p1' =>
    cases e1
    refine ⟨cells1, es1, p1, rfl, hs, e2, ?_⟩
    have hmem : b' ∈ members s g := by rw [members_eq]; exact hR.mem b' _ g p1 hs rfl
    rw [hk] at hb1
    exact killAll_row me _ _ _ _ b' hmem hne hb1
  | _ => cases e1
/-- a store, as the machine does it -/
theorem store_ok {P : Program} {m : Ren} {s s' : St} {w : World} {b o : Nat} {vs : List AV} (hR : Rel m s w.heap) (h : storeCells s b o vs = some s') (hv : wfL s.nx vs) :
    ∃ w', (Go.storeCells ⟨m.blk b, m.sh b + o, none⟩ (valL m vs)).run P w = .ok () w' ∧ Rel m s' w'.heap ∧ Grow m s w m s' w' ∧ s'.nx = s.nx ∧ s'.df = s.df := by
  rcases storeCells_eq h with ⟨rfl, rfl⟩ | ⟨hne, hsc, cells, es, g, p, hb, h⟩
  · exact ⟨w, rfl, hR, .refl _ _ _, rfl, rfl⟩
  · obtain ⟨cells', hp, rfl⟩ := storeRow_eq h
    have hlt := hR.lt b _ hb
    have hr := hR.obj b _ hb
    obtain ⟨c, el, fz, hc, hf, h2, h3, h4⟩ := hr
    have hpl := (put_get hp).2.1
    have hle : m.sh b + o + (valL m vs).length ≤ c.size := by rw [valL_len]; omega
    have hrun := run_storeCells_own P (m.blk b) (m.sh b + o) el fz (valL m vs) 0 c w hc hf (by simpa using hle) (val_ones m hsc)
    rw [Nat.add_zero] at hrun
    have hheap := setRow_heap w (m.blk b) c (over c (m.sh b + o) (valL m vs)) el fz hc
    have hoth : ∀ j, j ≠ m.blk b → (w.setRow (m.blk b) (over c (m.sh b + o) (valL m vs))).heap[j]? = w.heap[j]? := fun j hj => setRow_other w _ _ _ hj
    refine ⟨w.setRow (m.blk b) (over c (m.sh b + o) (valL m vs)), hrun, ?_⟩
    have hkill : ∀ x, (s.withHp (killAll b (p + o) (p + o + vs.length) (members s g) s.hp)).hp.get x = s.hp.get x ∨
        (s.withHp (killAll b (p + o) (p + o + vs.length) (members s g) s.hp)).hp.get x = some .dead ∧ ∃ o, s.hp.get x = some o := fun x => by
      rw [withHp_eq]
      rcases killAll_get b (p + o) (p + o + vs.length) (members s g) s.hp x with e | ⟨e, e', _⟩
      · exact .inl e
      · exact .inr ⟨e, e'⟩
    have hR1 : Rel m (s.withHp (killAll b (p + o) (p + o + vs.length) (members s g) s.hp)) w.heap := rel_kill hR hkill (by rw [withHp_eq]) (by rw [withHp_eq])
    have hG1 : Grow m s w m (s.withHp (killAll b (p + o) (p + o + vs.length) (members s g) s.hp)) w := ext_kill hkill (by rw [withHp_eq])
    have hb1 : (s.withHp (killAll b (p + o) (p + o + vs.length) (members s g) s.hp)).hp.get b = some (.row cells es g p) := by rw [withHp_eq]; simp only; rw [killAll_self]; exact hb
    refine ⟨?_, ?_, by rw [withHp_eq], by rw [withHp_eq]⟩
    · refine rel_upd (o := .row cells es g p) (o' := .row cells' es g p) (b := b) hR1 hb1 rfl trivial ?_ hoth ?_ ?_ (by rw [withHp_eq, withHp_eq]) (by rw [withHp_eq, withHp_eq]) (by rw [withHp_eq, withHp_eq])
      · rw [withHp_eq]
        exact ⟨put_wf hp hlt.2.1 hv, put_scalars hp hlt.2.2.1 hsc, hlt.2.2.2⟩
      · intro b' o1 hne' hb' hl' he
        rw [withHp_eq] at hb'
        obtain ⟨cells1, es1, p1, rfl, hs1, e2, e3⟩ := beside_of hR hb rfl hne' hb' hl' he (.inl hne')
        exact row_beside he hc (by rw [valL_len] at hle; exact hle) (hR.obj b' _ hs1) (fun i hi => by rcases e3 with e3 | e3 <;> omega) hheap
      · exact row_over rfl hc hf h2 h3 h4 hp hheap
    · exact hG1.trans (ext_upd hb1 trivial (by simp) hoth (by rw [withHp_eq, withHp_eq]) (by rw [withHp_eq, withHp_eq]) rfl rfl rfl)
end Go.Vx
