/- The abstract executor: new objects; all operations that turn no object. -/
import Derived.Test.YtnccicagemmjeaaGreatDoorVx14
namespace Go.Vx

/-! ### Cells put in place -/
theorem foldl_put (cells : Array Value) (off : Nat) : ∀ (vs : List Value) (k : Nat) (acc : Array Value), acc.size = cells.size →
    ((vs.zipIdx k).foldl (fun cs (p : Value × Nat) => cs.setIfInBounds (off + p.2) p.1) acc).size = cells.size ∧
    ∀ i, ((vs.zipIdx k).foldl (fun cs (p : Value × Nat) => cs.setIfInBounds (off + p.2) p.1) acc)[i]? = if off + k ≤ i ∧ i < off + k + vs.length ∧ i < acc.size then vs[i - (off + k)]? else acc[i]? := by
  intro vs
  induction vs with
  | nil => intro k acc h; refine ⟨h, fun i => ?_⟩; rw [if_neg (by simp; omega)]; rfl
  | cons v vs ih =>
    intro k acc h
    rw [List.zipIdx_cons, List.foldl_cons]
    obtain ⟨h1, h2⟩ := ih (k + 1) (acc.setIfInBounds (off + k) v) (by simp [h])
    refine ⟨h1, fun i => ?_⟩
    rw [h2 i]
    simp only [Array.size_setIfInBounds, List.length_cons]
    by_cases hi : i = off + k
    · subst hi
      rw [if_neg (by omega)]
      by_cases hs : off + k < acc.size
      · rw [if_pos ⟨by omega, by omega, hs⟩]; simp [hs]
      · rw [if_neg (by omega)]
        simp [hs]
    · by_cases hc : off + (k + 1) ≤ i ∧ i < off + (k + 1) + vs.length ∧ i < acc.size
      · rw [if_pos hc, if_pos ⟨by omega, by omega, hc.2.2⟩]
        rw [show i - (off + k) = (i - (off + (k + 1))) + 1 by omega]
        rfl
      · rw [if_neg hc, if_neg (by omega)]
        rw [Array.getElem?_setIfInBounds, if_neg (fun e => hi e.symm)]
theorem fold_over (cells : Array Value) (off : Nat) (vs : Array Value) (h : off + vs.size ≤ cells.size) : vs.zipIdx.foldl (fun cs (p : Value × Nat) => cs.setIfInBounds (off + p.2) p.1) cells = over cells off vs.toList := by
  obtain ⟨e1, e2, e3⟩ := over_get cells off vs.toList (by simpa using h)
  rw [← Array.foldl_toList, Array.toList_zipIdx]
  obtain ⟨h1, h2⟩ := foldl_put cells off vs.toList 0 cells rfl
  apply Array.ext_getElem?
  intro i
  rw [h2 i]
  simp only [Nat.add_zero, Array.length_toList]
  by_cases hc : off ≤ i ∧ i < off + vs.size ∧ i < cells.size
  · rw [if_pos hc]
    have := e2 (i - off) (by simp only [Array.length_toList]; omega)
    rw [show off + (i - off) = i by omega] at this
    exact this.symm
  · rw [if_neg hc]
    by_cases hs : i < cells.size
    · exact (e3 i (by simp only [Array.length_toList]; omega)).symm
    · rw [Array.getElem?_eq_none (by omega), Array.getElem?_eq_none (by omega)]
theorem fill_run (m : Ren) {pA : Nat → Option (Nat × Nat)} {pM : Nat → Option (Nat × Nat)} (hp : ∀ i x, pA i = some x → pM i = some x) : ∀ (parts : List (Nat × AV)) (cells r : List AV), fillA pA cells parts = some r →
    Instr.fill pM (valL m cells).toArray (parts.map fun p => (p.1, p.2.val m)) = some (valL m r).toArray ∧ r.length = cells.length := by
  intro parts
  induction parts with
  | nil => intro cells r h; cases h; exact ⟨rfl, rfl⟩
  | cons p parts ih =>
    intro cells r h
    obtain ⟨i, v⟩ := p
    unfold fillA at h
    split at h
    · cases h
    · rename_i off size hpi
      cases hc : Nat.beq (lenL v.cells) size
      · rw [hc] at h; cases h
      · rw [hc] at h
        simp only [cond_true] at h
        split at h
        · rename_i cs hput
          obtain ⟨h1, h2⟩ := ih cs r h
          obtain ⟨g1, g2, g3, g4, g5⟩ := put_get hput
          have hsz := Nat.eq_of_beq_eq_true hc
          rw [lenL_eq] at hsz
          refine ⟨?_, by rw [h2, g1]⟩
          show Instr.fill pM (valL m cells).toArray ((i, v.val m) :: parts.map fun p => (p.1, p.2.val m)) = _
          unfold Instr.fill
          rw [hp i _ hpi]
          simp only
          have hcs : (v.val m).cells.size = size := by rw [cells_val]; simp [valL_len, hsz]
          have hno : ((v.val m).cells.size ≠ size || decide (off + (v.val m).cells.size > (valL m cells).toArray.size)) = false := by
            rw [hcs]
            simp only [ne_eq, not_true_eq_false, decide_false, Bool.false_or, decide_eq_false_iff_not, List.size_toArray, valL_len]
            omega
          simp only [hno, Bool.false_eq_true, if_false]
          rw [fold_over _ _ _ (by rw [hcs]; simp only [List.size_toArray, valL_len]; omega), ← h1]
          congr 1
          apply Array.ext_getElem?
          intro j
          obtain ⟨e1, e2, e3⟩ := over_get (valL m cells).toArray off (v.val m).cells.toList (by rw [Array.length_toList, hcs]; simp only [List.size_toArray, valL_len]; omega)
          rw [Array.length_toList, hcs] at e2 e3
          by_cases hj : j < off ∨ off + size ≤ j
          · rw [e3 j hj]
            simp only [List.getElem?_toArray, valL_get]
            rcases hj with hj | hj
            · rw [g4 j hj]
            · rw [g5 j (by omega)]
          · have := e2 (j - off) (by omega)
            rw [show off + (j - off) = j by omega] at this
            rw [this, cells_val]
            simp only [List.getElem?_toArray, valL_get]
            have := g3 (j - off) (by omega)
            rw [show off + (j - off) = j by omega] at this
            rw [this]
        · cases h
theorem fillA_wf {n : Nat} {pA : Nat → Option (Nat × Nat)} : ∀ (parts : List (Nat × AV)) (cells r : List AV), fillA pA cells parts = some r → wfL n cells → (∀ p ∈ parts, p.2.wf n) → wfL n r := by
  intro parts
  induction parts with
  | nil => intro cells r h hc _; cases h; exact hc
  | cons p parts ih =>
    intro cells r h hc hp
    obtain ⟨i, v⟩ := p
    unfold fillA at h
    split at h
    · cases h
    · revert h
      generalize Nat.beq _ _ = q
      cases q
      · intro h; cases h
      · intro h
        simp only [cond_true] at h
        split at h
        · rename_i cs hput
          exact ih cs r h (put_wf hput hc (cells_wf (hp (i, v) (by simp)))) fun p hp' => hp p (by simp [hp'])
        · cases h
theorem evP_mem (_E : Env) (c : Cx) (l : List AV) (tm : Tm) : ∀ (ps : List (Nat × Operand)) (p : Nat × AV), p ∈ (evP c ps).f l tm → ∃ q ∈ ps, p = (q.1, (ev c q.2).f l tm) := by
  intro ps
  induction ps with
  | nil => intro p h; cases h
  | cons q ps ih =>
    intro p h
    obtain ⟨i, x⟩ := q
    have h : p ∈ (i, (ev c x).f l tm) :: (evP c ps).f l tm := h
    rcases List.mem_cons.1 h with rfl | h
    · exact ⟨(i, x), by simp, rfl⟩
    · obtain ⟨q, hq, e⟩ := ih p h; exact ⟨q, by simp [hq], e⟩
theorem partL_ok {c : Cx} : ∀ {ps : List (Nat × Operand)}, okOs c (partL ps) = true → ∀ q ∈ ps, okO c q.2 = true := by
  intro ps
  induction ps with
  | nil => intro _ q h; cases h
  | cons p ps ih =>
    intro h q hq
    obtain ⟨h1, h2⟩ := (okOs_cons c p.2 (partL ps)).1 h
    rcases List.mem_cons.1 hq with rfl | hq
    · exact h1
    · exact ih h2 q hq
theorem evP_val {c : Cx} {l : List AV} {tm : Tm} {m : Ren} {ρ : Operand → Value} (ha : ArgsVal c l tm m ρ) : ∀ (ps : List (Nat × Operand)), okOs c (partL ps) = true →
    ps.map (fun p => (p.1, ρ p.2)) = ((evP c ps).f l tm).map fun p => (p.1, p.2.val m) := by
  intro ps
  induction ps with
  | nil => intro _; rfl
  | cons p ps ih =>
    intro h
    obtain ⟨h1, h2⟩ := (okOs_cons c p.2 (partL ps)).1 h
    obtain ⟨i, x⟩ := p
    show (i, ρ x) :: ps.map _ = (i, ((ev c x).f l tm).val m) :: ((evP c ps).f l tm).map _
    rw [ih h2, ha.val x h1]


theorem placesOf_run {E : Env} (hE : EnvOk E) : ∀ (fs : List Field) (r : List (Nat × Nat)), placesOf E fs = some r → ∀ w, (fs.mapM fun f => do pure (f.offset, ← sizeOf f.type) : Sem (List (Nat × Nat))).run E.P w = .ok r w := by
  intro fs
  induction fs with
  | nil => intro r h w; cases h; simp
  | cons f fs ih =>
    intro r h w
    unfold placesOf at h
    split at h
    · rename_i n l hn hl
      cases h
      rw [List.mapM_cons]
      simp only [Sem.run_bind, run_sizeT hE hn, Result.andThen_ok, Sem.run_pure, ih l hl w]
    · cases h
theorem pure_build {E : Env} (hE : EnvOk E) (c : Cx) (t : TypeId) (parts : Array (Nat × Operand)) : OpPure E c (.build t parts) := by
  have hh : hop E c (.build t parts) = match buildK E t with
    | some p => vO fun l tm _ => Option.rec (motive := fun _ => Option AV) none (fun cs => some (.agg cs)) (fillA (nth p.2) p.1 ((evP c parts.toList).f l tm))
    | none => failO := rfl
  cases hk : buildK E t with
  | none => rw [hk] at hh; exact pure_fail hh
  | some p =>
    rw [hk] at hh
    refine pure_v _ hh fun oper ho hok l tm s v hv hS hw => ?_
    rw [recO] at hv
    cases hf : fillA (nth p.2) p.1 ((evP c parts.toList).f l tm) with
    | none => rw [hf] at hv; cases hv
    | some r =>
      rw [hf] at hv; cases hv
      unfold buildK at hk
      split at hk
      · rename_i fields z hu hz
        rw [Option.map_eq_some_iff] at hk
        obtain ⟨ps, hps, rfl⟩ := hk
        have hzw := zeroT_wf hE hz
        refine ⟨fillA_wf _ _ _ hf (hzw s.nx) fun q hq => ?_, fun m w ρ _ ha hfo => ?_⟩
        · obtain ⟨q', hq', rfl⟩ := evP_mem E c l tm _ q hq
          exact hw.wf _ (partL_ok hok q' hq')
        · unfold execOp; rw [ho]; simp only
          refine exec_v ?_
          unfold Instr.build
          simp only [Sem.run_bind, run_zeroT hE hz m, Result.andThen_ok, run_undT hE hu, AV.val, Value.cells, Array.mapM_eq_mapM_toList, Sem.run_map, placesOf_run hE _ _ hps]
          have e1 : (parts.map fun (p : Nat × Operand) => (p.1, ρ p.2)).toList = ((evP c parts.toList).f l tm).map fun p => (p.1, p.2.val m) := by
            rw [← evP_val ha _ hok]; simp
          have e2 := (fill_run m (pA := nth ps) (pM := fun i => ps.toArray[i]?) (fun i x h => by rw [nth_eq] at h; simpa using h) _ _ _ hf).1
          rw [← e1] at e2
          simp only at e2 ⊢
          rw [e2]
          rfl
      · cases hk
theorem elemZ_eq {E : Env} (hE : EnvOk E) {e : TypeId} {z : Nat} {zs : List AV} (h : elemZ E e = some (z, zs)) : ∃ (i : TypeInfo) (v : Value) (a : AV), E.P.info? e = some i ∧ i.size = z ∧ i.zero = some v ∧ 0 < z ∧ zs = a.cells ∧ zs.length = z ∧ scalars zs = true ∧ ∀ m n, a.val m = v ∧ a.wf n := by
  unfold elemZ at h
  split at h
  · rename_i z' a hs hz
    cases hc : (Nat.beq (lenL a.cells) (Nat.succ z') && scalars a.cells)
    · rw [hc] at h; cases h
    · rw [hc] at h; cases h
      rw [Bool.and_eq_true] at hc
      obtain ⟨i, v, hi, hv, hm⟩ := zeroT_eq hE hz
      obtain ⟨i', hi', hs'⟩ := sizeT_eq hE hs
      rw [hi] at hi'
      cases hi'
      have := Nat.eq_of_beq_eq_true hc.1
      rw [lenL_eq] at this
      exact ⟨i, v, a, hi, hs', hv, Nat.succ_pos _, rfl, this, hc.2, hm⟩
  · cases h
theorem repL_len {E : Env} (_hE : EnvOk E) (zs : List AV) (n : Nat) : (repL zs n).length = n * zs.length := by
  rw [repL_eq]; simp
theorem repL_get {E : Env} (_hE : EnvOk E) (zs : List AV) (_hz : 0 < zs.length) : ∀ (n i : Nat), i < n * zs.length → (repL zs n)[i]? = zs[i % zs.length]? := by
  intro n
  induction n with
  | zero => intro i h; simp at h
  | succ n ih =>
    intro i h
    show (appL zs (repL zs n))[i]? = _
    rw [appL_eq]
    by_cases hi : i < zs.length
    · rw [List.getElem?_append_left hi, Nat.mod_eq_of_lt hi]
    · rw [List.getElem?_append_right (by omega), ih (i - zs.length) (by rw [Nat.succ_mul] at h; omega)]
      congr 1
      rw [Nat.mod_eq_sub_mod (show i ≥ zs.length by omega)]
theorem zeroCells_eq {E : Env} (hE : EnvOk E) (m : Ren) (zs : List AV) (hz : 0 < zs.length) (n : Nat) : (Array.range (n * zs.length)).map (fun i => (valL m zs).toArray[i % (valL m zs).toArray.size]!) = (valL m (repL zs n)).toArray := by
  apply Array.ext_getElem?
  intro i
  simp only [Array.getElem?_map, List.getElem?_toArray, valL_get, List.size_toArray, valL_len]
  by_cases hi : i < n * zs.length
  · rw [repL_get hE zs hz n i hi]
    have hm : i % zs.length < zs.length := Nat.mod_lt _ hz
    have e : (Array.range (n * zs.length))[i]? = some i := by simp [hi]
    rw [e]
    simp only [Option.map_some]
    rw [List.getElem?_eq_getElem hm]
    simp only [Option.map_some]
    congr 1
    have : i % zs.length < (valL m zs).length := by rw [valL_len]; exact hm
    simp [this, valL_eq, hm]
  · rw [List.getElem?_eq_none (by rw [repL_len hE]; omega)]
    have : (Array.range (n * zs.length))[i]? = none := by simp; omega
    rw [this]; rfl
theorem repL_scalars {E : Env} (_hE : EnvOk E) (zs : List AV) (h : scalars zs = true) (n : Nat) : scalars (repL zs n) = true := by
  rw [scalars_iff] at h ⊢
  intro v hv
  rw [repL_eq] at hv
  simp only [List.mem_flatten, List.mem_replicate] at hv
  obtain ⟨l, ⟨_, rfl⟩, hv⟩ := hv
  exact h v hv
theorem repL_wf {E : Env} (_hE : EnvOk E) {k : Nat} (zs : List AV) (h : wfL k zs) (n : Nat) : wfL k (repL zs n) := by
  rw [wfL_iff] at h ⊢
  intro v hv
  rw [repL_eq] at hv
  simp only [List.mem_flatten, List.mem_replicate] at hv
  obtain ⟨l, ⟨_, rfl⟩, hv⟩ := hv
  exact h v hv
theorem sliceEZ_eq {E : Env} (_hE : EnvOk E) {t : TypeId} {p : Nat × List AV} (h : sliceEZ E t = some p) : ∃ e, undT E.T t = some (.slice e) ∧ elemZ E e = some p := by
  unfold sliceEZ at h
  split at h
  · rename_i e he
    unfold sliceElem at he
    split at he
    · cases he; exact ⟨_, by assumption, h⟩
    · cases he
  · cases h
theorem pure_buildSlice {E : Env} (hE : EnvOk E) (c : Cx) (t : TypeId) (len : Nat) (parts : Array (Nat × Operand)) : OpPure E c (.buildSlice t len parts) := by
  have hh : hop E c (.buildSlice t len parts) = match sliceEZ E t with
    | some p => cond (Nat.ble (Nat.mul len p.1) 16777216) (sO fun l tm s => buildSliceA p.1 p.2 len ((evP c parts.toList).f l tm) s) failO
    | none => failO := rfl
  cases hk : sliceEZ E t with
  | none => rw [hk] at hh; exact pure_fail hh
  | some p =>
    rw [hk] at hh
    simp only at hh
    cases hle : Nat.ble (Nat.mul len p.1) 16777216
    · rw [hle] at hh; exact pure_fail hh
    · rw [hle] at hh
      refine pure_s _ hh fun oper ho hok l tm s v s' hv hS hw => ?_
      obtain ⟨z, zs⟩ := p
      obtain ⟨e, hu, hel⟩ := sliceEZ_eq hE hk
      obtain ⟨i, zv, a, hi, hsz, hzero, hpos, rfl, hlen, hsc, hm⟩ := elemZ_eq hE hel
      unfold buildSliceA at hv
      split at hv
      · rename_i cells hf
        rw [recB] at hv
        split at hv
        · rename_i hscal
          cases hv
          refine ⟨Nat.lt_succ_self _, fun m w ρ _ ha hfo => ?_⟩
          have hfr := fill_run m (pA := fun i => some (Nat.mul i z, z)) (pM := fun i => some (i * z, z)) (fun i x h => h) _ _ _ hf
          have hwf : wfL s.nx cells := fillA_wf _ _ _ hf (repL_wf hE _ (cells_wf (hm m s.nx).2) len) fun q hq => by
            obtain ⟨q', hq', rfl⟩ := evP_mem E c l tm _ q hq
            exact hw.wf _ (partL_ok hok q' hq')
          have hlc : cells.length = len * z := by rw [hfr.2, repL_len hE, hlen]
          unfold execOp; rw [ho]; simp only
          refine lay_row hE (cap := len) (arr := (valL m cells).toArray) (el := e) (fz := (0, 0)) (w' := w.alloc (.cells (valL m cells).toArray e)) hwf hscal ?_ rfl rfl rfl rfl (fz00 hE _) (by simp [valL_len, hlc]) (by rw [hlc]; exact Nat.le_refl _) (fun i x hx => by simp [valL_get, hx])
          rw [run_v]
          have e1 : (parts.map fun (p : Nat × Operand) => (p.1, ρ p.2)).toList = ((evP c parts.toList).f l tm).map fun p => (p.1, p.2.val m) := by
            rw [← evP_val ha _ hok]; simp
          have hle' := Nat.le_of_ble_eq_true hle
          simp only [Nat.mul_eq] at hle'
          have hzc : zv.cells = (valL m a.cells).toArray := by rw [← (hm m 0).1, cells_val]
          have hrun : (Instr.buildSlice t len (parts.map fun (p : Nat × Operand) => (p.1, ρ p.2))).run E.P w = .ok (.slice (some ⟨w.heap.size, 0, none⟩) len len) (w.alloc (.cells (valL m cells).toArray e)) := by
            unfold Instr.buildSlice
            have hsize : (sizeOf e).run E.P w = .ok z w := by simp [sizeOf, typeInfo, hi, hsz]
            simp only [Sem.run_bind, run_undT hE hu, Result.andThen_ok, hsize]
            rw [if_neg (by omega)]
            have hcells0 : (Array.range (len * z)).map (fun i => (if len * z = 0 then #[] else (valL m a.cells).toArray)[i % (if len * z = 0 then #[] else (valL m a.cells).toArray).size]!) = (valL m (repL a.cells len)).toArray := by
              by_cases h0 : len * z = 0
              · have : len = 0 := by rcases Nat.mul_eq_zero.1 h0 with h | h; exact h; omega
                subst this
                simp [repL, valL]
              · rw [if_neg h0]
                have := zeroCells_eq hE m a.cells (by omega) len
                rw [hlen] at this
                exact this
            have hfr1 := hfr.1
            rw [← e1] at hfr1
            simp only at hfr1
            by_cases h0 : len * z = 0
            · rw [if_pos h0] at hcells0 ⊢
              rw [pure_bind]
              rw [hcells0, hfr1]
              simp [newRow]
            · rw [if_neg h0] at hcells0 ⊢
              have hzv : (zeroValue e).run E.P w = .ok zv w := by simp [zeroValue, typeInfo, hi, hzero]
              rw [Sem.run_bind, hzv]
              simp only [Result.andThen_ok]
              rw [pure_bind, hzc, hcells0, hfr1]
              simp [newRow]
          rw [hrun]
          simp only [Result.andThen_ok, AV.val, Ren.add_blk, Ren.add_sh, Ren.add_cap, Cap.val]
        · cases hv
      · cases hv
theorem row_out {E : Env} (hE : EnvOk E) {m : Ren} {s : St} {w : World} {oper : Oper} {ρ : Operand → Value} {sem : Sem Value} {cells : List AV} {n : Nat} {e : TypeId} (hx : execOp ρ oper = (do pure (Next.value (← sem))))
    (hrun : sem.run E.P w = .ok (.pointer (some ⟨w.heap.size, 0, none⟩)) (w.alloc (.cells (valL m cells).toArray e))) (hw : wfL s.nx cells) (hsc : scalars cells = true) (hl : cells.length = n) :
    PureOut E.P m s w (execOp ρ oper) (.ptr s.nx 0) (s.newRow cells n).2 := by
  refine lay_row hE (cap := 1) (arr := (valL m cells).toArray) (el := e) (fz := (0, 0)) (w' := w.alloc (.cells (valL m cells).toArray e)) hw hsc ?_ rfl rfl rfl rfl (fz00 hE _) (by simp [valL_len, hl]) (by omega) (fun i x hx => by simp [valL_get, hx])
  rw [hx, run_v, hrun]
  simp only [Result.andThen_ok, AV.val, Ren.add_blk, Ren.add_sh]
theorem pure_alloc {E : Env} (hE : EnvOk E) (c : Cx) (t : TypeId) : OpPure E c (.alloc t) := by
  have hh : hop E c (.alloc t) = allocA E t := rfl
  unfold allocA at hh
  cases hz : zeroT E.T t with
  | none => rw [hz] at hh; exact pure_fail hh
  | some z =>
    cases hn : sizeT E.T t with
    | none => rw [hz, hn] at hh; exact pure_fail hh
    | some n =>
      rw [hz, hn] at hh
      simp only at hh
      cases hc : (Nat.beq (lenL z.cells) n && scalars z.cells)
      · rw [hc] at hh; exact pure_fail hh
      · rw [hc] at hh
        refine pure_s (fun _ _ s => newCells n z.cells s) hh fun oper ho hok l tm s v s' hv hS hw => ?_
        cases hv
        rw [Bool.and_eq_true] at hc
        have hl := Nat.eq_of_beq_eq_true hc.1
        rw [lenL_eq] at hl
        refine ⟨Nat.lt_succ_self _, fun m w ρ _ ha hfo => ?_⟩
        refine row_out hE (sem := Instr.alloc t true (.tuple #[])) (e := t) (by unfold execOp; rw [ho]) ?_ (cells_wf (zeroT_wf hE hz _)) hc.2 hl
        simp only [Instr.alloc, Sem.run_bind, run_zeroT hE hz m, Result.andThen_ok, newVar, newRow, run_newObj, Sem.run_pure, cells_val, World.alloc]
theorem pure_box {E : Env} (hE : EnvOk E) (c : Cx) (t : TypeId) (x : Operand) : OpPure E c (.box t x) := by
  have hh : hop E c (.box t x) = boxA E c t x := rfl
  unfold boxA at hh
  cases hn : sizeT E.T t with
  | none => rw [hn] at hh; exact pure_fail hh
  | some n =>
    rw [hn] at hh
    refine pure_s _ hh fun oper ho hok l tm s v s' hv hS hw => ?_
    have hx := ok1 hE c hok
    unfold boxV at hv
    rw [recB] at hv
    split at hv
    · rename_i hc
      cases hv
      rw [Bool.and_eq_true] at hc
      have hl := Nat.eq_of_beq_eq_true hc.1
      rw [lenL_eq] at hl
      refine ⟨Nat.lt_succ_self _, fun m w ρ _ ha hfo => ?_⟩
      refine row_out hE (sem := Instr.box t (ρ x)) (e := t) (by unfold execOp; rw [ho]) ?_ (cells_wf (hw.wf x hx)) hc.2 hl
      rw [ha.val x hx]
      simp only [Instr.box, Sem.run_bind, newVar, newRow, run_newObj, Sem.run_pure, Result.andThen_ok, cells_val, World.alloc]
    · cases hv
theorem pure_makeMap {E : Env} (_hE : EnvOk E) (c : Cx) (t : TypeId) (r : Option Operand) : OpPure E c (.makeMap t r) := by
  cases r with
  | some x => exact pure_fail rfl
  | none =>
    refine pure_s (fun _ _ s => newMap s) rfl fun oper ho hok l tm s v s' hv hS hw => ?_
    cases hv
    refine ⟨Nat.lt_succ_self _, fun m w ρ _ ha hfo => ?_⟩
    refine .inr ⟨.mapo [] 0, .map #[] 0, 0, w.alloc (.map #[] 0), rfl, ?_, rfl, rfl, rfl, rfl, fun e he => (by cases he), fun g p h => (by cases h), ?_⟩
    · unfold execOp; rw [ho]
      simp only
      rw [run_v]
      simp [Instr.makeMap, AV.val, Ren.add_blk]
    · show (w.alloc (.map #[] 0)).heap[(m.add s.nx w.heap.size 0 0).blk s.nx]? = _
      rw [Ren.add_blk]; exact Array.getElem?_push_size
/-- all operations that turn no object -/
theorem op_pure {E : Env} (hE : EnvOk E) (c : Cx) (o : Op) (h : isE o = false) : OpPure E c o := by
  cases o with
  | move x => exact pure_move hE c x
  | assign x => exact pure_assign hE c x
  | pick x a b => exact pure_pick hE c x a b
  | alloc t => exact pure_alloc hE c t
  | box t x => exact pure_box hE c t x
  | build t p => exact pure_build hE c t p
  | buildSlice t n p => exact pure_buildSlice hE c t n p
  | load t a => exact pure_load hE c t a
  | nilCheck x => exact pure_nilCheck hE c x
  | binOp op t x y u => exact pure_binOp hE c op t x y u
  | unOp op t x => exact pure_unOp hE c op t x
  | convert a b x => exact pure_convert hE c a b x
  | makeInterface t x => exact pure_makeInterface hE c t x
  | makeFunc f a b => exact pure_makeFunc hE c f a b
  | makeMap t r => exact pure_makeMap hE c t r
  | slice t x a b d => exact pure_slice hE c t x a b d
  | fieldAddr t x f => exact pure_fieldAddr hE c t x f
  | field t x f => exact pure_field hE c t x f
  | indexAddr t x i => exact pure_indexAddr hE c t x i
  | index t x i => exact pure_index hE c t x i
  | lookup t x i ok => exact pure_lookup hE c t x i ok
  | extract x i => exact pure_extract hE c x i
  | typeAssert x a b ok => exact pure_typeAssert hE c x a b ok
  | call cl =>
    have hb : ∃ b, cl.callee = .builtin b := by
      cases hc : cl.callee with
      | builtin b => exact ⟨b, rfl⟩
      | value f => unfold isE at h; simp only [hc] at h; cases h
      | invoke r n => unfold isE at h; simp only [hc] at h; cases h
    obtain ⟨b, hb⟩ := hb
    exact pure_builtin hE c cl b hb h
  | _ => first | exact pure_fail rfl | cases h
end Go.Vx
