/- The abstract executor: append, whole; all operations that call nothing. -/
import Derived.Test.YtnccicagemmjeaaGreatDoorVx20
namespace Go.Vx
theorem appendN_ok {E : Env} (hE : EnvOk E) {m : Ren} {s s' : St} {w : World} {ar : Array TypeId} {ty e : TypeId} {y zv : Value} {z n : Nat} {new : List AV} {x v : AV} (hS : Src E.P w ar ty e y z n (valL m new).toArray zv) (hz : 0 < z) (hR : Rel m s w.heap)
    (h : appendN z n new x s = some (v, s')) (hx : x.wf s.nx) (hwn : wfL s.nx new) :
    ∃ m' w', (Builtin.append_ ar ty #[x.val m, y]).run E.P w = .ok (v.val m') w' ∧ Rel m' s' w'.heap ∧ Grow m s w m' s' w' ∧ v.wf s'.nx ∧ s'.df = s.df := by
  unfold appendN at h
  rw [recB] at h
  split at h
  · rename_i hl
    have hl := Nat.eq_of_beq_eq_true hl
    rw [lenL_eq] at hl
    simp only [Nat.mul_eq] at hl
    rw [recB] at h
    split at h
    · rename_i hn
      have hn := Nat.le_of_ble_eq_true hn
      rw [recB] at h
      split at h
      · rename_i hsc
        split at h
        · -- to none at all
          rw [recB] at h
          split at h
          · rename_i h0
            have h0 := Nat.eq_of_beq_eq_true h0
            subst h0
            cases h
            refine ⟨m, w, ?_, hR, .refl _ _ _, trivial, rfl⟩
            simp only [AV.val, NilK.val]
            rw [hS.room none 0 0 (by omega)]
            rfl
          · rename_i h0
            have h0 : n ≠ 0 := fun e' => h0 (by rw [e']; rfl)
            have := append_grow_new hE (len := 0) (sCap := 0) (base := none) (old := []) hS hR (by simp [Builtin.firstCells, valL]) (by omega) (by omega) (by simp) hl trivial hwn rfl hsc
            simp only [Nat.zero_add, appL_eq, List.nil_append] at this
            cases h
            exact this
        · rename_i b o len cp
          rw [recB] at h
          split at h
          · rename_i hlen
            have hlen := Nat.le_of_ble_eq_true hlen
            unfold appendSlc at h
            rw [recO] at h
            cases hld : loadCells s b o (len * z) with
            | none => rw [show Nat.mul len z = len * z from rfl, hld] at h; cases h
            | some old =>
              rw [show Nat.mul len z = len * z from rfl, hld] at h
              simp only at h
              obtain ⟨cells, es, g, p, hb, hsub⟩ := loadCells_eq hld
              have hlt := hR.lt b _ hb
              obtain ⟨hlo, hgo, hle⟩ := sub_eq hsub
              cases cp with
              | exact k =>
                simp only at h
                rw [recB] at h
                split at h
                · rename_i hk
                  have hk := Nat.le_of_ble_eq_true hk
                  exact append_in hE hS hR h hk hx hwn
                · rename_i hk
                  have hk : ¬ (len + n ≤ k) := fun h' => hk (Nat.ble_eq_true_of_le h')
                  cases h
                  have hfc : (Builtin.firstCells z len (.slice (some ⟨m.blk b, m.sh b + o, none⟩) len k)).run E.P w.drew = .ok (valL m old).toArray w.drew := by
                    show (Go.loadCells ⟨m.blk b, m.sh b + o, none⟩ (len * z)).run E.P w.drew = _
                    exact run_loadCells_row (w := w.drew) (hR.obj b _ hb) hsub
                  exact append_grow_new hE (sCap := k) hS hR hfc (by omega) (by omega) hlo hl ((wfL_iff _ _).2 fun v hv => (wfL_iff _ _).1 hlt.2.1 v (sub_mem hsub v hv)) hwn
                    ((scalars_iff _).2 fun v hv => (scalars_iff _).1 hlt.2.2.1 v (sub_mem hsub v hv)) hsc
              | rest d =>
                simp only at h
                unfold appendRest at h
                have hobj : s.obj b = .row cells es g p := by unfold St.obj; rw [hb]; rfl
                rw [hobj] at h
                simp only at h
                rw [recB] at h
                split at h
                · rename_i hes
                  have hes := Nat.eq_of_beq_eq_true hes
                  rw [recB] at h
                  split at h
                  · rename_i hod
                    rw [Bool.and_eq_true] at hod
                    have ho := Nat.eq_of_beq_eq_true hod.1
                    have hod := Nat.le_of_ble_eq_true hod.2
                    rw [lenL_eq] at hod
                    simp only [Nat.mul_eq] at ho
                    rw [recB] at h
                    split at h
                    · rename_i hin
                      have hin := Nat.le_of_ble_eq_true hin
                      rw [lenL_eq] at hin
                      simp only [Nat.mul_eq, Nat.add_eq] at hin
                      refine append_in hE hS hR h ?_ hx hwn
                      show len + n ≤ m.cap b - d
                      obtain ⟨_, _, _, _, _, _, hcl, _⟩ := hR.obj b _ hb
                      subst hes
                      have : (d + (len + n)) * es ≤ m.cap b * es := by rw [Nat.add_mul]; omega
                      have := Nat.le_of_mul_le_mul_right this hz
                      omega
                    · cases h
                      exact append_may hE hS hR hb hes ho hod hsub (by omega) hl hz hwn hsc
                  · cases h
                · cases h
          · cases h
        · cases h
      · cases h
    · cases h
  · cases h
theorem firstCells_run {E : Env} (hE : EnvOk E) {m : Ren} {s : St} {w : World} (hR : Rel m s w.heap) {z n : Nat} {y : AV} {new : List AV} (hlen : lenOfA y = some n) (h : firstCells s z n y = some new) (hy : y.wf s.nx) :
    wfL s.nx new ∧ (Builtin.lenOf (y.val m)).run E.P w = .ok n w ∧ (Builtin.firstCells z n (y.val m)).run E.P w = .ok (valL m new).toArray w := by
  unfold lenOfA at hlen
  split at hlen
  · rename_i b o n' cp
    cases hlen
    have h : loadCells s b o (n * z) = some new := h
    obtain ⟨cells, es, g, p, hb, hsub⟩ := loadCells_eq h
    exact ⟨loadCells_wf hE (Rel.wf hE hR) h, rfl, run_loadCells_row (hR.obj b _ hb) hsub⟩
  · cases hlen
    cases h
    exact ⟨trivial, rfl, rfl⟩
  · rename_i b o d a z'
    cases hlen
    cases h
    refine ⟨trivial, rfl, ?_⟩
    simp [AV.val, OAV.val, Builtin.firstCells, Go.loadCells, loadCellsFrom, valL]
  · rename_i l
    cases hlen
    cases h
    refine ⟨ofBytes_wf hE _ l, ?_, ?_⟩
    · simp only [AV.val, strV, Builtin.lenOf, Sem.run_pure, strV_size, lenL_eq]
    · simp only [AV.val, strV, Builtin.firstCells, Sem.run_pure]
      congr 1
      rw [ofBytes_val hE]
      have : (⟨(l.map UInt8.ofNat).toArray⟩ : ByteArray).extract 0 (lenL l) = ⟨(l.map UInt8.ofNat).toArray⟩ := by
        rw [lenL_eq, ← strV_size l]
        exact ByteArray.extract_zero_size
      rw [this]
      apply Array.ext'
      simp only [Array.toList_map, List.toList_toArray, List.map_map]
      apply List.map_congr_left
      intro b hb
      have := hy b hb
      simp [UInt8.toNat_ofNat', Nat.mod_eq_of_lt this]
  · cases hlen
theorem appK_eq {E : Env} (hE : EnvOk E) {t : TypeId} {p : Nat × List AV} (h : appK E t = some p) : ∃ e, undT E.T t = some (.slice e) ∧ elemZ E e = some p ∧ ∀ i, E.P.info? e = some i → i.bytes ≤ 1048576 := by
  unfold appK at h
  split at h
  · rename_i e he
    have hu : undT E.T t = some (.slice e) := by
      unfold sliceElem at he
      split at he
      · cases he; assumption
      · cases he
    split at h
    · rename_i i hi
      cases hb : Nat.ble i.bytes 1048576
      · rw [hb] at h; cases h
      · rw [hb] at h
        refine ⟨e, hu, h, fun j hj => ?_⟩
        rw [hE.T e i hi] at hj
        cases hj
        exact Nat.le_of_ble_eq_true hb
    · cases h
  · cases h
theorem does_append {E : Env} (hE : EnvOk E) (c : Cx) {cl : Call} (hc : cl.callee = .builtin .append) : OpDoes E c (.call cl) := by
  have hh : hop E c (.call cl) = biA E c .append cl.argTypes.toList cl.args.toList := by show callOp E c cl = _; unfold callOp; rw [hc]
  have hopL : opL (.call cl) = cl.args.toList := by show (match cl.callee with | .value f => f :: cl.args.toList | _ => cl.args.toList) = _; rw [hc]
  have main : ∀ (x y : Operand) (t t2 : TypeId) (ts : List TypeId), cl.args.toList = [x, y] → cl.argTypes.toList = t :: t2 :: ts → hop E c (.call cl) = (match appK E t, undT E.T t2 with
      | some p, some (.int _) => sO fun l tm s => appendZ p.1 p.2 ((ev c x).f l tm) ((ev c y).f l tm) s
      | some p, some _ => sO fun l tm s => appendA p.1 ((ev c x).f l tm) ((ev c y).f l tm) s
      | _, _ => failO) → OpDoes E c (.call cl) := by
    intro x y t t2 ts h1 h2 hh
    cases hk : appK E t with
    | none => rw [hk] at hh; exact does_fail hE c hh
    | some p =>
      cases hd : undT E.T t2 with
      | none => rw [hk, hd] at hh; exact does_fail hE c hh
      | some d =>
        rw [hk, hd] at hh
        obtain ⟨z, zs⟩ := p
        obtain ⟨e, hu, hel, hby⟩ := appK_eq hE hk
        obtain ⟨i, zv, a, hi, hsz, hzero, hpos, rfl, hlen, hsc, hm⟩ := elemZ_eq hE hel
        have hbi := hby i hi
        have ht := undT_eq hE hu
        have ht2 := undT_eq hE hd
        have hsize : zv.cells.size = z := by
          rw [← (hm ⟨fun _ => 0, fun _ => 0, fun _ => 0, fun _ => 0⟩ 0).1, cells_val]; simp [valL_len, hlen]
        have fin : ∀ (oper : Oper), oper.op = .call cl → okOs c (opL (.call cl)) = true → ∀ (l : List AV) (tm : Tm) (s s' : St) (v : AV) (m : Ren) (w : World) (ρ : Operand → Value) (n : Nat) (new : List AV), Rel m s w.heap → ArgsWf c l tm s.nx → ArgsVal c l tm m ρ →
            Src E.P w cl.argTypes oper.type e (((ev c y).f l tm).val m) z n (valL m new).toArray zv → appendN z n new ((ev c x).f l tm) s = some (v, s') → wfL s.nx new → Does E.P m s w (execOp ρ oper) v s' := by
          intro oper ho hok l tm s s' v m w ρ n new hR hw ha hS hN hwn
          have hx : okO c x = true := by rw [hopL, h1] at hok; exact ok1 hE c hok
          obtain ⟨m', w', hrun, hR', hG, hwf, hdf⟩ := appendN_ok hE hS hpos hR hN (hw.wf x hx) hwn
          refine ⟨m', w', _, ?_, .inl rfl, hR', hG, hwf, hdf⟩
          rw [exec_builtin hE ho hc]
          have hargs : cl.args.map ρ = #[((ev c x).f l tm).val m, ((ev c y).f l tm).val m] := by
            rw [args_eq hE c ha cl (hopL ▸ hok), h1]; rfl
          rw [hargs]
          simp only [builtin]
          rw [run_v, hrun]
          rfl
        have harT : cl.argTypes = (t :: t2 :: ts).toArray := by rw [← h2]
        by_cases hint : ∃ k, d = .int k
        · obtain ⟨k, rfl⟩ := hint
          refine does_s hE c _ hh fun oper ho hok l tm s v s' hv m w ρ hR hf hw ha => ?_
          unfold appendZ at hv
          rw [recO] at hv
          cases hn : natOf ((ev c y).f l tm) with
          | none => rw [hn] at hv; cases hv
          | some n =>
            rw [hn] at hv
            simp only at hv
            rw [recB] at hv
            split at hv
            · rename_i hle
              have hle := Nat.le_of_ble_eq_true hle
              rw [recB] at hv
              split at hv
              · rename_i h1n
                have h1n := Nat.le_of_ble_eq_true h1n
                obtain ⟨kk, hy⟩ := natOf_eq hE hn
                have hzz : Builtin.zeroCells zv.cells n = (valL m (repL a.cells n)).toArray := by
                  have hzc : zv.cells = (valL m a.cells).toArray := by rw [← (hm m 0).1, cells_val]
                  unfold Builtin.zeroCells
                  rw [← zeroCells_eq hE m a.cells (by omega) n, hzc]
                  simp [valL_len]
                have hpz : 0 < n * i.size := by rw [hsz]; exact Nat.mul_pos h1n hpos
                refine fin oper ho hok l tm s s' v m w ρ n _ hR hw ha ⟨fun base sLen sCap hroom => ?_, fun base sLen sCap old hold hgrow hsmall => ?_, hsize⟩ hv (repL_wf hE _ (cells_wf (hm m _).2) n)
                · rw [harT, hy, ← hsz, ← hzz]
                  exact app_room_int ht ht2 hi rfl hzero hle hbi hpz hroom
                · rw [harT, hy, ← hzz]
                  exact app_grow_int ht ht2 hi rfl hzero hpz (by rw [hsz]; exact hold) hgrow hle hsmall hbi
              · cases hv
            · cases hv
        · have hh2 : hop E c (.call cl) = sO fun l tm s => appendA z ((ev c x).f l tm) ((ev c y).f l tm) s := by
            rw [hh]; cases d <;> first | rfl | exact absurd ⟨_, rfl⟩ hint
          refine does_s hE c _ hh2 fun oper ho hok l tm s v s' hv m w ρ hR hf hw ha => ?_
          have hy : okO c y = true := by rw [hopL, h1] at hok; exact ok2 hE c hok
          unfold appendA at hv
          rw [recO] at hv
          cases hn : lenOfA ((ev c y).f l tm) with
          | none => rw [hn] at hv; cases hv
          | some n =>
            rw [hn] at hv
            simp only at hv
            rw [recO] at hv
            cases hnew : firstCells s z n ((ev c y).f l tm) with
            | none => rw [hnew] at hv; cases hv
            | some new =>
              rw [hnew] at hv
              obtain ⟨g1, g2, g3⟩ := firstCells_run hE hR hn hnew (hw.wf y hy)
              obtain ⟨_, _, g4⟩ := firstCells_run hE (w := w.drew) hR hn hnew (hw.wf y hy)
              refine fin oper ho hok l tm s s' v m w ρ n _ hR hw ha ⟨fun base sLen sCap hroom => ?_, fun base sLen sCap old hold hgrow hsmall => ?_, hsize⟩ hv g1
              · rw [harT, ← hsz]
                exact app_room ht ht2 hi (fun k hk => hint ⟨k, hk⟩) g2 (by rw [hsz]; exact g3) hroom
              · rw [harT]
                exact app_grow ht ht2 hi (fun k hk => hint ⟨k, hk⟩) hzero g2 (by rw [hsz]; exact g4) (by rw [hsz]; exact hold) hgrow hsmall hbi
  rcases hargs : cl.args.toList with _ | ⟨x, _ | ⟨y, _ | ⟨z, rest⟩⟩⟩ <;> rcases hts : cl.argTypes.toList with _ | ⟨t, _ | ⟨t2, ts⟩⟩ <;> rw [hargs, hts] at hh <;> try (exact does_fail hE c hh)
  exact main _ _ _ _ _ hargs hts hh
end Go.Vx
