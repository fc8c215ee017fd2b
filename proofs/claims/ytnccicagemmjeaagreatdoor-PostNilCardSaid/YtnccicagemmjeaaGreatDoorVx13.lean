/- The abstract executor: slices, loads, lengths. -/
import Derived.Test.YtnccicagemmjeaaGreatDoorVx12
namespace Go.Vx

theorem pure_convert {E : Env} (hE : EnvOk E) (c : Cx) (src dst : TypeId) (x : Operand) : OpPure E c (.convert src dst x) := by
  have hh : hop E c (.convert src dst x) = convA E c src dst x := rfl
  unfold convA at hh
  have hx1 : okOs c (opL (.convert src dst x)) = true → okO c x = true := fun h => ok1 hE c h
  cases hk : convK E src dst with
  | no => rw [hk] at hh; exact pure_fail hh
  | int k =>
    rw [hk] at hh
    have hd : ∃ d, undT E.T src = some d ∧ undT E.T dst = some (.int k) := by
      unfold convK at hk
      split at hk <;> cases hk
      exact ⟨_, by assumption, by assumption⟩
    obtain ⟨d, h1, h2⟩ := hd
    refine pure_v _ hh fun oper ho hok l tm s v hv hS hw => ?_
    refine ⟨(convInt_run hE (n := s.nx) hv src dst h1 h2 ⟨fun _ => 0, fun _ => 0, fun _ => 0, fun _ => 0⟩ default).1, fun m w ρ hf ha _ => ?_⟩
    unfold execOp; rw [ho]; simp only
    refine exec_v ?_
    rw [ha.val x (hx1 hok)]
    exact (convInt_run hE (n := s.nx) hv src dst h1 h2 m w).2
  | str =>
    rw [hk] at hh
    have hd : undT E.T dst = some .string := by
      unfold convK at hk
      split at hk <;> cases hk
      assumption
    refine pure_v _ hh fun oper ho hok l tm s v hv hS hw => ?_
    refine ⟨(convStr_run hE (n := s.nx) hv).1, fun m w ρ hf ha hfo => ?_⟩
    unfold execOp; rw [ho]; simp only
    refine exec_v ?_
    rw [ha.val x (hx1 hok)]
    refine (convStr_run hE (n := s.nx) hv).2 dst m w hd fun b o k cp he => ?_
    refine hfo [.cells b o k] ?_ _ (by simp)
    show (match (ev c x).f l tm with | .slc b o n _ => some [Foot.cells b o n] | _ => some []) = _
    rw [he]
  | slice e =>
    rw [hk] at hh
    have hd : undT E.T src = some .string ∧ undT E.T dst = some (.slice e) := by
      unfold convK at hk
      split at hk <;> cases hk
      exact ⟨by assumption, by assumption⟩
    refine pure_s _ hh fun oper ho hok l tm s v s' hv hS hw => ?_
    obtain ⟨h1, h2⟩ := convSlice_run hE hv (hw.wf x (hx1 hok)) hd.1 hd.2
    refine ⟨h1, fun m w ρ hf ha hfo => ?_⟩
    unfold execOp; rw [ho]; simp only
    rw [ha.val x (hx1 hok)]
    exact h2 m w

/-! ### Slices -/
theorem run_bound {E : Env} (_hE : EnvOk E) {k : IntKind} {n y : Nat} (h : n ≤ y) (code : BoundsCode) (P : Program) (w : World) : (Instr.sliceBound (.int k (.ofNat n)) y code).run P w = .ok n w := by
  have h1 : 0 ≤ Int.ofNat n ∧ Int.ofNat n ≤ (y : Int) := by simp only [Int.ofNat_eq_natCast]; omega
  simp only [Instr.sliceBound, asIntOf, Sem.run_bind, Sem.run_pure, Result.andThen_ok, if_pos h1]
  rfl
/-- what an optional bound stands for -/
noncomputable def boundV (m : Ren) (x : Option AV) : Option Value := x.map (AV.val m)
theorem natO_eq {E : Env} (hE : EnvOk E) {x : Option AV} {d n : Nat} (h : natO x d = some n) : (x = none ∧ n = d) ∨ ∃ k, x = some (.int k (.ofNat n)) := by
  cases x with
  | none => cases h; exact .inl ⟨rfl, rfl⟩
  | some v =>
    obtain ⟨k, rfl⟩ := natOf_eq hE (show natOf v = some n from h)
    exact .inr ⟨k, rfl⟩
theorem run_bounds {E : Env} (hE : EnvOk E) {lo hi mx : Option AV} {len cap a h m : Nat} (h1 : natO mx cap = some m) (h2 : natO hi len = some h) (h3 : natO lo 0 = some a) (hmh : mx ≠ none → hi ≠ none) (l1 : a ≤ h) (l2 : h ≤ m) (l3 : m ≤ cap)
    (r : Ren) (isS : Bool) (w : World) : (Instr.sliceBounds isS len cap (boundV r lo) (boundV r hi) (boundV r mx)).run E.P w = .ok (a, h, m) w := by
  unfold Instr.sliceBounds
  rcases natO_eq hE h1 with ⟨rfl, rfl⟩ | ⟨k1, rfl⟩ <;> rcases natO_eq hE h2 with ⟨rfl, rfl⟩ | ⟨k2, rfl⟩ <;> rcases natO_eq hE h3 with ⟨rfl, rfl⟩ | ⟨k3, rfl⟩
  all_goals first
    | (simp only [boundV, Option.map_none, Option.map_some, AV.val, Sem.run_bind, Sem.run_pure, Result.andThen_ok, run_bound hE l1, run_bound hE l2, run_bound hE l3, pure_bind]; done)
    | exact absurd rfl (hmh (by simp))
theorem sliceAt_slice {E : Env} (hE : EnvOk E) {t e : TypeId} (hu : undT E.T t = some (.slice e)) (x : Value) (lo hi mx : Option Value) (w : World) : (Instr.sliceAt t x lo hi mx).run E.P w = (Instr.slice t x lo hi mx).run E.P w := by
  simp only [Instr.sliceAt, Sem.run_bind, run_undT hE hu, Result.andThen_ok]
theorem run_slice {E : Env} (hE : EnvOk E) {t e : TypeId} {z : Nat} (hu : undT E.T t = some (.slice e)) (hz : sizeT E.T e = some z) {ad : Option Addr} {lo hi mx : Option AV} {len cap a h m : Nat} (h1 : natO mx cap = some m) (h2 : natO hi len = some h) (h3 : natO lo 0 = some a)
    (hmh : mx ≠ none → hi ≠ none) (l1 : a ≤ h) (l2 : h ≤ m) (l3 : m ≤ cap) (r : Ren) (w : World) :
    (Instr.sliceAt t (.slice ad len cap) (boundV r lo) (boundV r hi) (boundV r mx)).run E.P w = .ok (.slice (if m = a then ad else ad.map (·.add (a * z))) (h - a) (m - a)) w := by
  rw [sliceAt_slice hE hu]
  unfold Instr.slice
  rw [Sem.run_bind, run_undT hE hu]
  simp only [Result.andThen_ok]
  rw [Sem.run_bind, run_bounds hE h1 h2 h3 hmh l1 l2 l3 r true w]
  simp only [Result.andThen_ok, Sem.run_bind, run_sizeT hE hz, Sem.run_pure]
theorem cut_val {E : Env} (_hE : EnvOk E) (m : Ren) (b o z a h k : Nat) : (cut b o z a h k).val m = .slice (if k = a then some ⟨m.blk b, m.sh b + o, none⟩ else (some (⟨m.blk b, m.sh b + o, none⟩ : Addr)).map (·.add (a * z))) (h - a) (k - a) := by
  unfold cut
  simp only [AV.val, Cap.val]
  by_cases e : k = a
  · subst e; rw [Nat.beq_refl, if_pos rfl]; rfl
  · rw [beq_ne e, if_neg e]
    simp [Addr.add_lit, Nat.add_assoc]
theorem sliceA_run {E : Env} (hE : EnvOk E) {t : TypeId} {x v : AV} {lo hi mx : Option AV} {s : St} {n : Nat} (hv : sliceA E t x lo hi mx s = some v) (hmh : mx ≠ none → hi ≠ none) (hx : x.wf n) :
    v.wf n ∧ ∀ (m : Ren) (w : World), (∀ b o k d, x = .slc b o k (.rest d) → FootOk E m w s (.row b)) →
      (Instr.sliceAt t (x.val m) (boundV m lo) (boundV m hi) (boundV m mx)).run E.P w = .ok (v.val m) w := by
  unfold sliceA at hv
  split at hv
  · rename_i z hz
    obtain ⟨e, hu, hsz⟩ := sliceZ_eq hE hz
    split at hv
    · -- none at all
      unfold sliceNil at hv
      split at hv
      · rename_i h1 h2 h3
        cases hv
        refine ⟨trivial, fun m w _ => ?_⟩
        have := run_slice hE hu hsz (ad := none) h1 h2 h3 hmh (Nat.le_refl _) (Nat.le_refl _) (Nat.le_refl _) m w
        simp only [AV.val, NilK.val]
        simpa using this
      · cases hv
    · rename_i b o k cp
      split at hv
      · -- its room is known
        rename_i cap
        unfold sliceExact at hv
        split at hv
        · rename_i m' h' a' h1 h2 h3
          cases hc : (Nat.ble a' h' && Nat.ble h' m' && Nat.ble m' cap)
          · rw [hc] at hv; cases hv
          · rw [hc] at hv; cases hv
            simp only [Bool.and_eq_true, Nat.ble_eq] at hc
            refine ⟨hx, fun m w _ => ?_⟩
            rw [cut_val hE]
            exact run_slice hE hu hsz h1 h2 h3 hmh hc.1.1 hc.1.2 hc.2 m w
        · cases hv
      · -- its room is what the row leaves
        rename_i d
        unfold sliceRest at hv
        split at hv
        · rename_i h' a' h2 h3
          cases hc : (Nat.beq o (Nat.mul d (z + 1)) && Nat.ble a' h' && Nat.ble h' (Nat.sub (rowLen s b (z + 1)) d))
          · rw [hc] at hv; cases hv
          · rw [hc] at hv
            simp only [cond_true] at hv
            simp only [Bool.and_eq_true, Nat.ble_eq] at hc
            have ho : o = d * (z + 1) := Nat.eq_of_beq_eq_true hc.1.1
            have hrow : ∀ (m : Ren) (w : World), FootOk E m w s (.row b) → rowLen s b (z + 1) ≤ m.cap b := by
              intro m w hf
              unfold rowLen St.obj
              cases hb : s.hp.get b with
              | none => exact Nat.zero_le _
              | some ob =>
                cases ob with
                | row cells es g p =>
                  have := hf cells es g p hb
                  simp only [Option.getD_some]
                  rw [recB]
                  split
                  · rename_i he
                    have he := Nat.eq_of_beq_eq_true he
                    subst he
                    rw [lenL_eq]
                    exact Nat.div_le_of_le_mul (by rw [Nat.mul_comm]; exact this)
                  · exact Nat.zero_le _
                | _ => exact Nat.zero_le _
            split at hv
            · -- no third bound
              cases hd : Nat.ble (Nat.succ a') (Nat.sub (rowLen s b (z + 1)) d)
              · rw [hd] at hv
                simp only [cond_false] at hv
                cases hv
                refine ⟨hx, fun m w hf => ?_⟩
                have hr := hrow m w (hf b o k d rfl)
                have hna : ¬ (a' + 1 ≤ rowLen s b (z + 1) - d) := fun h => by
                  have e : Nat.ble (Nat.succ a') (Nat.sub (rowLen s b (z + 1)) d) = true := Nat.ble_eq_true_of_le h
                  rw [hd] at e; cases e
                have hah : a' = h' := by simp only [Nat.sub_eq] at hc; omega
                subst hah
                have := run_slice hE hu hsz (ad := some ⟨m.blk b, m.sh b + o, none⟩) (mx := none) (cap := m.cap b - d) (m := m.cap b - d) rfl h2 h3 (fun h => absurd rfl h) (Nat.le_refl _) (by simp only [Nat.sub_eq] at hc; omega) (Nat.le_refl _) m w
                simp only [AV.val, Cap.val]
                refine this.trans ?_
                simp only [OAV.val, Nat.sub_self]
                by_cases e : m.cap b - d = a'
                · rw [if_pos e, if_pos e]
                · rw [if_neg e, if_neg e]; simp [Addr.add_lit]
              · rw [hd] at hv
                cases hv
                refine ⟨hx, fun m w hf => ?_⟩
                have hr := hrow m w (hf b o k d rfl)
                have hd := Nat.le_of_ble_eq_true hd
                simp only [Nat.sub_eq, Nat.succ_eq_add_one] at hc hd
                have := run_slice hE hu hsz (ad := some ⟨m.blk b, m.sh b + o, none⟩) (mx := none) (cap := m.cap b - d) (m := m.cap b - d) rfl h2 h3 (fun h => absurd rfl h) hc.1.2 (by omega) (Nat.le_refl _) m w
                simp only [AV.val, Cap.val]
                refine this.trans ?_
                rw [if_neg (by omega)]
                simp [Addr.add_lit, Nat.add_assoc, Nat.sub_sub]
            · rename_i mv
              split at hv
              · rename_i m' hm'
                cases hd : (Nat.ble h' m' && Nat.ble m' (Nat.sub (rowLen s b (z + 1)) d))
                · rw [hd] at hv; cases hv
                · rw [hd] at hv
                  cases hv
                  simp only [Bool.and_eq_true, Nat.ble_eq, Nat.sub_eq] at hd
                  refine ⟨hx, fun m w hf => ?_⟩
                  have hr := hrow m w (hf b o k d rfl)
                  rw [cut_val hE]
                  exact run_slice hE hu hsz (mx := some mv) (cap := m.cap b - d) hm' h2 h3 hmh hc.1.2 hd.1 (by omega) m w
              · cases hv
        · cases hv
    · cases hv
  · cases hv
theorem evM_val {E : Env} (_hE : EnvOk E) (c : Cx) {l : List AV} {tm : Tm} {m : Ren} {ρ : Operand → Value} (ha : ArgsVal c l tm m ρ) (x : Option Operand) (h : ∀ y, x = some y → okO c y = true) : x.map ρ = boundV m ((evM c x).f l tm) := by
  cases x with
  | none => rfl
  | some y => simp only [Option.map_some, ha.val y (h y rfl)]; rfl
theorem optL_ok {E : Env} (_hE : EnvOk E) (c : Cx) {x : Option Operand} {l : List Operand} (h : okOs c (optL x l) = true) : (∀ y, x = some y → okO c y = true) ∧ okOs c l = true := by
  cases x with
  | none => exact ⟨fun y hy => (by cases hy), h⟩
  | some z => exact ⟨fun y hy => by cases hy; exact ((okOs_cons c z l).1 h).1, ((okOs_cons c z l).1 h).2⟩
theorem pure_slice {E : Env} (hE : EnvOk E) (c : Cx) (t : TypeId) (x : Operand) (lo hi mx : Option Operand) : OpPure E c (.slice t x lo hi mx) := by
  by_cases hb : hi = none ∧ mx ≠ none
  · obtain ⟨rfl, hm⟩ := hb
    cases mx with
    | none => exact absurd rfl hm
    | some y => exact pure_fail rfl
  · have hh : hop E c (.slice t x lo hi mx) = vO fun l tm s => sliceA E t ((ev c x).f l tm) ((evM c lo).f l tm) ((evM c hi).f l tm) ((evM c mx).f l tm) s := by
      cases hi with
      | none => cases mx with
        | none => rfl
        | some y => exact absurd ⟨rfl, by simp⟩ hb
      | some y => cases mx <;> rfl
    refine pure_v _ hh fun oper ho hok l tm s v hv hS hw => ?_
    have hok' : okOs c (x :: optL lo (optL hi (optL mx []))) = true := hok
    obtain ⟨hx, hok'⟩ := (okOs_cons c x _).1 hok'
    obtain ⟨h1, hok'⟩ := optL_ok hE c hok'
    obtain ⟨h2, hok'⟩ := optL_ok hE c hok'
    obtain ⟨h3, _⟩ := optL_ok hE c hok'
    have hmh : (evM c mx).f l tm ≠ none → (evM c hi).f l tm ≠ none := by
      intro h
      cases hi with
      | none => cases mx with
        | none => exact absurd rfl h
        | some y => exact absurd ⟨rfl, by simp⟩ hb
      | some y => simp [evM]
    obtain ⟨g1, g2⟩ := sliceA_run hE hv hmh (hw.wf x hx)
    refine ⟨g1, fun m w ρ hf ha hfo => ?_⟩
    unfold execOp; rw [ho]; simp only
    refine exec_v ?_
    rw [ha.val x hx, evM_val hE c ha lo h1, evM_val hE c ha hi h2, evM_val hE c ha mx h3]
    refine g2 m w fun b o k d he => ?_
    refine hfo [.row b] ?_ _ (by simp)
    show (match (ev c x).f l tm with | .slc b _ _ (.rest _) => some [Foot.row b] | _ => some []) = _
    rw [he]

/-! ### Loads -/
theorem loadCell_cells {E : Env} (_hE : EnvOk E) {s : St} {b o : Nat} {v : AV} (h : loadCell s b o = some v) : loadCells s b o 1 = some [v] := by
  obtain ⟨cells, es, g, p, hb, hc⟩ := loadCell_eq h
  unfold loadCells
  rw [recO, hb]
  simp only
  rw [recO]
  show sub cells o 1 = _
  unfold sub
  rw [dropX_eq]
  have hl : o < cells.length := by
    rcases Nat.lt_or_ge o cells.length with h | h
    · exact h
    · rw [List.getElem?_eq_none h] at hc; cases hc
  rw [takeX_of _ _ (by rw [List.length_drop]; omega)]
  rw [List.drop_eq_getElem_cons hl]
  have : cells[o] = v := by rw [List.getElem?_eq_getElem hl] at hc; exact Option.some.inj hc
  rw [this]; rfl
theorem loadCells_wf {E : Env} (_hE : EnvOk E) {s : St} (hS : StWf s) {b o n : Nat} {xs : List AV} (h : loadCells s b o n = some xs) : wfL s.nx xs := by
  obtain ⟨cells, es, g, p, hb, hc⟩ := loadCells_eq h
  have := hS b _ hb
  rw [wfL_iff]
  exact fun v hv => (wfL_iff _ _).1 this.1 v (sub_mem hc v hv)
theorem run_foot {E : Env} (_hE : EnvOk E) {m : Ren} {w : World} {s : St} {b o n : Nat} {xs : List AV} (hf : FootOk E m w s (.cells b o n)) (h : loadCells s b o n = some xs) :
    (Go.loadCells ⟨m.blk b, m.sh b + o, none⟩ n).run E.P w = .ok (valL m xs).toArray w := by
  have hlen : xs.length = n := by obtain ⟨cells, es, g, p, _, h2⟩ := loadCells_eq h; exact (sub_eq h2).1
  have hload := run_loadCells_list (P := E.P) w ⟨m.blk b, m.sh b + o, none⟩ (valL m xs) fun j v hj => by
    rw [valL_get] at hj
    cases hc : xs[j]? with
    | none => rw [hc] at hj; cases hj
    | some x => rw [hc] at hj; cases hj; rw [Addr.add_lit]; exact hf xs h j x hc
  rwa [valL_len, hlen] at hload
theorem pure_load {E : Env} (hE : EnvOk E) (c : Cx) (t : TypeId) (a : Operand) : OpPure E c (.load t a) := by
  have hh : hop E c (.load t a) = loadA E c t a := rfl
  unfold loadA at hh
  cases hk : varK E.T t with
  | no => rw [hk] at hh; exact pure_fail hh
  | agg n =>
    rw [hk] at hh
    refine pure_v _ hh fun oper ho hok l tm s v hv hS hw => ?_
    have hx := ok1 hE c hok
    simp only [onPtr_eq hE] at hv
    split at hv
    · rename_i b o he
      rw [recO] at hv
      cases hl : loadCells s b o n with
      | none => rw [hl] at hv; cases hv
      | some cs =>
        rw [hl] at hv; cases hv
        refine ⟨loadCells_wf hE hS hl, fun m w ρ hf ha hfo => ?_⟩
        unfold execOp; rw [ho]; simp only
        refine exec_v ?_
        rw [ha.val a hx, he]
        have hf1 := hfo [.cells b o n] (by
          show (footOf E c (.load t a)).f l tm = _
          unfold footOf
          simp only [hk, onPtr_eq hE, he]) _ (List.mem_singleton.2 rfl)
        obtain ⟨g1, g2⟩ := varK_agg hE hk w
        simp only [Instr.loadAt, Instr.sureAddr, AV.val, Go.loadVar, Sem.run_bind, Sem.run_pure, Result.andThen_ok, g1, if_true, g2, run_foot hE hf1 hl]
    · cases hv
  | one =>
    rw [hk] at hh
    refine pure_v _ hh fun oper ho hok l tm s v hv hS hw => ?_
    have hx := ok1 hE c hok
    simp only [onPtr_eq hE] at hv
    split at hv
    · rename_i b o he
      have hl := loadCell_cells hE hv
      refine ⟨(loadCells_wf hE hS hl).1, fun m w ρ hf ha hfo => ?_⟩
      unfold execOp; rw [ho]; simp only
      refine exec_v ?_
      rw [ha.val a hx, he]
      have hf1 := hfo [.cells b o 1] (by
        show (footOf E c (.load t a)).f l tm = _
        unfold footOf
        simp only [hk, onPtr_eq hE, he]) _ (List.mem_singleton.2 rfl)
      have hcell := hf1 [v] hl 0 v rfl
      simp only [Instr.loadAt, Instr.sureAddr, AV.val, Go.loadVar, Sem.run_bind, Sem.run_pure, Result.andThen_ok, varK_one hE hk w, Bool.false_eq_true, if_false, run_load]
      rw [Nat.add_zero] at hcell
      rw [hcell]
    · cases hv
end Go.Vx
