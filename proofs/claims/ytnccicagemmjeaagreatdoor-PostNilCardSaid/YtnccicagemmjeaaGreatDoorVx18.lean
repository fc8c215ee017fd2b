/- The abstract executor: entries of maps, ranges over maps. -/
import Derived.Test.YtnccicagemmjeaaGreatDoorVx17
namespace Go.Vx

theorem does_mapEntry {E : Env} (hE : EnvOk E) (c : Cx) (t : TypeId) (a k : Operand) : OpDoes E c (.mapEntry t a k) :=
  does_s hE c (fun l tm s => mapEntryA E t ((ev c a).f l tm) ((ev c k).f l tm) s) rfl fun oper ho hok l tm s v s' hv m w ρ hR hf hw ha => by
    have h1 := ok1 hE c hok
    have h2 := ok2 hE c hok
    have hk := hw.wf k h2
    have hwx := hw.wf a h1
    have e1 := ha.val a h1
    have e2 := ha.val k h2
    suffices hs : ∃ w', (Instr.mapEntry t (ρ a) (ρ k)).run E.P w = .ok (v.val m) w' ∧ Rel m s' w'.heap ∧ Grow m s w m s' w' ∧ v.wf s'.nx ∧ s'.df = s.df by
      obtain ⟨w', hrun, hR', hG, hwf, hdf⟩ := hs
      refine ⟨m, w', _, ?_, .inl rfl, hR', hG, hwf, hdf⟩
      unfold execOp; rw [ho]; simp only
      rw [run_v, hrun]; rfl
    rw [e1, e2]
    clear e1 e2
    revert hv hwx hk
    generalize (ev c a).f l tm = x
    generalize (ev c k).f l tm = k
    intro hv hk hwx
    unfold mapEntryA at hv
    split at hv
    · rename_i kt et hu
      split at hv
      · rename_i r es clock hmo
        obtain ⟨rfl, hb⟩ := mapObj_eq hE hmo
        have hh : w.heap[m.blk r]? = some (.map (es.map (ME.ent m)).toArray clock) := hR.obj r _ hb
        have hwf : ∀ e ∈ es, e.key.wf s.nx ∧ e.val.wf s.nx := (hR.lt r _ hb).2
        cases hko : keyOk E kt k
        · rw [hko] at hv; cases hv
        · rw [hko] at hv
          simp only [cond_true] at hv
          split at hv
          · rename_i i ov hfk
            split at hv
            · rename_i e hne
              cases hbq : k.beq e.key
              · rw [hbq] at hv; cases hv
              · rw [hbq] at hv; cases hv
                have hke := AV.beq_eq _ _ hbq
                rw [nth_eq] at hne
                obtain ⟨w1, hks, e1, e2, e3, e4⟩ := keyStays hE (k.val m) w
                obtain ⟨h1, h2, h3⟩ := setMap_ok hE (w1 := w1) (es' := modAt (fun e => { e with key := k }) es i) (clock' := clock)
                  (arr := (es.map (ME.ent m)).toArray.modify i fun e => { e with key := k.val m }) hR hb (fun e he => by
                    rcases modAt_mem hE es i _ e he with h | ⟨e0, h0, rfl⟩
                    · exact hwf e h
                    · exact ⟨hk, (hwf e0 h0).2⟩) e1 e2 e3 e4 (modAt_ent hE m es i _ _ fun e => rfl)
                refine ⟨_, ?_, h2, h3, ?_, by rw [setO_eq hE]⟩
                · unfold Instr.mapEntry
                  simp only [Sem.run_bind, run_undT hE hu, Result.andThen_ok, AV.val, MapKept.run_getObj_map hh, checkKey_run hE hko m]
                  rw [findK_run hE hko hk m w es _ (fun e he => (hwf e he).1) hfk]
                  simp only [Result.andThen_ok, Option.map_some, Sem.run_bind]
                  have hkk : (Option.map (fun x => x.key) (es.map (ME.ent m)).toArray[i]?).getD (k.val m) = k.val m := by
                    rw [List.getElem?_toArray, List.getElem?_map, hne]
                    show e.key.val m = _
                    rw [hke]
                  rw [hkk, hks]
                  simp only [Result.andThen_ok]
                  rw [h1]
                  simp only [Result.andThen_ok, Sem.run_pure]
                  rw [List.getElem?_toArray, List.getElem?_map, hne]
                  rfl
                · rw [setO_eq hE]
                  obtain ⟨e0, he0, hv0⟩ := findK_mem hE es 0 hfk
                  exact ⟨hv0 ▸ (hwf e0 he0).2, trivial, trivial⟩
            · cases hv
          · rename_i hfk
            split at hv
            · rename_i z hz
              cases hv
              obtain ⟨h1, h2, h3⟩ := setMap_ok hE (w1 := w) (es' := appL es [{ key := k, val := z, born := clock }]) (clock' := Nat.succ clock)
                (arr := (es.map (ME.ent m)).toArray.push { key := k.val m, val := z.val m, born := clock }) hR hb (fun e he => by
                  rw [appL_eq, List.mem_append] at he
                  rcases he with he | he
                  · exact hwf e he
                  · rw [List.mem_singleton] at he; subst he; exact ⟨hk, zeroT_wf hE hz _⟩) rfl rfl rfl rfl (by rw [appL_eq]; simp [ME.ent])
              refine ⟨_, ?_, h2, h3, ?_, by rw [setO_eq hE]⟩
              · unfold Instr.mapEntry
                simp only [Sem.run_bind, run_undT hE hu, Result.andThen_ok, AV.val, MapKept.run_getObj_map hh, checkKey_run hE hko m]
                rw [findK_run hE hko hk m w es _ (fun e he => (hwf e he).1) hfk]
                simp only [Result.andThen_ok, Option.map_none, Sem.run_bind, run_zeroT hE hz m]
                rw [h1]
                rfl
              · rw [setO_eq hE]; exact ⟨zeroT_wf hE hz _, trivial, trivial⟩
            · cases hv
          · cases hv
      · cases hv
    · cases hv
theorem findBorn_eq {E : Env} (_hE : EnvOk E) (m : Ren) (b : Nat) : ∀ (es : List ME) (i j : Nat), findBorn es b i = some j → ∃ k, j = i + k ∧ (es.map (ME.ent m)).findIdx? (fun e => (e.born : Int) == Int.ofNat b) = some k := by
  intro es
  induction es with
  | nil => intro i j h; cases h
  | cons e es ih =>
    intro i j h
    have h : cond (Nat.beq e.born b) (some i) (findBorn es b (Nat.succ i)) = some j := h
    rw [List.map_cons, List.findIdx?_cons]
    cases hb : Nat.beq e.born b
    · rw [hb] at h
      have hne : e.born ≠ b := fun e' => by rw [e', Nat.beq_refl] at hb; cases hb
      have : (((ME.ent m e).born : Int) == Int.ofNat b) = false := by
        rw [beq_eq_false_iff_ne]
        intro h'
        have h' : (e.born : Int) = (b : Int) := h'
        omega
      rw [this]
      obtain ⟨k, rfl, hk⟩ := ih _ _ h
      exact ⟨k + 1, by omega, by rw [hk]; rfl⟩
    · rw [hb] at h
      cases h
      have := Nat.eq_of_beq_eq_true hb
      exact ⟨0, by omega, by simp [ME.ent, this]⟩
theorem does_entryStore {E : Env} (hE : EnvOk E) (c : Cx) (t : TypeId) (a st x : Operand) : OpDoes E c (.entryStore t a st x) :=
  does_u hE c (fun l tm s => entryStoreA ((ev c a).f l tm) ((ev c st).f l tm) ((ev c x).f l tm) s) rfl fun oper ho hok l tm s s' hv m w ρ hR hf hw ha => by
    have h1 := ok1 hE c hok
    have h2 := ok2 hE c hok
    have h3 := ok3 hE c hok
    have hwx := hw.wf x h3
    have e1 := ha.val a h1
    have e2 := ha.val st h2
    have e3 := ha.val x h3
    suffices hs : ∃ w', (Instr.entryStore t (ρ a) (ρ st) (ρ x)).run E.P w = .ok () w' ∧ Rel m s' w'.heap ∧ Grow m s w m s' w' ∧ s'.df = s.df by
      obtain ⟨w', hrun, hR', hG, hdf⟩ := hs
      refine ⟨m, w', .skip, ?_, .inr ⟨rfl, rfl⟩, hR', hG, trivial, hdf⟩
      unfold execOp; rw [ho]; simp only
      rw [run_u hE, hrun]; rfl
    rw [e1, e2, e3]
    clear e1 e2 e3
    revert hv hwx
    generalize (ev c a).f l tm = y
    generalize (ev c st).f l tm = u
    generalize (ev c x).f l tm = z
    intro hv hwx
    unfold entryStoreA at hv
    split at hv
    · rename_i r es clock b hmo hn
      obtain ⟨rfl, hb⟩ := mapObj_eq hE hmo
      obtain ⟨kk, rfl⟩ := natOf_eq hE hn
      have hh : w.heap[m.blk r]? = some (.map (es.map (ME.ent m)).toArray clock) := hR.obj r _ hb
      have hwf : ∀ e ∈ es, e.key.wf s.nx ∧ e.val.wf s.nx := (hR.lt r _ hb).2
      split at hv
      · rename_i i hfb
        cases hv
        obtain ⟨k, hk, hfi⟩ := findBorn_eq hE m b es 0 i hfb
        obtain ⟨h1, h2, h3⟩ := setMap_ok hE (w1 := w) (es' := modAt (fun e => { e with val := z }) es i) (clock' := clock)
          (arr := (es.map (ME.ent m)).toArray.modify i fun e => { e with val := z.val m }) hR hb (fun e he => by
            rcases modAt_mem hE es i _ e he with h | ⟨e0, h0, rfl⟩
            · exact hwf e h
            · exact ⟨(hwf e0 h0).1, hwx⟩) rfl rfl rfl rfl (modAt_ent hE m es i _ _ fun e => rfl)
        refine ⟨_, ?_, h2, h3, by rw [setO_eq hE]⟩
        unfold Instr.entryStore
        simp only [AV.val, Sem.run_bind, MapKept.run_getObj_map hh, Result.andThen_ok, asInt, asIntOf, Sem.run_pure]
        have : (es.map (ME.ent m)).toArray.findIdx? (fun e => (e.born : Int) == Int.ofNat b) = some i := by
          rw [List.findIdx?_toArray, hfi]; congr 1; omega
        rw [this]
        exact h1
      · cases hv
    · cases hv
theorem does_range {E : Env} (hE : EnvOk E) (c : Cx) (t : TypeId) (x : Operand) : OpDoes E c (.range t x) :=
  does_s hE c (fun l tm s => rangeA E t ((ev c x).f l tm) s) rfl fun oper ho hok l tm s v s' hv m w ρ hR hf hw ha => by
    have h1 := ok1 hE c hok
    have hwx := hw.wf x h1
    have e1 := ha.val x h1
    have hex : (execOp ρ oper).run E.P w = ((Instr.range t (ρ x)).run E.P w).andThen fun a w' => .ok (.value a) w' := by
      unfold execOp; rw [ho]; simp only
      rw [run_v]
    rw [e1] at hex
    clear e1
    revert hv hex hwx
    generalize (ev c x).f l tm = y
    intro hv hwx hex
    unfold rangeA at hv
    split at hv
    · rename_i k e hu
      have lay : ∀ (ob : HO) (O : Obj), ob.key = none → ob.wf (s.nx + 1) → (∀ h : Array Obj, h[(m.add s.nx w.heap.size 0 0).blk s.nx]? = some O → ob.rel (m.add s.nx w.heap.size 0 0) h s.nx) →
          (Instr.range t (y.val m)).run E.P w = .ok (.pointer (some ⟨w.heap.size, 0, none⟩)) (w.alloc O) → newPtr s ob = some (v, s') → Does E.P m s w (execOp ρ oper) v s' := by
        intro ob O hk hwf hrel hrun hp
        cases hp
        refine does_of_pure hE hR (show (AV.ptr s.nx 0).wf (s.nx + 1) from Nat.lt_succ_self _) (.inr ⟨ob, O, 0, w.alloc O, rfl, ?_, rfl, rfl, rfl, rfl, hwf, (fun g p h => by rw [hk] at h; cases h), ?_⟩)
        · rw [hex, hrun]
          simp only [Result.andThen_ok, AV.val, Ren.add_blk, Ren.add_sh]
        · exact hrel _ (by rw [Ren.add_blk]; exact Array.getElem?_push_size)
      split at hv
      · refine lay (.mit none 0 [] 0) (.mapIter none 0 #[] 0) rfl (fun x hx => by cases hx) (fun h hh => ⟨Ren.add_sh _ _ _ _ _, hh⟩) ?_ hv
        simp only [Instr.range, AV.val, NilK.val, Sem.run_bind, run_undT hE hu, Result.andThen_ok, Sem.run_pure, run_newObj]
        rfl
      · rename_i r
        split at hv
        · rename_i es clock hb
          have hb := obj_get hE hb trivial
          have hh : w.heap[m.blk r]? = some (.map (es.map (ME.ent m)).toArray clock) := hR.obj r _ hb
          refine lay (.mit (some r) clock [] clock) (.mapIter (some (m.blk r)) clock #[] clock) rfl (fun x hx => by cases hx; exact Nat.lt_succ_of_lt hwx) (fun h hh' => ?_) ?_ hv
          · refine ⟨Ren.add_sh _ _ _ _ _, ?_⟩
            rw [Option.map_some, (m.add_agree s.nx w.heap.size 0 0).blk r hwx]; exact hh'
          · simp only [Instr.range, AV.val, Sem.run_bind, run_undT hE hu, Result.andThen_ok, MapKept.run_getObj_map hh, Sem.run_pure, run_newObj]
            rfl
        · cases hv
      · cases hv
    · cases hv
theorem lastN_eq {E : Env} (_hE : EnvOk E) : ∀ (l : List Nat), lastN l = l.getLast? := by
  intro l
  induction l with
  | nil => rfl
  | cons a l ih => cases l with
    | nil => rfl
    | cons b l => exact ih
theorem atBorn_eq {E : Env} (_hE : EnvOk E) (m : Ren) (b : Nat) : ∀ (es : List ME) (e : ME), atBorn es b = some e → e ∈ es ∧ (es.map (ME.ent m)).find? (fun x => x.born == b) = some (ME.ent m e) := by
  intro es
  induction es with
  | nil => intro e h; cases h
  | cons x es ih =>
    intro e h
    have h : cond (Nat.beq x.born b) (some x) (atBorn es b) = some e := h
    rw [List.map_cons, List.find?_cons]
    cases hb : Nat.beq x.born b
    · rw [hb] at h
      have hne : x.born ≠ b := fun e' => by rw [e', Nat.beq_refl] at hb; cases hb
      have : ((ME.ent m x).born == b) = false := by rw [beq_eq_false_iff_ne]; exact hne
      rw [this]
      obtain ⟨h1, h2⟩ := ih e h
      exact ⟨by simp [h1], h2⟩
    · rw [hb] at h
      cases h
      have := Nat.eq_of_beq_eq_true hb
      exact ⟨by simp, by simp [ME.ent, this]⟩
theorem run_getIter {E : Env} (_hE : EnvOk E) {m : Ren} {s : St} {w : World} (hR : Rel m s w.heap) {r : Nat} {x : Option Nat} {since last : Nat} {seen : List Nat} (h : s.hp.get r = some (.mit x since seen last)) :
    m.sh r = 0 ∧ w.heap[m.blk r]? = some (.mapIter (x.map m.blk) since seen.toArray last) ∧ (getObj (m.blk r)).run E.P w = .ok (.mapIter (x.map m.blk) since seen.toArray last) w := by
  have hh : m.sh r = 0 ∧ w.heap[m.blk r]? = some (.mapIter (x.map m.blk) since seen.toArray last) := hR.obj r _ h
  refine ⟨hh.1, hh.2, ?_⟩
  have hh := hh.2
  simp [getObj, Sem.run, hh]
/-- an object that is no row has no shift -/
theorem does_entry {E : Env} (hE : EnvOk E) (c : Cx) (x : Operand) : OpDoes E c (.entry x) :=
  does_v hE c (fun l tm s => entryA ((ev c x).f l tm) s) rfl fun oper ho hok l tm s v hv m w ρ hR hf hw ha => by
    have h1 := ok1 hE c hok
    have e1 := ha.val x h1
    suffices hs : (Instr.entry (ρ x)).run E.P w = .ok (v.val m) w ∧ v.wf s.nx by
      refine ⟨m, w, _, ?_, .inl rfl, hR, .refl _ _ _, hs.2, rfl⟩
      unfold execOp; rw [ho]; simp only
      rw [run_v, hs.1]; rfl
    rw [e1]
    clear e1
    revert hv
    generalize (ev c x).f l tm = y
    intro hv
    unfold entryA at hv
    split at hv
    · rename_i r
      split at hv
      · rename_i mm since seen last hb
        have hb := obj_get hE hb trivial
        obtain ⟨hsh, hh, hget⟩ := run_getIter hE hR hb
        split at hv
        · rename_i b es clock hl ho2
          have ho2 := obj_get hE ho2 trivial
          have hh2 : w.heap[m.blk mm]? = some (.map (es.map (ME.ent m)).toArray clock) := hR.obj mm _ ho2
          cases hc : Nat.beq clock last
          · rw [hc] at hv; cases hv
          · rw [hc] at hv
            simp only [cond_true] at hv
            have hc := Nat.eq_of_beq_eq_true hc
            subst hc
            rw [Option.map_eq_some_iff] at hv
            obtain ⟨e, he, rfl⟩ := hv
            obtain ⟨hm, hfind⟩ := atBorn_eq hE m b es e he
            have hwf := (hR.lt mm _ ho2).2 e hm
            refine ⟨?_, hwf.1, hwf.2, trivial⟩
            have hback : seen.toArray.back? = some b := by rw [List.back?_toArray, ← lastN_eq hE]; exact hl
            have hfind2 : (es.map (ME.ent m)).toArray.find? (fun x => x.born == b) = some (ME.ent m e) := by rw [List.find?_toArray]; exact hfind
            simp only [AV.val, hsh]
            unfold Instr.entry
            simp only [Sem.run_bind, Nat.add_zero, hget, Result.andThen_ok, Option.map_some, hback, MapKept.run_getObj_map hh2]
            simp [hfind2, ME.ent, valL]
        · cases hv
      · cases hv
    · cases hv
end Go.Vx
