/- The abstract executor: keys of maps, look-ups, as the machine does them; what the relation of heaps tells of a place. -/
import Derived.Test.YtnccicagemmjeaaGreatDoorVx15
import Derived.Laws.StructEq
import Derived.MapKept
namespace Go.Vx

theorem plainT_eq {E : Env} (_hE : EnvOk E) {t : TypeId} (h : plainT E t = true) : (∃ k, undT E.T t = some (.int k)) ∨ undT E.T t = some .string ∨ undT E.T t = some .bool := by
  unfold plainT at h
  split at h
  · exact .inl ⟨_, by assumption⟩
  · exact .inr (.inl (by assumption))
  · exact .inr (.inr (by assumption))
  · cases h
theorem checkKey_plain {E : Env} (hE : EnvOk E) {t : TypeId} (h : plainT E t = true) (em : Bool) (n : Nat) (v : Value) (w : World) : (Instr.checkKey em (n + 1) t v).run E.P w = .ok () w := by
  unfold Instr.checkKey
  rcases plainT_eq hE h with ⟨k, hu⟩ | hu | hu <;>
  · rw [Sem.run_bind, run_undT hE hu]; rfl
theorem part_plain {E : Env} (hE : EnvOk E) {t : TypeId} (h : plainT E t = true) {cs : Array Value} {off : Nat} {v : Value} (hv : cs[off]? = some v) (w : World) : (part t cs off).run E.P w = .ok v w := by
  have : (isAgg t).run E.P w = .ok false w := by
    unfold isAgg
    rcases plainT_eq hE h with ⟨k, hu⟩ | hu | hu <;>
    · rw [Sem.run_bind, run_undT hE hu]; rfl
  unfold part
  rw [Sem.run_bind, this]
  simp [hv]
theorem checkKey_run {E : Env} (hE : EnvOk E) {kt : TypeId} {k : AV} (h : keyOk E kt k = true) (m : Ren) (em : Bool) (w : World) : (Instr.checkKey em 10000 kt (k.val m)).run E.P w = .ok () w := by
  show (Instr.checkKey em (9999 + 1) kt (k.val m)).run E.P w = .ok () w
  unfold keyOk at h
  split at h
  · rename_i cs
    split at h
    · rename_i fields hu
      unfold Instr.checkKey
      simp only [AV.val, Sem.run_bind, run_undT hE hu, Result.andThen_ok]
      rw [← Array.forIn_toList]
      revert h
      generalize fields.toList = fs
      intro h
      induction fs with
      | nil => rfl
      | cons f fs ih =>
        unfold fieldsOk at h
        simp only [Bool.and_eq_true] at h
        obtain ⟨⟨⟨h1, h2⟩, h3⟩, h4⟩ := h
        have h1 : f.name ≠ "_" := by simpa using h1
        have h3 : ∃ v, cs[f.offset]? = some v := by
          rw [recO, nth_eq] at h3
          cases hc : cs[f.offset]? with
          | none => rw [hc] at h3; cases h3
          | some v => exact ⟨v, rfl⟩
        obtain ⟨v, hv⟩ := h3
        have hp := part_plain hE h2 (cs := (valL m cs).toArray) (off := f.offset) (v := v.val m) (by simp [valL_get, hv]) w
        simp only [List.forIn_cons, Sem.run_bind, if_pos h1, hp, Result.andThen_ok, checkKey_plain hE h2 em 9998 _ w, Sem.run_pure]
        exact ih h4
    · cases h
  · exact checkKey_plain hE h em 9999 _ w
  · exact checkKey_plain hE h em 9999 _ w
  · exact checkKey_plain hE h em 9999 _ w
  · cases h
theorem eqInt_eq {E : Env} (_hE : EnvOk E) {x y : AV} {r : Bool} (h : eqInt x y = some r) : ∃ k a b, x = .int k a ∧ y = .int k b ∧ r = (a == b) := by
  cases x <;> cases y <;> try (cases h; done)
  rename_i k a j b
  have h' : (if eqK k j = true then some (ieq a b) else none) = some r := by
    rw [← h]
    show _ = cond (eqK k j) (some (ieq a b)) none
    cases eqK k j <;> rfl
  split at h'
  · rename_i hk
    have := eqK_eq hk
    subst this
    exact ⟨k, a, b, rfl, rfl, by rw [← Option.some.inj h', ieq_eq]⟩
  · cases h'
theorem eqStr_eq {E : Env} (_hE : EnvOk E) {x y : AV} {r : Bool} (h : eqStr x y = some r) : ∃ a b, x = .str a ∧ y = .str b ∧ r = natsBeq a b := by
  cases x <;> cases y <;> try (cases h; done)
  cases h
  exact ⟨_, _, rfl, rfl, rfl⟩
/-- plain values, compared at once and by the operation -/
theorem eqPlain_run {E : Env} (hE : EnvOk E) {t : TypeId} {x y : AV} {r : Bool} {n : Nat} (h : eqPlain E.T t x y = some r) (hx : x.wf n) (hy : y.wf n) (m : Ren) :
    (∃ d, undT E.T t = some d ∧ Instr.sameNow d (x.val m) (y.val m) = some r) ∧ ∀ k w, (Op.equalIn (k + 1) t (x.val m) (y.val m)).run E.P w = .ok r w := by
  unfold eqPlain at h
  split at h
  · rename_i hu
    obtain ⟨a, b, rfl, rfl, rfl⟩ := eqBool_eq h
    exact ⟨⟨_, hu, rfl⟩, fun k w => run_equalIn_bool' w k t a b (undT_eq hE hu)⟩
  · rename_i j hu
    obtain ⟨k, a, b, rfl, rfl, rfl⟩ := eqInt_eq hE h
    exact ⟨⟨_, hu, by simp [Instr.sameNow, AV.val]⟩, fun d w => run_equalIn_int w d t k j a b (undT_eq hE hu)⟩
  · rename_i hu
    obtain ⟨a, b, rfl, rfl, rfl⟩ := eqStr_eq hE h
    refine ⟨⟨_, hu, ?_⟩, fun d w => ?_⟩
    · show some ((⟨(a.map UInt8.ofNat).toArray⟩ : ByteArray) == ⟨(b.map UInt8.ofNat).toArray⟩) = _
      rw [beq_toListBytes, strV_beq hx hy]
    · show (Op.equalIn (d + 1) t (.string ⟨(a.map UInt8.ofNat).toArray⟩) (.string ⟨(b.map UInt8.ofNat).toArray⟩)).run E.P w = _
      rw [run_equalIn_string w d t _ _ (undT_eq hE hu), strV_beq hx hy]
  · cases h
theorem eqFields_run {E : Env} (hE : EnvOk E) (m : Ren) {n : Nat} {xs ys : List AV} (hx : wfL n xs) (hy : wfL n ys) (w : World) : ∀ (fs : List Field) (r : Bool), eqFields E.T xs ys fs = some r →
    (Op.eqFields 9999 (valL m xs).toArray (valL m ys).toArray fs).run E.P w = .ok r w := by
  intro fs
  induction fs with
  | nil => intro r h; cases h; rfl
  | cons f fs ih =>
    intro r h
    unfold eqFields at h
    cases hn : (f.name == "_")
    · rw [hn] at h
      simp only [cond_false] at h
      have hne : f.name ≠ "_" := by simpa using hn
      split at h
      · rename_i a b ha hb
        rw [nth_eq] at ha hb
        have hpl : plainT E f.type = true := by
          split at h
          · rename_i he
            unfold eqPlain at he
            unfold plainT
            split at he
            · rename_i hu; rw [hu]
            · rename_i k hu; rw [hu]
            · rename_i hu; rw [hu]
            · cases he
          · rename_i he
            unfold eqPlain at he
            unfold plainT
            split at he
            · rename_i hu; rw [hu]
            · rename_i k hu; rw [hu]
            · rename_i hu; rw [hu]
            · cases he
          · cases h
        have pa := part_plain hE hpl (cs := (valL m xs).toArray) (off := f.offset) (v := a.val m) (by simp [valL_get, ha]) w
        have pb := part_plain hE hpl (cs := (valL m ys).toArray) (off := f.offset) (v := b.val m) (by simp [valL_get, hb]) w
        have wa := (wfL_iff _ _).1 hx a (List.mem_of_getElem? ha)
        have wb := (wfL_iff _ _).1 hy b (List.mem_of_getElem? hb)
        unfold Op.eqFields
        rw [if_pos hne]
        simp only [Sem.run_bind, pa, Result.andThen_ok, pb]
        split at h
        · rename_i he
          rw [(eqPlain_run hE he wa wb m).2 9998 w]
          simp only [Result.andThen_ok, Bool.not_true, Bool.false_eq_true, if_false]
          exact ih r h
        · rename_i he
          cases h
          rw [(eqPlain_run hE he wa wb m).2 9998 w]
          simp only [Result.andThen_ok, Bool.not_false, if_true, Sem.run_pure]
        · cases h
      · cases h
    · rw [hn] at h; cases h
theorem eqKey_struct {E : Env} (hE : EnvOk E) {t : TypeId} {x y : AV} {r : Bool} {n : Nat} {fields : Array Field} (hu : undT E.T t = some (.struct fields)) (h : eqKey E.P E.T t x y = some r) (hx : x.wf n) (hy : y.wf n) (m : Ren) (w : World) :
    (Op.equal t (x.val m) (y.val m)).run E.P w = .ok r w := by
  unfold eqKey at h
  rw [hu] at h
  simp only at h
  cases hs : E.P.stoodInHeld t
  · rw [hs] at h
    simp only [cond_false] at h
    cases x <;> try (cases h; done)
    cases y <;> try (cases h; done)
    rename_i xs ys
    have h : eqFields E.T xs ys fields.toList = some r := h
    have hu' := undT_eq hE hu
    have hf : E.P.fieldsOf t = fields := by unfold Program.fieldsOf; rw [hu']
    show (Op.equalIn (9999 + 1) t (.agg (valL m xs).toArray) (.agg (valL m ys).toArray)).run E.P w = _
    rw [run_equalIn_struct w 9999 t _ _ (by rw [hf]; exact hu') hs, hf]
    exact eqFields_run hE m hx hy w _ _ h
  · rw [hs] at h; cases h
theorem findK_plain {E : Env} (hE : EnvOk E) {kt : TypeId} {k : AV} {d : TypeDesc} {n : Nat} (hu : undT E.T kt = some d) (hd : ∀ f, d ≠ .struct f) (hk : k.wf n) (m : Ren) : ∀ (es : List ME) (i : Nat) (r : Option (Nat × AV)), (∀ e ∈ es, e.key.wf n) → findK E kt k es i = some r →
    Instr.findNow d (k.val m) (es.map (ME.ent m)) i = some (r.map fun p => (p.1, p.2.val m)) := by
  intro es
  induction es with
  | nil => intro i r _ h; cases h; rfl
  | cons e es ih =>
    intro i r he h
    unfold findK at h
    have hkey : ∀ b, eqKey E.P E.T kt k e.key = some b → Instr.sameNow d (k.val m) (e.key.val m) = some b := by
      intro b hb
      unfold eqKey at hb
      rw [hu] at hb
      have hb : eqPlain E.T kt k e.key = some b := by cases d <;> first | exact hb | exact absurd rfl (hd _)
      obtain ⟨⟨d', hu', hs⟩, _⟩ := eqPlain_run hE hb hk (he e (by simp)) m
      rw [hu] at hu'
      cases hu'
      exact hs
    show Instr.findNow d (k.val m) (ME.ent m e :: es.map (ME.ent m)) i = _
    unfold Instr.findNow
    split at h
    · rename_i hb
      cases h
      show (match Instr.sameNow d (k.val m) (e.key.val m) with | some true => _ | some false => _ | none => _) = _
      rw [hkey _ hb]; rfl
    · rename_i hb
      show (match Instr.sameNow d (k.val m) (e.key.val m) with | some true => _ | some false => _ | none => _) = _
      rw [hkey _ hb]
      exact ih _ r (fun e' he' => he e' (by simp [he'])) h
    · cases h
theorem findK_struct {E : Env} (hE : EnvOk E) {kt : TypeId} {k : AV} {fields : Array Field} {n : Nat} (hu : undT E.T kt = some (.struct fields)) (hk : k.wf n) (m : Ren) (w : World) : ∀ (es : List ME) (i : Nat) (r : Option (Nat × AV)), (∀ e ∈ es, e.key.wf n) → findK E kt k es i = some r →
    (Instr.findAsking kt (k.val m) (es.map (ME.ent m)) i).run E.P w = .ok (r.map fun p => (p.1, p.2.val m)) w := by
  intro es
  induction es with
  | nil => intro i r _ h; cases h; rfl
  | cons e es ih =>
    intro i r he h
    unfold findK at h
    show (Instr.findAsking kt (k.val m) (ME.ent m e :: es.map (ME.ent m)) i).run E.P w = _
    unfold Instr.findAsking
    split at h
    · rename_i hb
      cases h
      rw [Sem.run_bind]
      rw [show (ME.ent m e).key = e.key.val m from rfl, eqKey_struct hE hu hb hk (he e (by simp)) m w]
      rfl
    · rename_i hb
      rw [Sem.run_bind]
      rw [show (ME.ent m e).key = e.key.val m from rfl, eqKey_struct hE hu hb hk (he e (by simp)) m w]
      simp only [Result.andThen_ok, Bool.false_eq_true, if_false]
      exact ih _ r (fun e' he' => he e' (by simp [he'])) h
    · cases h
theorem findK_run {E : Env} (hE : EnvOk E) {kt : TypeId} {k : AV} {n : Nat} (hok : keyOk E kt k = true) (hk : k.wf n) (m : Ren) (w : World) (es : List ME) (r : Option (Nat × AV)) (he : ∀ e ∈ es, e.key.wf n) (h : findK E kt k es 0 = some r) :
    (Instr.findKey kt (k.val m) (es.map (ME.ent m))).run E.P w = .ok (r.map fun p => (p.1, p.2.val m)) w := by
  have hd : ∃ d, undT E.T kt = some d := by
    unfold keyOk at hok
    split at hok
    · split at hok
      · exact ⟨_, by assumption⟩
      · cases hok
    all_goals first | (cases hok; done) | (rcases plainT_eq hE hok with ⟨k, hu⟩ | hu | hu <;> exact ⟨_, hu⟩)
  obtain ⟨d, hu⟩ := hd
  by_cases hs : ∃ f, d = .struct f
  · obtain ⟨f, rfl⟩ := hs
    have h2 := findK_struct hE hu hk m w es 0 r he h
    unfold Instr.findKey
    rw [Sem.run_bind, run_undT hE hu]
    simp only [Result.andThen_ok]
    cases es with
    | nil => cases h; rfl
    | cons e es =>
      have : Instr.findNow (.struct f) (k.val m) ((e :: es).map (ME.ent m)) 0 = none := by
        show Instr.findNow (.struct f) (k.val m) (ME.ent m e :: es.map (ME.ent m)) 0 = none
        unfold Instr.findNow
        rw [show Instr.sameNow (.struct f) (k.val m) (ME.ent m e).key = none from rfl]
      rw [this]
      exact h2
  · exact MapKept.run_findKey (undT_eq hE hu) (findK_plain hE hu (fun f hf => hs ⟨f, hf⟩) hk m es 0 r he h)

/-! ### What the relation of heaps tells -/
theorem Rel.wf {E : Env} (_hE : EnvOk E) {m : Ren} {s : St} {h : Array Obj} (hR : Rel m s h) : StWf s := fun b o hb => (hR.lt b o hb).2
theorem obj_get {E : Env} (_hE : EnvOk E) {s : St} {r : Nat} {o : HO} (h : s.obj r = o) (hl : o.live) : s.hp.get r = some o := by
  unfold St.obj at h
  cases hg : s.hp.get r with
  | none => rw [hg] at h; subst h; exact hl.elim
  | some o' => rw [hg] at h; simp only [Option.getD_some] at h; rw [h]
/-- a map's entries, in the machine -/
theorem mapOf_run {E : Env} (hE : EnvOk E) {m : Ren} {s : St} {w : World} (hR : Rel m s w.heap) {x : AV} {es : List ME} (h : mapOf s x = some es) :
    (x = .nil .m ∧ es = []) ∨ ∃ r clock, x = .mp r ∧ s.hp.get r = some (.mapo es clock) ∧ w.heap[m.blk r]? = some (.map (es.map (ME.ent m)).toArray clock) := by
  unfold mapOf at h
  split at h
  · cases h; exact .inl ⟨rfl, rfl⟩
  · rename_i r
    split at h
    · rename_i es' clock hb
      cases h
      have hg := obj_get hE hb trivial
      exact .inr ⟨r, clock, rfl, hg, hR.obj r _ hg⟩
    · cases h
  · cases h
theorem lookup_run {E : Env} (hE : EnvOk E) {m : Ren} {s : St} {w : World} (hR : Rel m s w.heap) {t : TypeId} {x k v : AV} {ok : Bool} (hk : k.wf s.nx) (h : lookupA E t x k ok s = some v) : (Instr.lookup t (x.val m) (k.val m) ok).run E.P w = .ok (v.val m) w := by
  unfold lookupA at h
  split at h
  · rename_i kt et hu
    split at h
    · rename_i es hes
      cases hko : keyOk E kt k
      · rw [hko] at h; cases h
      · rw [hko] at h
        simp only [cond_true] at h
        have hwf := mapOf_wf hE (Rel.wf hE hR) hes
        have tail : ∀ arr : Array MapEntry, arr = (es.map (ME.ent m)).toArray →
            ((Instr.checkKey arr.isEmpty 10000 kt (k.val m)).run E.P w).andThen (fun _ w => ((Instr.findKey kt (k.val m) arr.toList).run E.P w).andThen fun f w => (match f with
              | some (_, v) => do
                let x ← pure (v, true)
                pure (if ok then .tuple #[x.1, .bool x.2] else x.1)
              | none => do
                let z ← zeroValue et
                let x ← pure (z, false)
                pure (if ok then .tuple #[x.1, .bool x.2] else x.1) : Sem Value).run E.P w) = .ok (v.val m) w := by
          intro arr harr
          rw [checkKey_run hE hko m arr.isEmpty w]
          simp only [Result.andThen_ok]
          subst harr
          split at h
          · rename_i j v' hf
            cases h
            rw [findK_run hE hko hk m w es _ (fun e he => (hwf e he).1) hf]
            simp only [Result.andThen_ok, Option.map_some, Sem.run_bind, Sem.run_pure, okPair_val hE]
          · rename_i hf
            rw [Option.map_eq_some_iff] at h
            obtain ⟨z, hz, rfl⟩ := h
            rw [findK_run hE hko hk m w es _ (fun e he => (hwf e he).1) hf]
            simp only [Result.andThen_ok, Option.map_none, Sem.run_bind, run_zeroT hE hz m, Sem.run_pure, okPair_val hE]
          · cases h
        rcases mapOf_run hE hR hes with ⟨rfl, rfl⟩ | ⟨r, clock, rfl, hg, hh⟩
        · have := tail #[] rfl
          unfold Instr.lookup
          simp only [Sem.run_bind, run_undT hE hu, Result.andThen_ok, AV.val, NilK.val, Sem.run_pure]
          exact this
        · have := tail _ rfl
          unfold Instr.lookup
          simp only [Sem.run_bind, run_undT hE hu, Result.andThen_ok, AV.val, MapKept.run_getObj_map hh, Sem.run_pure]
          exact this
    · cases h
  · cases h
end Go.Vx
