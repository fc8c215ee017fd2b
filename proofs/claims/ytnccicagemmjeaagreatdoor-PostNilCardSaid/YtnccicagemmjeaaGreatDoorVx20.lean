/- The abstract executor: append. -/
import Derived.Test.YtnccicagemmjeaaGreatDoorVx19
namespace Go.Vx

/-! ### As the machine appends -/
theorem app_room {P : Program} {w : World} {t : TypeId} {u : TypeId} {ty : TypeId} {e : TypeId} {ts : List TypeId} {i : TypeInfo} {d : TypeDesc} (ht : P.underlying t = some (.slice e)) (hu : P.underlying u = some d) (hi : P.info? e = some i) (hd : ∀ k, d ≠ .int k) {base : Option Addr} {sLen sCap n : Nat} {y : Value} {new : Array Value} (hlen : (Builtin.lenOf y).run P w = .ok n w) (hnew : (Builtin.firstCells i.size n y).run P w = .ok new w) (hroom : sLen + n ≤ sCap) :
    (Builtin.append_ (t :: u :: ts).toArray ty #[.slice base sLen sCap, y]).run P w = ((match base with | some a => Go.storeCells (a.add (sLen * i.size)) new.toList | none => pure () : Sem Unit).run P w).andThen fun _ w' => .ok (.slice base (sLen + n) sCap) w' := by
  have hz : (d matches .int _) = false := by cases d <;> first | rfl | exact absurd rfl (hd _)
  unfold Builtin.append_
  simp only [List.getElem?_toArray, List.getElem?_cons_zero, List.getElem?_cons_succ, Sem.run_bind, run_underlying ht, run_underlying hu, Result.andThen_ok, sizeOf, typeInfo, hi, run_program, Sem.run_pure, hz,
    Bool.false_eq_true, if_false, Bool.not_false, if_true, hlen, Sem.run_ite, if_pos hroom, hnew]
  cases base with
  | none => rfl
  | some a => simp only [Sem.run_bind, Sem.run_pure]
theorem app_room_int {P : Program} {w : World} {t : TypeId} {u : TypeId} {ty : TypeId} {e : TypeId} {ts : List TypeId} {i : TypeInfo} {d : TypeDesc} (ht : P.underlying t = some (.slice e)) (hu : P.underlying u = some d) (hi : P.info? e = some i) {k j : IntKind} (hd : d = .int j) {zv : Value} (hzv : i.zero = some zv) {base : Option Addr} {sLen sCap n : Nat} (hn : n ≤ 1048576) (hb : i.bytes ≤ 1048576) (hpos : 0 < n * i.size) (hroom : sLen + n ≤ sCap) :
    (Builtin.append_ (t :: u :: ts).toArray ty #[.slice base sLen sCap, .int k (.ofNat n)]).run P w = ((match base with | some a => Go.storeCells (a.add (sLen * i.size)) (Builtin.zeroCells zv.cells n).toList | none => pure () : Sem Unit).run P w).andThen fun _ w' => .ok (.slice base (sLen + n) sCap) w' := by
  subst hd
  have hw : IntKind.i64.wrap (Int.ofNat n) = (n : Int) := by
    simp only [IntKind.wrap, IntKind.signed, IntKind.bits, Int.ofNat_eq_natCast]
    have : ((n : Int) % 2 ^ 64) = n := by omega
    simp only [this]
    have h2 : ¬ ((n : Int) ≥ 2 ^ (64 - 1)) := by omega
    simp
    omega
  have hl0 : ¬ ((n : Int) < 0) := by omega
  have hl1 : ¬ ((n : Int) * (i.bytes : Int) > 2 ^ 48) := by
    have : n * i.bytes ≤ 1048576 * 1048576 := Nat.mul_le_mul hn hb
    have h3 : ((n * i.bytes : Nat) : Int) ≤ ((1099511627776 : Nat) : Int) := Int.ofNat_le.2 (Nat.le_trans this (Nat.le_of_ble_eq_true rfl))
    rw [Int.natCast_mul] at h3
    omega
  have hne : ¬ (n * i.size = 0) := by omega
  unfold Builtin.append_
  simp only [List.getElem?_toArray, List.getElem?_cons_zero, List.getElem?_cons_succ, Sem.run_bind, run_underlying ht, run_underlying hu, Result.andThen_ok, sizeOf, typeInfo, hi, run_program, Sem.run_pure,
    asInt, asIntOf, hw, if_neg hl0, if_neg hl1, Int.toNat_natCast, Bool.not_true, Bool.false_eq_true, if_false, if_true, Sem.run_ite, if_pos hroom, if_neg hne, zeroValue, hzv]
  cases base with
  | none => rfl
  | some a => simp only [Sem.run_bind, Sem.run_pure]
theorem app_grow {P : Program} {w : World} {t : TypeId} {u : TypeId} {ty : TypeId} {e : TypeId} {ts : List TypeId} {i : TypeInfo} {d : TypeDesc} (ht : P.underlying t = some (.slice e)) (hu : P.underlying u = some d) (hi : P.info? e = some i) (hd : ∀ k, d ≠ .int k) {zv : Value} (hzv : i.zero = some zv) {base : Option Addr} {sLen sCap n : Nat} {y : Value} {old new : Array Value} (hlen : (Builtin.lenOf y).run P w = .ok n w) (hnew : (Builtin.firstCells i.size n y).run P w.drew = .ok new w.drew)
    (hold : (Builtin.firstCells i.size sLen (.slice base sLen sCap)).run P w.drew = .ok old w.drew) (hgrow : sCap < sLen + n) (hsmall : sLen + n ≤ 2097152) (hb : i.bytes ≤ 1048576) :
    (Builtin.append_ (t :: u :: ts).toArray ty #[.slice base sLen sCap, y]).run P w = .ok (.slice (some ⟨w.heap.size, 0, none⟩) (sLen + n) (grownCap w (sLen + n) sCap e))
      (w.drew.alloc (.cells (old ++ new ++ Builtin.zeroCells zv.cells (grownCap w (sLen + n) sCap e - (sLen + n))) e)) := by
  have hz : (d matches .int _) = false := by cases d <;> first | rfl | exact absurd rfl (hd _)
  have hch : (choose (.appendCap (sLen + n) sCap e)).run P w = .ok (grownCap w (sLen + n) sCap e) w.drew := by rw [run_choose]; rfl
  have hn : ¬ (sLen + n ≤ sCap) := by omega
  have h63 : ¬ (((sLen + n : Nat) : Int) > IntKind.i64.max ∧ (false = true ∨ i.bytes = 0)) := by rw [IntKind.max_i64]; omega
  have hfit : ¬ (Builtin.nextslicecap (sLen + n) sCap * i.bytes > 2 ^ 48) := by
    have h1 := growslice_fits (bytes := i.bytes) hgrow (by
      have : (sLen + n) * i.bytes ≤ 2097152 * 1048576 := Nat.mul_le_mul hsmall hb
      omega)
    omega
  unfold Builtin.append_
  simp only [List.getElem?_toArray, List.getElem?_cons_zero, List.getElem?_cons_succ, Sem.run_bind, run_underlying ht, run_underlying hu, Result.andThen_ok, sizeOf, typeInfo, hi, run_program, Sem.run_pure, hz,
    Bool.false_eq_true, if_false, Bool.not_false, if_true, hlen, Sem.run_ite, if_neg hn, if_neg hfit, hch, run_askRoom, hnew, hold, zeroValue, hzv]
  rw [if_neg (by simpa using h63)]
  simp [newRow]
  rfl
theorem app_grow_int {P : Program} {w : World} {t : TypeId} {u : TypeId} {ty : TypeId} {e : TypeId} {ts : List TypeId} {i : TypeInfo} {d : TypeDesc} (ht : P.underlying t = some (.slice e)) (hu : P.underlying u = some d) (hi : P.info? e = some i) {k j : IntKind} (hd : d = .int j) {zv : Value} (hzv : i.zero = some zv) {base : Option Addr} {sLen sCap n : Nat} {old : Array Value} (hpos : 0 < n * i.size)
    (hold : (Builtin.firstCells i.size sLen (.slice base sLen sCap)).run P w.drew = .ok old w.drew) (hgrow : sCap < sLen + n) (hn' : n ≤ 1048576) (hsmall : sLen + n ≤ 2097152) (hb : i.bytes ≤ 1048576) :
    (Builtin.append_ (t :: u :: ts).toArray ty #[.slice base sLen sCap, .int k (.ofNat n)]).run P w = .ok (.slice (some ⟨w.heap.size, 0, none⟩) (sLen + n) (grownCap w (sLen + n) sCap e))
      (w.drew.alloc (.cells (old ++ Builtin.zeroCells zv.cells n ++ Builtin.zeroCells zv.cells (grownCap w (sLen + n) sCap e - (sLen + n))) e)) := by
  subst hd
  have hw : IntKind.i64.wrap (Int.ofNat n) = (n : Int) := by
    simp only [IntKind.wrap, IntKind.signed, IntKind.bits, Int.ofNat_eq_natCast]
    have : ((n : Int) % 2 ^ 64) = n := by omega
    simp only [this]
    simp
    omega
  have hl0 : ¬ ((n : Int) < 0) := by omega
  have hl1 : ¬ ((n : Int) * (i.bytes : Int) > 2 ^ 48) := by
    have : n * i.bytes ≤ 1048576 * 1048576 := Nat.mul_le_mul hn' hb
    have h3 : ((n * i.bytes : Nat) : Int) ≤ ((1099511627776 : Nat) : Int) := Int.ofNat_le.2 (Nat.le_trans this (Nat.le_of_ble_eq_true rfl))
    rw [Int.natCast_mul] at h3
    omega
  have hne : ¬ (n * i.size = 0) := by omega
  have hch : (choose (.appendCap (sLen + n) sCap e)).run P w = .ok (grownCap w (sLen + n) sCap e) w.drew := by rw [run_choose]; rfl
  have hn : ¬ (sLen + n ≤ sCap) := by omega
  have h63 : ¬ (((sLen + n : Nat) : Int) > IntKind.i64.max) := by rw [IntKind.max_i64]; omega
  have hfit : ¬ (Builtin.nextslicecap (sLen + n) sCap * i.bytes > 2 ^ 48) := by
    have h1 := growslice_fits (bytes := i.bytes) hgrow (by
      have : (sLen + n) * i.bytes ≤ 2097152 * 1048576 := Nat.mul_le_mul hsmall hb
      omega)
    omega
  unfold Builtin.append_
  simp only [List.getElem?_toArray, List.getElem?_cons_zero, List.getElem?_cons_succ, Sem.run_bind, run_underlying ht, run_underlying hu, Result.andThen_ok, sizeOf, typeInfo, hi, run_program, Sem.run_pure,
    asInt, asIntOf, hw, if_neg hl0, if_neg hl1, Int.toNat_natCast, Bool.not_true, Bool.false_eq_true, if_false, if_true, Sem.run_ite, if_neg hn, if_neg hfit, if_neg hne, hch, run_askRoom, hold, zeroValue, hzv]
  rw [if_neg (fun h => h63 h.1)]
  simp [newRow]
  rfl

/-! ### As the executor appends -/
/-- what is told of what is appended: n elements, whose cells are given -/
structure Src (P : Program) (w : World) (ar : Array TypeId) (ty e : TypeId) (y : Value) (z n : Nat) (new : Array Value) (zv : Value) : Prop where
  room : ∀ (base : Option Addr) (sLen sCap : Nat), sLen + n ≤ sCap →
    (Builtin.append_ ar ty #[.slice base sLen sCap, y]).run P w = ((match base with | some a => Go.storeCells (a.add (sLen * z)) new.toList | none => pure () : Sem Unit).run P w).andThen fun _ w' => .ok (.slice base (sLen + n) sCap) w'
  grow : ∀ (base : Option Addr) (sLen sCap : Nat) (old : Array Value), (Builtin.firstCells z sLen (.slice base sLen sCap)).run P w.drew = .ok old w.drew → sCap < sLen + n → sLen + n ≤ 2097152 →
    (Builtin.append_ ar ty #[.slice base sLen sCap, y]).run P w = .ok (.slice (some ⟨w.heap.size, 0, none⟩) (sLen + n) (grownCap w (sLen + n) sCap e))
      (w.drew.alloc (.cells (old ++ new ++ Builtin.zeroCells zv.cells (grownCap w (sLen + n) sCap e - (sLen + n))) e))
  size : zv.cells.size = z


/-- the row that is laid where there is no room -/
theorem grown_rel {E : Env} (hE : EnvOk E) {m : Ren} {s : St} {w w' : World} {old new : List AV} {z len n cap g p : Nat} {zeros : Array Value} {e : TypeId} (hw : w'.heap = w.heap.push (.cells ((valL m old).toArray ++ (valL m new).toArray ++ zeros) e))
    (ho : old.length = len * z) (hn : new.length = n * z) (hz : zeros.size = (cap - (len + n)) * z) (hcap : len + n ≤ cap) (hwo : wfL s.nx old) (hwn : wfL s.nx new) :
    HO.rel (m.add s.nx w.heap.size 0 cap) w'.heap s.nx (.row (appL old new) z g p) := by
  have hsz : ((valL m old).toArray ++ (valL m new).toArray ++ zeros).size = cap * z := by
    simp only [Array.size_append, List.size_toArray, valL_len, ho, hn, hz]
    rw [← Nat.add_mul, ← Nat.add_mul]
    congr 1; omega
  have hle : len * z + n * z ≤ cap * z := by rw [← Nat.add_mul]; exact Nat.mul_le_mul_right _ hcap
  refine ⟨_, e, (0, 0), by rw [Ren.add_blk, hw]; exact Array.getElem?_push_size, fz00 hE _, ?_, ?_, fun i v hv => ?_⟩
  · rw [Ren.add_sh, Ren.add_cap, hsz]; omega
  · rw [Ren.add_cap, appL_eq, List.length_append, ho, hn]; exact hle
  · rw [appL_eq] at hv
    have hi : i < (old ++ new).length := by
      rcases Nat.lt_or_ge i (old ++ new).length with h | h
      · exact h
      · rw [List.getElem?_eq_none h] at hv; cases hv
    have hwf : v.wf s.nx := by
      have := List.mem_of_getElem? hv
      rw [List.mem_append] at this
      rcases this with h | h
      · exact (wfL_iff _ _).1 hwo v h
      · exact (wfL_iff _ _).1 hwn v h
    rw [val_agree (m.add_agree s.nx w.heap.size 0 cap) v hwf, Ren.add_sh, Nat.zero_add]
    rw [Array.getElem?_append_left (by rw [List.length_append] at hi; simpa [valL_len] using hi)]
    have : (valL m old).toArray ++ (valL m new).toArray = (valL m (old ++ new)).toArray := by simp [valL_eq]
    rw [this, List.getElem?_toArray, valL_get, hv]; rfl
theorem append_grow_new {E : Env} (hE : EnvOk E) {m : Ren} {s : St} {w : World} {ar : Array TypeId} {ty e : TypeId} {y zv : Value} {z n len sCap : Nat} {base : Option Addr} {old new : List AV} (hS : Src E.P w ar ty e y z n (valL m new).toArray zv) (hR : Rel m s w.heap)
    (hold : (Builtin.firstCells z len (.slice base len sCap)).run E.P w.drew = .ok (valL m old).toArray w.drew) (hgrow : sCap < len + n) (hsmall : len + n ≤ 2097152)
    (ho : old.length = len * z) (hn : new.length = n * z) (hwo : wfL s.nx old) (hwn : wfL s.nx new) (hso : scalars old = true) (hsn : scalars new = true) :
    ∃ m' w', (Builtin.append_ ar ty #[.slice base len sCap, y]).run E.P w = .ok ((appendNew s z (len + n) (appL old new)).1.val m') w' ∧ Rel m' (appendNew s z (len + n) (appL old new)).2 w'.heap ∧
      Grow m s w m' (appendNew s z (len + n) (appL old new)).2 w' ∧ (appendNew s z (len + n) (appL old new)).1.wf (appendNew s z (len + n) (appL old new)).2.nx ∧ (appendNew s z (len + n) (appL old new)).2.df = s.df := by
  have hrun := hS.grow base len sCap _ hold hgrow hsmall
  have hcap := grownCap_ge w (len + n) sCap e
  have hrel := grown_rel hE (m := m) (s := s) (w := w) (w' := w.drew.alloc (.cells ((valL m old).toArray ++ (valL m new).toArray ++ Builtin.zeroCells zv.cells (grownCap w (len + n) sCap e - (len + n))) e)) (g := s.nx) (p := 0) rfl ho hn
    (by rw [size_zeroCells, hS.size]) hcap hwo hwn
  have hwf : (HO.row (appL old new) z s.nx 0).wf (s.nx + 1) := by
    refine ⟨wfL_mono (Nat.le_succ _) _ ?_, ?_, Nat.lt_succ_self _⟩
    · rw [appL_eq, wfL_iff]
      intro v hv
      rcases List.mem_append.1 hv with h | h
      · exact (wfL_iff _ _).1 hwo v h
      · exact (wfL_iff _ _).1 hwn v h
    · rw [appL_eq, scalars_iff]
      intro v hv
      rcases List.mem_append.1 hv with h | h
      · exact (scalars_iff _).1 hso v h
      · exact (scalars_iff _).1 hsn v h
  obtain ⟨h1, h2⟩ := rel_new (c := grownCap w (len + n) sCap e) (w' := w.drew.alloc (.cells ((valL m old).toArray ++ (valL m new).toArray ++ Builtin.zeroCells zv.cells (grownCap w (len + n) sCap e - (len + n))) e)) hR rfl rfl rfl rfl hwf (fun g p h => by cases h; rfl) hrel
  refine ⟨_, _, ?_, h1, h2, Nat.lt_succ_self _, rfl⟩
  rw [hrun]
  show _ = Result.ok (Value.slice (some ⟨(m.add s.nx w.heap.size 0 _).blk s.nx, (m.add s.nx w.heap.size 0 _).sh s.nx + 0, none⟩) (len + n) ((m.add s.nx w.heap.size 0 _).cap s.nx - 0)) _
  rw [Ren.add_blk, Ren.add_sh, Ren.add_cap]
  rfl
theorem append_in {E : Env} (_hE : EnvOk E) {m : Ren} {s s' : St} {w : World} {ar : Array TypeId} {ty e : TypeId} {y zv : Value} {z n b o len : Nat} {cp : Cap} {new : List AV} {v : AV} (hS : Src E.P w ar ty e y z n (valL m new).toArray zv) (hR : Rel m s w.heap)
    (h : appendIn s b o len z n cp new = some (v, s')) (hroom : len + n ≤ cp.val (m.cap b)) (hb : b < s.nx) (hwn : wfL s.nx new) :
    ∃ m' w', (Builtin.append_ ar ty #[(AV.slc b o len cp).val m, y]).run E.P w = .ok (v.val m') w' ∧ Rel m' s' w'.heap ∧ Grow m s w m' s' w' ∧ v.wf s'.nx ∧ s'.df = s.df := by
  unfold appendIn at h
  rw [recO] at h
  cases hs : storeCells s b (o + len * z) new with
  | none => rw [show (Nat.add o (Nat.mul len z)) = o + len * z from rfl, hs] at h; cases h
  | some s'' =>
    rw [show (Nat.add o (Nat.mul len z)) = o + len * z from rfl, hs] at h
    cases h
    obtain ⟨w', hrun, hR', hG, hnx, hdf⟩ := store_ok (P := E.P) hR hs hwn
    refine ⟨m, w', ?_, hR', hG, by rw [hnx]; exact hb, hdf⟩
    simp only [AV.val]
    rw [hS.room _ _ _ hroom]
    simp only [Addr.add_lit]
    rw [Nat.add_assoc, hrun]
    rfl
theorem memG_set {E : Env} (_hE : EnvOk E) (gr : Tr (List Nat)) (g g' : Nat) (l : List Nat) : memG (gr.set g l) g' = if g' = g then l else memG gr g' := by
  unfold memG
  rw [get_set]
  split
  · rfl
  · rfl
theorem append_may {E : Env} (hE : EnvOk E) {m : Ren} {s : St} {w : World} {ar : Array TypeId} {ty e : TypeId} {y zv : Value} {z n b o len d es g p : Nat} {cells old new : List AV} (hS : Src E.P w ar ty e y z n (valL m new).toArray zv) (hR : Rel m s w.heap)
    (hb : s.hp.get b = some (.row cells es g p)) (hes : es = z) (ho : o = d * z) (hod : o ≤ cells.length) (hold : sub cells o (len * z) = some old) (hsmall : len + n ≤ 2097152) (hn : new.length = n * z) (hz : 0 < z) (hwn : wfL s.nx new) (hsn : scalars new = true) :
    ∃ m' w', (Builtin.append_ ar ty #[(AV.slc b o len (.rest d)).val m, y]).run E.P w = .ok ((appendMay s b o len z n old new es g p).1.val m') w' ∧ Rel m' (appendMay s b o len z n old new es g p).2 w'.heap ∧
      Grow m s w m' (appendMay s b o len z n old new es g p).2 w' ∧ (appendMay s b o len z n old new es g p).1.wf (appendMay s b o len z n old new es g p).2.nx ∧ (appendMay s b o len z n old new es g p).2.df = s.df := by
  subst hes
  have hlt := hR.lt b _ hb
  obtain ⟨c, el, fz, hc, hf, h2, h3, h4⟩ := hR.obj b _ hb
  obtain ⟨hlo, hgo, hle⟩ := sub_eq hold
  have hwo : wfL s.nx old := (wfL_iff _ _).2 fun v hv => (wfL_iff _ _).1 hlt.2.1 v (sub_mem hold v hv)
  have hso : scalars old = true := (scalars_iff _).2 fun v hv => (scalars_iff _).1 hlt.2.2.1 v (sub_mem hold v hv)
  -- the state
  obtain ⟨hp, nx, gr, df⟩ := s
  simp only at hb hlt hwo hwn hwo
  let hp' := killAll nx (p + (o + len * es)) (p + (o + len * es) + new.length) (memG gr g) hp
  have hst : (appendMay ⟨hp, nx, gr, df⟩ b o len es n old new es g p) = (.slc nx 0 (len + n) (.rest 0), ⟨hp'.set nx (.row (appL old new) es g (p + o)), nx + 1, gr.set g (nx :: memG gr g), df⟩) := by
    unfold appendMay
    simp only [hp', lenL_eq, members_eq]
    rfl
  rw [hst]
  have hkill : ∀ x, (⟨hp', nx, gr, df⟩ : St).hp.get x = hp.get x ∨ (⟨hp', nx, gr, df⟩ : St).hp.get x = some .dead ∧ ∃ o, hp.get x = some o := fun x => by
    rcases killAll_get nx (p + (o + len * es)) (p + (o + len * es) + new.length) (memG gr g) hp x with e | ⟨e, e', _⟩
    · exact .inl e
    · exact .inr ⟨e, e'⟩
  have hR1 : Rel m ⟨hp', nx, gr, df⟩ w.heap := rel_kill hR hkill rfl rfl
  have hG1 : Grow m ⟨hp, nx, gr, df⟩ w m ⟨hp', nx, gr, df⟩ w := ext_kill hkill rfl
  have hrowwf : (HO.row (appL old new) es g (p + o)).wf (nx + 1) := by
    refine ⟨wfL_mono (Nat.le_succ _) _ ?_, ?_, Nat.lt_succ_of_lt hlt.2.2.2⟩
    · rw [appL_eq, wfL_iff]
      intro v hv
      rcases List.mem_append.1 hv with h | h
      · exact (wfL_iff _ _).1 hwo v h
      · exact (wfL_iff _ _).1 hwn v h
    · rw [appL_eq, scalars_iff]
      intro v hv
      rcases List.mem_append.1 hv with h | h
      · exact (scalars_iff _).1 hso v h
      · exact (scalars_iff _).1 hsn v h
  have hmem : ∀ g' x, x ∈ memG gr g' → x ∈ memG (gr.set g (nx :: memG gr g)) g' := fun g' x hx => by
    rw [memG_set hE]
    split
    · rename_i e; rw [← e]; exact List.mem_cons_of_mem _ hx
    · exact hx
  have hnew : ∀ g' q, (HO.row (appL old new) es g (p + o)).key = some (g', q) → nx ∈ memG (gr.set g (nx :: memG gr g)) g' := fun g' q h => by
    cases h; rw [memG_set hE, if_pos rfl]; exact List.mem_cons_self
  have hgr : ∀ g', nx + 1 ≤ g' → (gr.set g (nx :: memG gr g)).get g' = none := fun g' h => by
    have := hlt.2.2.2
    rw [get_set_ne _ _ (by omega)]
    exact hR.gr g' (by simp only; omega)
  by_cases hroom : len + n ≤ m.cap b - d
  · -- there is room
    have hdc : d ≤ m.cap b := Nat.le_of_mul_le_mul_right (show d * es ≤ m.cap b * es by omega) hz
    have hcap : m.cap b * es = d * es + (m.cap b - d) * es := by rw [← Nat.add_mul]; congr 1; omega
    have hin : len * es + n * es ≤ (m.cap b - d) * es := by rw [← Nat.add_mul]; exact Nat.mul_le_mul_right _ hroom
    have hsz : m.sh b + (o + len * es) + (valL m new).length ≤ c.size := by rw [valL_len, hn, ho]; omega
    have hrun := run_storeCells_own E.P (m.blk b) (m.sh b + (o + len * es)) el fz (valL m new) 0 c w hc hf (by simpa using hsz) (val_ones m hsn)
    rw [Nat.add_zero] at hrun
    have hheap := setRow_heap w (m.blk b) c (over c (m.sh b + (o + len * es)) (valL m new)) el fz hc
    have hoth : ∀ j, j ≠ m.blk b → (w.setRow (m.blk b) (over c (m.sh b + (o + len * es)) (valL m new))).heap[j]? = w.heap[j]? := fun j hj => setRow_other w _ _ _ hj
    obtain ⟨q1, q2, q3⟩ := over_get c (m.sh b + (o + len * es)) (valL m new) hsz
    rw [valL_len] at q2 q3
    have hrel : HO.rel (m.add nx (m.blk b) (m.sh b + o) (m.cap b - d)) (w.setRow (m.blk b) (over c (m.sh b + (o + len * es)) (valL m new))).heap nx (.row (appL old new) es g (p + o)) := by
      refine ⟨_, el, fz, by rw [Ren.add_blk]; exact hheap, by rw [q1]; exact hf, by rw [Ren.add_sh, Ren.add_cap, q1]; omega, by rw [Ren.add_cap, appL_eq, List.length_append, hlo, hn]; exact hin, fun i v hv => ?_⟩
      rw [appL_eq] at hv
      have hwf : v.wf nx := by
        rcases List.mem_append.1 (List.mem_of_getElem? hv) with h | h
        · exact (wfL_iff _ _).1 hwo v h
        · exact (wfL_iff _ _).1 hwn v h
      rw [val_agree (m.add_agree nx (m.blk b) (m.sh b + o) (m.cap b - d)) v hwf, Ren.add_sh]
      by_cases hi : i < len * es
      · rw [List.getElem?_append_left (by omega), hgo i hi] at hv
        rw [show m.sh b + o + i = m.sh b + (o + i) by omega, q3 _ (.inl (by omega))]
        exact h4 _ _ hv
      · rw [List.getElem?_append_right (by omega), hlo] at hv
        have hi2 : i - len * es < new.length := by
          rcases Nat.lt_or_ge (i - len * es) new.length with h | h
          · exact h
          · rw [List.getElem?_eq_none h] at hv; cases hv
        rw [show m.sh b + o + i = m.sh b + (o + len * es) + (i - len * es) by omega, q2 _ hi2, valL_get, hv]
        rfl
    have hadd := rel_add (o := .row (appL old new) es g (p + o)) (k := m.blk b) (sh := m.sh b + o) (cap := m.cap b - d) (gr' := gr.set g (nx :: memG gr g)) hR1 hrowwf (fun j _ hj => hoth j hj) (fun b' o1 hb' hl' he => by
      have hne : b' ≠ nx := by
        have := (hR1.lt b' o1 hb').1
        simp only at this
        omega
      obtain ⟨cells1, es1, p1, rfl, hs1, e2, e3⟩ := beside_of hR (o := o + len * es) (n := new.length) hb (hp' := hp') (me := nx) rfl hne hb' hl' he (.inr (by have := hlt.1; omega))
      refine ⟨row_beside he hc (by rw [valL_len] at hsz; exact hsz) (hR.obj b' _ hs1) (fun i hi => by rcases e3 with e3 | e3 <;> omega) hheap, fun _ => ⟨g, p1, p + o, rfl, rfl, ?_⟩⟩
      have hb'lt := (hR.lt b' _ hs1).1
      rw [(m.add_agree nx (m.blk b) (m.sh b + o) (m.cap b - d)).sh b' hb'lt, Ren.add_sh]
      omega) hrel hmem hnew hgr df
    have hag := m.add_agree nx (m.blk b) (m.sh b + o) (m.cap b - d)
    have hext : Grow m ⟨hp, nx, gr, df⟩ w (m.add nx (m.blk b) (m.sh b + o) (m.cap b - d)) ⟨hp'.set nx (.row (appL old new) es g (p + o)), nx + 1, gr.set g (nx :: memG gr g), df⟩ (w.setRow (m.blk b) (over c (m.sh b + (o + len * es)) (valL m new))) := by
      refine ⟨hag, Nat.le_succ _, by simp, fun k hk hno => hoth k fun e => hno b _ hb trivial e.symm, fun b' o' hb' hl' => .inl ?_, rfl, rfl, rfl⟩
      by_cases e : b' = nx
      · subst e
        exact ⟨b, _, hb, trivial, by rw [Ren.add_blk]⟩
      · simp only at hb'
        rw [get_set_ne _ _ e] at hb'
        rcases hkill b' with h | ⟨h, _⟩
        · have h' : hp.get b' = some o' := h.symm.trans hb'
          exact ⟨b', o', h', hl', (hag.blk b' (hR.lt b' o' h').1).symm⟩
        · have h : hp'.get b' = some .dead := h
          rw [hb'] at h
          rw [Option.some.inj h] at hl'
          exact hl'.elim
    refine ⟨_, _, ?_, hadd, hext, Nat.lt_succ_self _, rfl⟩
    simp only [AV.val, Cap.val]
    rw [hS.room _ _ _ hroom]
    simp only [Addr.add_lit]
    rw [show m.sh b + o + len * es = m.sh b + (o + len * es) by omega]
    rw [hrun]
    simp only [Result.andThen_ok, Ren.add_blk, Ren.add_sh, Ren.add_cap, Nat.add_zero, Nat.sub_zero]
    rfl
  · -- there is none
    have hfc : (Builtin.firstCells es len (.slice (some ⟨m.blk b, m.sh b + o, none⟩) len (m.cap b - d))).run E.P w.drew = .ok (valL m old).toArray w.drew := by
      show (Go.loadCells ⟨m.blk b, m.sh b + o, none⟩ (len * es)).run E.P w.drew = _
      exact run_loadCells_row (w := w.drew) (hR.obj b _ hb) hold
    have hrun := hS.grow _ len (m.cap b - d) _ hfc (by omega) hsmall
    have hcap := grownCap_ge w (len + n) (m.cap b - d) e
    have hrel := grown_rel hE (m := m) (s := ⟨hp, nx, gr, df⟩) (w := w) (w' := w.drew.alloc (.cells ((valL m old).toArray ++ (valL m new).toArray ++ Builtin.zeroCells zv.cells (grownCap w (len + n) (m.cap b - d) e - (len + n))) e)) (g := g) (p := p + o) rfl hlo hn
      (by rw [size_zeroCells, hS.size]) hcap hwo hwn
    have hoth : ∀ j, j < w.heap.size → j ≠ w.heap.size → (w.drew.alloc (.cells ((valL m old).toArray ++ (valL m new).toArray ++ Builtin.zeroCells zv.cells (grownCap w (len + n) (m.cap b - d) e - (len + n))) e)).heap[j]? = w.heap[j]? := fun j hj _ => by
      show (w.heap.push _)[j]? = _
      rw [Array.getElem?_push, if_neg (by omega)]
    have hadd := rel_add (o := .row (appL old new) es g (p + o)) (k := w.heap.size) (sh := 0) (cap := grownCap w (len + n) (m.cap b - d) e) (gr' := gr.set g (nx :: memG gr g)) hR1 hrowwf hoth (fun b' o1 hb' hl' he => by
      have := HO.rel_lt (hR1.obj b' o1 hb') hl'; omega) hrel hmem hnew hgr df
    refine ⟨_, _, ?_, hadd, hG1.trans (ext_add (by show w.heap.size ≤ (w.heap.push _).size; simp) hoth (.inr (Nat.le_refl _)) (fun b' o' h => (hR1.lt b' o' h).1) rfl rfl rfl), Nat.lt_succ_self _, rfl⟩
    simp only [AV.val, Cap.val]
    rw [hrun]
    simp only [Ren.add_blk, Ren.add_sh, Ren.add_cap, Nat.add_zero, Nat.sub_zero]
end Go.Vx
