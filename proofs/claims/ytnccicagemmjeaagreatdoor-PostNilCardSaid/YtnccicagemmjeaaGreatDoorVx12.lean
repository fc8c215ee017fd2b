/- The abstract executor: conversions, slices, loads, lengths. -/
import Derived.Test.YtnccicagemmjeaaGreatDoorVx11
import Derived.Laws.AppendOwn
namespace Go.Vx
theorem freeze_end (w : World) (arr : Array Value) (el : TypeId) : (w.alloc (.cells arr el)).freeze ⟨w.heap.size, arr.size, none⟩ 1 = w.alloc (.cells arr el (arr.size, arr.size + 1)) := by
  unfold World.freeze World.alloc
  simp only [if_neg (by decide : ¬ (1 : Nat) = 0)]
  congr 1
  apply Array.ext_getElem?
  intro i
  rw [Array.getElem?_modify]
  by_cases h : w.heap.size = i
  · subst h; simp
  · rw [if_neg h, Array.getElem?_push, Array.getElem?_push, if_neg (by omega), if_neg (by omega)]
theorem run_stringToBytes (P : Program) (w : World) (e : TypeId) (s : ByteArray) (arr : Array Value) (ha : arr = (s.data.map fun b => Value.int .u8 b.toNat) ++ Array.replicate (grownCap w s.size 0 e - s.size) (.int .u8 0)) :
    (Conv.stringToBytes e s).run P w = .ok (.slice (some ⟨w.heap.size, 0, none⟩) s.size (grownCap w s.size 0 e)) (w.drew.alloc (.cells arr e (arr.size, arr.size + 1))) := by
  have hsh : (w.drew.alloc (.cells arr e)).shape? w.heap.size = some (e, arr.size) := by
    unfold World.shape? World.alloc
    have : (w.drew.heap.push (Obj.cells arr e))[w.heap.size]? = some (Obj.cells arr e) := by
      rw [← World.size_drew, Array.getElem?_push_size]
    rw [this]
  have hfr := freeze_end w.drew arr e
  rw [World.size_drew] at hfr
  have hch : (choose (.appendCap s.size 0 e)).run P w = .ok (grownCap w s.size 0 e) w.drew := by
    rw [run_choose]; rfl
  unfold Conv.stringToBytes
  rw [Sem.run_bind, hch]
  simp only [Result.andThen_ok]
  rw [Sem.run_bind]
  have hnr : (newRow e (s.data.map (fun b => Value.int .u8 b.toNat) ++ Array.replicate (grownCap w s.size 0 e - s.size) (.int .u8 0))).run P w.drew = .ok ⟨w.heap.size, 0, none⟩ (w.drew.alloc (.cells arr e)) := by
    rw [← ha]; simp [newRow, World.alloc]
  rw [hnr]
  simp only [Result.andThen_ok]
  rw [Sem.run_bind]
  have hms : (markStringish ⟨w.heap.size, 0, none⟩).run P (w.drew.alloc (.cells arr e)) = .ok () (w.drew.alloc (.cells arr e (arr.size, arr.size + 1))) := by
    unfold markStringish
    rw [Sem.run_bind, run_shape]
    simp only [hsh, Result.andThen_ok]
    rw [run_freeze, hfr]
  rw [hms]
  rfl

/-! ### Conversions -/
theorem sliceU8_eq {E : Env} (_hE : EnvOk E) {t : TypeId} (h : sliceU8 E t = true) : ∃ e, undT E.T t = some (.slice e) ∧ undT E.T e = some (.int .u8) := by
  unfold sliceU8 at h
  split at h
  · rename_i e hu
    refine ⟨e, hu, ?_⟩
    unfold isU8 at h
    split at h
    · assumption
    · cases h
  · cases h
theorem bytesOf_eq {E : Env} (_hE : EnvOk E) : ∀ (l : List AV) (r : List Nat), bytesOf l = some r → l = r.map (fun n => AV.int .u8 (.ofNat n)) ∧ ∀ b ∈ r, b < 256 := by
  intro l
  induction l with
  | nil => intro r h; cases h; exact ⟨rfl, fun b hb => by cases hb⟩
  | cons v l ih =>
    intro r h
    unfold bytesOf at h
    split at h
    · rename_i h'; cases h'
    · rename_i n l' h'
      cases h'
      cases hc : Nat.ble n 255
      · rw [hc] at h; cases h
      · rw [hc] at h
        simp only [cond_true] at h
        rw [recO] at h
        cases hm : bytesOf l with
        | none => rw [hm] at h; cases h
        | some m' =>
          rw [hm] at h; cases h
          obtain ⟨e1, e2⟩ := ih m' hm
          have := Nat.le_of_ble_eq_true hc
          refine ⟨by rw [e1]; rfl, fun b hb => ?_⟩
          rcases List.mem_cons.1 hb with rfl | hb
          · omega
          · exact e2 b hb
    · cases h
theorem foldl_push {E : Env} (_hE : EnvOk E) (ns : List Nat) : ∀ s : ByteArray, (ns.map (fun n => (Int.ofNat n : Int))).foldl (fun r n => r.push (UInt8.ofNat n.toNat)) s = ⟨s.data ++ (ns.map UInt8.ofNat).toArray⟩ := by
  induction ns with
  | nil => intro s; simp
  | cons n ns ih =>
    intro s
    simp only [List.map_cons, List.foldl_cons]
    rw [ih]
    congr 1
    apply Array.ext'
    simp [ByteArray.push]
theorem convStr_run {E : Env} (hE : EnvOk E) {src : TypeId} {x v : AV} {s : St} {n : Nat} (h : convStr E src x s = some v) : v.wf n ∧ ∀ (dst : TypeId) (m : Ren) (w : World), undT E.T dst = some .string →
    (∀ b o k cp, x = .slc b o k cp → FootOk E m w s (.cells b o k)) → (convert src dst (x.val m)).run E.P w = .ok (v.val m) w := by
  unfold convStr at h
  split at h
  · rename_i b o k cp
    cases hs : sliceU8 E src
    · rw [hs] at h; cases h
    · rw [hs] at h
      simp only [cond_true] at h
      rw [recO] at h
      cases hl : loadCells s b o k with
      | none => rw [hl] at h; cases h
      | some cs =>
        rw [hl] at h
        simp only at h
        rw [recO] at h
        cases hb : bytesOf cs with
        | none => rw [hb] at h; cases h
        | some r =>
          rw [hb] at h; cases h
          obtain ⟨e1, e2⟩ := bytesOf_eq hE _ _ hb
          refine ⟨e2, fun dst m w hd hf => ?_⟩
          obtain ⟨e, hu, he⟩ := sliceU8_eq hE hs
          simp only [AV.val]
          rw [run_convert_bytes_string w src dst e _ _ _ (undT_eq hE hu) (undT_eq hE he) (undT_eq hE hd)]
          have hcells := hf b o k cp rfl cs hl
          have hlen : cs.length = k := by obtain ⟨cells, es, g, p, _, h2⟩ := loadCells_eq hl; exact (sub_eq h2).1
          have hload := run_loadCells_list (P := E.P) w ⟨m.blk b, m.sh b + o, none⟩ (valL m cs) fun j v hj => by
            rw [valL_get] at hj
            cases hc : cs[j]? with
            | none => rw [hc] at hj; cases hj
            | some x => rw [hc] at hj; cases hj; rw [Addr.add_lit]; exact hcells j x hc
          rw [valL_len, hlen] at hload
          have e3 : valL m cs = (r.map (fun n => (Int.ofNat n : Int))).map (Value.int .u8) := by
            rw [valL_eq, e1, List.map_map, List.map_map]; rfl
          rw [e3] at hload
          rw [run_bytesToString w _ _ _ _ hload, foldl_push hE]
          simp [strV]
  · cases hs : sliceU8 E src
    · rw [hs] at h; cases h
    · rw [hs] at h; cases h
      refine ⟨fun b hb => (by cases hb), fun dst m w hd _ => ?_⟩
      obtain ⟨e, hu, he⟩ := sliceU8_eq hE hs
      simp only [AV.val, NilK.val]
      rw [run_convert_bytes_string w src dst e _ _ _ (undT_eq hE hu) (undT_eq hE he) (undT_eq hE hd)]
      rfl
  · rename_i b o d a z
    cases hs : sliceU8 E src
    · rw [hs] at h; cases h
    · rw [hs] at h; cases h
      refine ⟨fun b hb => (by cases hb), fun dst m w hd _ => ?_⟩
      obtain ⟨e, hu, he⟩ := sliceU8_eq hE hs
      simp only [AV.val, OAV.val]
      rw [run_convert_bytes_string w src dst e _ _ _ (undT_eq hE hu) (undT_eq hE he) (undT_eq hE hd)]
      rw [run_bytesToString w _ 0 _ [] (by simp [Go.loadCells, loadCellsFrom])]
      rfl
  · cases h
theorem convInt_run {E : Env} (hE : EnvOk E) {k : IntKind} {x v : AV} {n : Nat} (h : convInt k x = some v) (src dst : TypeId) {d : TypeDesc} (hs : undT E.T src = some d) (hd : undT E.T dst = some (.int k)) (m : Ren) (w : World) :
    v.wf n ∧ (convert src dst (x.val m)).run E.P w = .ok (v.val m) w := by
  unfold convInt at h
  split at h
  · rename_i j z
    cases h
    refine ⟨trivial, ?_⟩
    simp only [AV.val, convert, Sem.run_bind, run_undT hE hs, run_undT hE hd, Result.andThen_ok, Conv.intToInt, wr_eq]
    rfl
  · rename_i j e
    cases h
    refine ⟨trivial, ?_⟩
    simp only [AV.val, SE.eval, convert, Sem.run_bind, run_undT hE hs, run_undT hE hd, Result.andThen_ok, Conv.intToInt, wr_eq]
    rfl
  · cases h
theorem ofBytes_val {E : Env} (_hE : EnvOk E) (m : Ren) (l : List Nat) : valL m (ofBytes l) = l.map fun n => Value.int .u8 (Int.ofNat n) := by
  induction l with
  | nil => rfl
  | cons a l ih => simp only [ofBytes, valL, ih, AV.val, List.map_cons]
theorem ofBytes_len {E : Env} (_hE : EnvOk E) (l : List Nat) : (ofBytes l).length = l.length := by
  induction l with
  | nil => rfl
  | cons a l ih => simp [ofBytes, ih]
theorem ofBytes_wf {E : Env} (_hE : EnvOk E) (n : Nat) (l : List Nat) : wfL n (ofBytes l) := by
  induction l with
  | nil => exact trivial
  | cons a l ih => exact ⟨trivial, ih⟩
theorem ofBytes_scalars {E : Env} (_hE : EnvOk E) (l : List Nat) : scalars (ofBytes l) = true := by
  induction l with
  | nil => rfl
  | cons a l ih => exact (scalars_cons _ _).2 ⟨rfl, ih⟩
/-- a new row, as the machine lays it -/
theorem lay_row {E : Env} (_hE : EnvOk E) {P : Program} {m : Ren} {s : St} {w w' : World} {cells : List AV} {es cap : Nat} {cs : Sem Next} {v : AV} {arr : Array Value} {el : TypeId} {fz : Nat × Nat}
    (hw : wfL s.nx cells) (hsc : scalars cells = true) (hrun : cs.run P w = .ok (.value (v.val (m.add s.nx w.heap.size 0 cap))) w') (hheap : w'.heap = w.heap.push (.cells arr el fz)) (ho : w'.os = w.os) (ht : w'.tape = w.tape) (hu : w'.output = w.output)
    (hfz : fzOk fz arr.size) (hsize : cap * es ≤ arr.size) (hlen : cells.length ≤ cap * es) (hget : ∀ (i : Nat) (x : AV), cells[i]? = some x → arr[i]? = some (x.val m)) :
    PureOut P m s w cs v (s.newRow cells es).2 := by
  refine .inr ⟨.row cells es s.nx 0, .cells arr el fz, cap, w', rfl, hrun, hheap, ho, ht, hu, ⟨wfL_mono (Nat.le_succ _) _ hw, hsc, Nat.lt_succ_self _⟩, fun g p h => by cases h; rfl, ?_⟩
  refine ⟨arr, el, fz, by rw [Ren.add_blk, hheap]; simp, hfz, by rw [Ren.add_sh, Ren.add_cap]; omega, by rw [Ren.add_cap]; exact hlen, fun i x hx => ?_⟩
  rw [Ren.add_sh, Nat.zero_add, val_agree (m.add_agree s.nx w.heap.size 0 cap) x ((wfL_iff _ _).1 hw x (List.mem_of_getElem? hx))]
  exact hget i x hx
theorem fz00 {E : Env} (_hE : EnvOk E) (n : Nat) : fzOk (0, 0) n := fun i _ h => by omega
theorem convSlice_run {E : Env} (hE : EnvOk E) {src dst e : TypeId} {x v : AV} {s s' : St} (h : convSlice E e x s = some (v, s')) (hx : x.wf s.nx) (hs : undT E.T src = some .string) (hd : undT E.T dst = some (.slice e)) :
    v.wf s'.nx ∧ ∀ (m : Ren) (w : World), PureOut E.P m s w (do pure (Next.value (← convert src dst (x.val m)))) v s' := by
  unfold convSlice at h
  split at h
  · rename_i l
    cases hu8 : isU8 E e
    · rw [hu8] at h; cases h
    · rw [hu8] at h
      have he : undT E.T e = some (.int .u8) := by
        unfold isU8 at hu8
        split at hu8
        · assumption
        · cases hu8
      cases h
      refine ⟨Nat.lt_succ_self _, fun m w => ?_⟩
      have hsz : (⟨(l.map UInt8.ofNat).toArray⟩ : ByteArray).size = l.length := strV_size l
      have hcap : l.length ≤ grownCap w l.length 0 e := grownCap_ge w _ _ _
      obtain ⟨arr, harr⟩ : ∃ arr, arr = ((l.map UInt8.ofNat).toArray.map fun b => Value.int .u8 b.toNat) ++ Array.replicate (grownCap w l.length 0 e - l.length) (.int .u8 0) := ⟨_, rfl⟩
      refine lay_row hE (cap := grownCap w l.length 0 e) (arr := arr) (el := e) (fz := (arr.size, arr.size + 1)) (w' := w.drew.alloc (.cells arr e (arr.size, arr.size + 1))) (ofBytes_wf hE _ l) (ofBytes_scalars hE l) ?_ rfl rfl rfl rfl ?_ ?_ ?_ ?_
      · rw [run_v]
        have hrun : (convert src dst (AV.val m (.str l))).run E.P w = (Conv.stringToBytes e ⟨(l.map UInt8.ofNat).toArray⟩).run E.P w := by
          simp only [AV.val, strV, convert, Sem.run_bind, run_undT hE hs, run_undT hE hd, run_undT hE he, Result.andThen_ok]
        rw [hrun, run_stringToBytes E.P w e _ arr (by rw [hsz]; exact harr), hsz]
        simp only [Result.andThen_ok, AV.val, Ren.add_blk, Ren.add_sh, Ren.add_cap, Cap.val, lenL_eq]
        rfl
      · exact fun i hi h => by simp only at h; omega
      · rw [harr]; simp; omega
      · rw [ofBytes_len hE]; omega
      · intro i y hy
        have hi : i < l.length := by
          rcases Nat.lt_or_ge i (ofBytes l).length with h | h
          · rwa [ofBytes_len hE] at h
          · rw [List.getElem?_eq_none h] at hy; cases hy
        have e1 : (valL m (ofBytes l))[i]? = some (y.val m) := by rw [valL_get, hy]; rfl
        rw [ofBytes_val hE, List.getElem?_map, List.getElem?_eq_getElem hi] at e1
        have hlt : l[i] < 256 := hx _ (List.getElem_mem hi)
        rw [harr, Array.getElem?_append_left (by simpa using hi)]
        simp only [Option.map_some, Option.some.injEq] at e1
        rw [← e1]
        simp [hi, UInt8.toNat_ofNat', Nat.mod_eq_of_lt hlt]
  · cases h
end Go.Vx
