/- The abstract executor: temporaries; regions that draw no order. -/
import Derived.Test.YtnccicagemmjeaaGreatDoorVx23
namespace Go.Vx

/-- temporaries: those that other regions read; those of this region -/
structure EnvRel (c : Cx) (N : Nat) (l : List AV) (tm : Tm) (m : Ren) (n : Nat) (a : Act) : Prop where
  size : a.tmps.size = N
  glb : ∀ t, bit c.G t = true → a.tmps.getD t undef = (gets tm t).val m
  twf : TmWf n tm
  loc : ∀ (i d : Nat) (v : AV), c.ds[i]? = some d → l[i]? = some v → a.tmps.getD d undef = v.val m
  len : c.ds.length = l.length
  lwf : wfL n l
theorem idxOf_eq : ∀ (l : List Nat) (t i j : Nat), idxOf l t i = some j → ∃ k, j = i + k ∧ l[k]? = some t := by
  intro l
  induction l with
  | nil => intro t i j h; cases h
  | cons d l ih =>
    intro t i j h
    have e : idxOf (d :: l) t i = Bool.rec (motive := fun _ => Option Nat) (idxOf l t (Nat.succ i)) (some i) (Nat.beq d t) := rfl
    rw [e, recB] at h
    split at h
    · rename_i hd
      cases h
      exact ⟨0, by omega, by rw [Nat.eq_of_beq_eq_true hd]; rfl⟩
    · obtain ⟨k, rfl, hk⟩ := ih _ _ _ h
      exact ⟨k + 1, by omega, hk⟩
theorem idxOf_none : ∀ (l : List Nat) (t i : Nat), idxOf l t i = none → t ∉ l := by
  intro l
  induction l with
  | nil => intro t i h; simp
  | cons d l ih =>
    intro t i h
    have e : idxOf (d :: l) t i = Bool.rec (motive := fun _ => Option Nat) (idxOf l t (Nat.succ i)) (some i) (Nat.beq d t) := rfl
    rw [e, recB] at h
    split at h
    · cases h
    · rename_i hd
      have := ih _ _ h
      rw [List.mem_cons]
      rintro (rfl | h')
      · exact hd (Nat.beq_refl _)
      · exact this h'
theorem ev_tmp (c : Cx) (t : Nat) (l : List AV) (tm : Tm) : (ev c (.tmp t)).f l tm = if bit c.G t = true then gets tm t else match idxOf c.ds t 0 with | some i => (l[i]?).getD undefA | none => undefA := by
  show (cond (bit c.G t) (⟨fun _ tm => Option.rec (motive := fun _ => AV) undefA (fun v => v) ((getG t).f tm)⟩ : EvR) (match idxOf c.ds t 0 with
    | some i => ⟨fun l _ => Option.rec (motive := fun _ => AV) undefA (fun v => v) (nth l i)⟩
    | none => ⟨fun _ _ => undefA⟩)).f l tm = _
  cases bit c.G t
  · simp only [cond_false, Bool.false_eq_true, if_false]
    cases idxOf c.ds t 0 with
    | none => rfl
    | some i =>
      simp only
      rw [nth_eq]
      cases l[i]? <;> rfl
  · simp only [cond_true, if_true]
    rw [getG_eq]
    unfold gets
    cases tm.get t <;> rfl
theorem EnvRel.args {c : Cx} {N : Nat} {l : List AV} {tm : Tm} {m : Ren} {n : Nat} {a : Act} (h : EnvRel c N l tm m n a) : ArgsWf c l tm n ∧ ArgsVal c l tm m a.eval := by
  have tmp : ∀ t, okO c (.tmp t) = true → ((ev c (.tmp t)).f l tm).wf n ∧ a.tmps.getD t undef = ((ev c (.tmp t)).f l tm).val m := by
    intro t hok
    rw [ev_tmp]
    by_cases hb : bit c.G t = true
    · rw [if_pos hb]
      exact ⟨h.twf.gets t, h.glb t hb⟩
    · rw [if_neg hb]
      have e : okO c (.tmp t) = Bool.rec (motive := fun _ => Bool) (Option.rec (motive := fun _ => Bool) false (fun _ => true) (idxOf c.ds t 0)) true (bit c.G t) := rfl
      rw [e, recB, if_neg hb, recO] at hok
      cases hi : idxOf c.ds t 0 with
      | none => rw [hi] at hok; cases hok
      | some i =>
        obtain ⟨k, hk, hd⟩ := idxOf_eq _ _ _ _ hi
        rw [Nat.zero_add] at hk
        subst hk
        have hl : i < l.length := by
          rw [← h.len]
          rcases Nat.lt_or_ge i c.ds.length with h' | h'
          · exact h'
          · rw [List.getElem?_eq_none h'] at hd; cases hd
        simp only
        rw [List.getElem?_eq_getElem hl]
        exact ⟨(wfL_iff _ _).1 h.lwf _ (List.getElem_mem hl), h.loc i t _ hd (List.getElem?_eq_getElem hl)⟩
  have const : ∀ v, okO c (.const v) = true → ((ev c (.const v)).f l tm).wf n ∧ v = ((ev c (.const v)).f l tm).val m := by
    intro v hok
    have e : okO c (.const v) = Option.rec (motive := fun _ => Bool) false (fun _ => true) (ofValue v) := rfl
    rw [e, recO] at hok
    cases hv : ofValue v with
    | none => rw [hv] at hok; cases hok
    | some x =>
      have := ofValue_val m n v x hv
      have e2 : (ev c (.const v)).f l tm = x := by
        show (match ofValue v with | some a => (⟨fun _ _ => a⟩ : EvR) | none => ⟨fun _ _ => undefA⟩).f l tm = x
        rw [hv]
      rw [e2]
      exact ⟨this.2, this.1.symm⟩
  refine ⟨⟨fun x hx => ?_⟩, ⟨fun x hx => ?_⟩⟩
  · cases x with
    | tmp t => exact (tmp t hx).1
    | const v => exact (const v hx).1
    | global g => cases hx
    | func f => exact ⟨trivial, trivial⟩
  · cases x with
    | tmp t => exact (tmp t hx).2
    | const v => exact (const v hx).2
    | global g => cases hx
    | func f => rfl
end Go.Vx
namespace Go.Vx
theorem EnvRel.grow {c : Cx} {N : Nat} {l : List AV} {tm : Tm} {m m' : Ren} {n n' : Nat} {a : Act} (h : EnvRel c N l tm m n a) (hag : m.agree m' n) (hn : n ≤ n') : EnvRel c N l tm m' n' a :=
  ⟨h.size, fun t ht => by rw [h.glb t ht, val_agree hag _ (h.twf.gets t)], h.twf.mono hn,
    fun i d v hd hv => by rw [h.loc i d v hd hv, val_agree hag v ((wfL_iff _ _).1 h.lwf v (List.mem_of_getElem? hv))], h.len, wfL_mono hn _ h.lwf⟩
end Go.Vx
namespace Go.Vx
theorem getD_set (arr : Array Value) (d t : Nat) (v : Value) (hd : d < arr.size) : (arr.setIfInBounds d v).getD t undef = if t = d then v else arr.getD t undef := by
  rw [Array.getD_eq_getD_getElem?, Array.getD_eq_getD_getElem?, Array.getElem?_setIfInBounds]
  by_cases h : d = t
  · subst h; rw [if_pos rfl, if_pos rfl, if_pos hd]; rfl
  · rw [if_neg h, if_neg (fun e => h e.symm)]
theorem slotOf_none (c : Cx) (N : Nat) : slotOf c N none = .no := rfl
theorem slotOf_some (c : Cx) (N : Nat) (d : Nat) : slotOf c N (some d) = if d + 1 ≤ N then (match idxOf c.ds d 0 with | none => if bit c.G d = true then .glb d else .loc d | some _ => .bad) else .bad := by
  have e : slotOf c N (some d) = Bool.rec (motive := fun _ => Slot) .bad (Option.rec (motive := fun _ => Slot) (Bool.rec (motive := fun _ => Slot) (.loc d) (.glb d) (bit c.G d)) (fun _ => .bad) (idxOf c.ds d 0)) (Nat.ble (Nat.succ d) N) := rfl
  rw [e, recB, recO, recB]
  simp only [Nat.ble_eq, Nat.succ_eq_add_one]
  cases idxOf c.ds d 0 <;> rfl
theorem EnvRel.put {c : Cx} {N : Nat} {l : List AV} {tm : Tm} {m : Ren} {n : Nat} {a : Act} (h : EnvRel c N l tm m n a) {v : AV} (hv : v.wf n) (dst : Option Tmp) :
    match slotOf c N dst with
    | .no => EnvRel c N l tm m n (a.put dst (v.val m))
    | .loc d => EnvRel ⟨c.G, d :: c.ds⟩ N (v :: l) tm m n (a.put dst (v.val m))
    | .glb d => EnvRel c N l (tm.set d v) m n (a.put dst (v.val m))
    | .bad => True := by
  cases dst with
  | none => rw [slotOf_none]; exact h
  | some d =>
    rw [slotOf_some]
    by_cases hd : d + 1 ≤ N
    · rw [if_pos hd]
      cases hi : idxOf c.ds d 0 with
      | some i => trivial
      | none =>
        have hno := idxOf_none _ _ _ hi
        have hds : d < a.tmps.size := by rw [h.size]; exact Nat.lt_of_succ_le hd
        have hne : ∀ i d', c.ds[i]? = some d' → d' ≠ d := fun i d' h' e => hno (e ▸ List.mem_of_getElem? h')
        simp only
        by_cases hb : bit c.G d = true
        · rw [if_pos hb]
          refine ⟨by simp [Act.put, h.size], fun t ht => ?_, fun x y hy => ?_, fun i d' u hd' hu => ?_, h.len, h.lwf⟩
          · simp only [Act.put]
            rw [getD_set _ _ _ _ hds]
            unfold gets
            rw [get_set]
            by_cases e : t = d
            · rw [if_pos e, if_pos e]; rfl
            · rw [if_neg e, if_neg e]; exact h.glb t ht
          · rw [get_set] at hy
            split at hy
            · cases hy; exact hv
            · exact h.twf x y hy
          · simp only [Act.put]
            rw [getD_set _ _ _ _ hds, if_neg (hne i d' hd')]
            exact h.loc i d' u hd' hu
        · rw [if_neg hb]
          refine ⟨by simp [Act.put, h.size], fun t ht => ?_, h.twf, fun i d' u hd' hu => ?_, by simp [h.len], ⟨hv, h.lwf⟩⟩
          · simp only [Act.put]
            rw [getD_set _ _ _ _ hds, if_neg (by rintro rfl; exact hb ht)]
            exact h.glb t ht
          · simp only [Act.put]
            cases i with
            | zero =>
              simp only [List.getElem?_cons_zero, Option.some.injEq] at hd' hu
              subst hd'; subst hu
              rw [getD_set _ _ _ _ hds, if_pos rfl]
            | succ i =>
              rw [List.getElem?_cons_succ] at hd' hu
              rw [getD_set _ _ _ _ hds, if_neg (hne i d' hd')]
              exact h.loc i d' u hd' hu
    · rw [if_neg hd]; trivial
end Go.Vx
