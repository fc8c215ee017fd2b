/- The abstract executor: what it is told is so; types, constants; operands. -/
import Derived.Test.YtnccicagemmjeaaGreatDoorVx6
namespace Go.Vx

/-- what an executor is told is so -/
structure EnvOk (E : Env) : Prop where
  T : ∀ t i, E.T.get t = some i → E.P.info? t = some i
  F : ∀ f fn, E.F.get f = some fn → E.P.funcs[f]? = some fn ∧ (fn.name == "runtime.NumGoroutine") = false
  ext : ∀ f fn, E.ext f = some .mapsClone → E.F.get f = some fn → fn.body = none → ∀ args w, (callFunc f args).run E.P w = ((Extern.MapsClone.clone args).run E.P w).andThen fun v w' => .ok (.value v) w'
  mixed : E.P.follows .mixedOrders = true
  ret : ∀ f b, E.ext f = some (.ret b) → ∀ m s w, Rel m s w.heap → ∀ n, CallsIn Fence.wide n E.P f #[] w fun e w' => e = .returned (.bool b) ∧ Rel m s w'.heap ∧ Grow m s w m s w'
/-- what is known of the unknown numbers is so -/
def FactsOk (E : Env) (ρ : Nat → Int) : Prop := ∀ e lo hi, (e, lo, hi) ∈ E.facts → lo ≤ e.eval ρ ∧ e.eval ρ ≤ hi

/-! ### Types -/
theorem undT_eq {E : Env} (hE : EnvOk E) {t : TypeId} {d : TypeDesc} (h : undT E.T t = some d) : E.P.underlying t = some d := by
  unfold undT at h
  rw [recO] at h
  cases ht : E.T.get t with
  | none => rw [ht] at h; cases h
  | some i =>
    rw [ht] at h
    have hi := hE.T t i ht
    unfold Program.underlying
    rw [hi]
    obtain ⟨desc, str, size, bytes, hp, al, fal, zero, comp, meths⟩ := i
    cases desc with
    | named nm u =>
      simp only at h ⊢
      rw [recO] at h
      cases hu : E.T.get u with
      | none => rw [hu] at h; cases h
      | some j =>
        rw [hu] at h
        rw [hE.T u j hu]
        simpa using h
    | _ => simpa using h
theorem sizeT_eq {E : Env} (hE : EnvOk E) {t : TypeId} {n : Nat} (h : sizeT E.T t = some n) : ∃ i, E.P.info? t = some i ∧ i.size = n := by
  unfold sizeT at h
  rw [recO] at h
  cases ht : E.T.get t with
  | none => rw [ht] at h; cases h
  | some i => rw [ht] at h; exact ⟨i, hE.T t i ht, by simpa using h⟩
theorem run_undT {E : Env} (hE : EnvOk E) {t : TypeId} {d : TypeDesc} (h : undT E.T t = some d) (w : World) : (underlying t).run E.P w = .ok d w := run_underlying (undT_eq hE h) w
theorem run_sizeT {E : Env} (hE : EnvOk E) {t : TypeId} {n : Nat} (h : sizeT E.T t = some n) (w : World) : (sizeOf t).run E.P w = .ok n w := by
  obtain ⟨i, hi, rfl⟩ := sizeT_eq hE h
  simp [sizeOf, typeInfo, hi]

/-! ### Constants -/
theorem bytes_back (s : ByteArray) : (⟨((s.data.toList.map fun b => b.toNat).map UInt8.ofNat).toArray⟩ : ByteArray) = s := by
  cases s with
  | mk d =>
    congr 1
    apply Array.ext'
    simp [List.map_map, Function.comp_def]
theorem ofScalar_val (m : Ren) (n : Nat) : ∀ (v : Value) (a : AV), ofScalar v = some a → a.val m = v ∧ a.wf n ∧ scalar a = true := by
  intro v a h
  cases v with
  | bool b => cases h; exact ⟨rfl, trivial, rfl⟩
  | int k x => cases h; exact ⟨rfl, trivial, rfl⟩
  | string s =>
    cases h
    refine ⟨?_, ?_, rfl⟩
    · show strV _ = _
      unfold strV
      rw [bytes_back]
    · intro b hb
      rw [List.mem_map] at hb
      obtain ⟨x, _, rfl⟩ := hb
      exact x.toNat_lt
  | pointer p => cases p with
    | none => cases h; exact ⟨rfl, trivial, rfl⟩
    | some _ => cases h
  | slice p l c =>
    cases p with
    | some _ => simp [ofScalar] at h
    | none =>
      cases l with
      | succ l => simp [ofScalar] at h
      | zero => cases c with
        | succ c => simp [ofScalar] at h
        | zero => cases h; exact ⟨rfl, trivial, rfl⟩
  | map p => cases p with
    | none => cases h; exact ⟨rfl, trivial, rfl⟩
    | some _ => cases h
  | nilFunc => cases h; exact ⟨rfl, trivial, rfl⟩
  | nilIface => cases h; exact ⟨rfl, trivial, rfl⟩
  | float k b => cases h
  | complex k a b => cases h
  | chan r => cases h
  | func f a b => cases h
  | iface t v => cases h
  | agg c => cases h
  | tuple c => cases h
theorem ofScalars_val (m : Ren) (n : Nat) : ∀ (l : List Value) (r : List AV), ofScalars l = some r → valL m r = l ∧ wfL n r ∧ scalars r = true := by
  intro l
  induction l with
  | nil => intro r h; cases h; exact ⟨rfl, trivial, rfl⟩
  | cons v l ih =>
    intro r h
    unfold ofScalars at h
    split at h
    · rename_i a m' ha hm
      cases h
      obtain ⟨h1, h2, h3⟩ := ofScalar_val m n v a ha
      obtain ⟨k1, k2, k3⟩ := ih _ hm
      exact ⟨by simp only [valL, h1, k1], ⟨h2, k2⟩, (scalars_cons _ _).2 ⟨h3, k3⟩⟩
    · cases h
theorem ofValue_val (m : Ren) (n : Nat) (v : Value) (a : AV) (h : ofValue v = some a) : a.val m = v ∧ a.wf n := by
  cases v with
  | agg c =>
    simp only [ofValue, Option.map_eq_some_iff] at h
    obtain ⟨r, hr, rfl⟩ := h
    obtain ⟨h1, h2, _⟩ := ofScalars_val m n _ _ hr
    exact ⟨by simp only [AV.val, h1], h2⟩
  | tuple c =>
    simp only [ofValue, Option.map_eq_some_iff] at h
    obtain ⟨r, hr, rfl⟩ := h
    obtain ⟨h1, h2, _⟩ := ofScalars_val m n _ _ hr
    exact ⟨by simp only [AV.val, h1], h2⟩
  | _ =>
    simp only [ofValue] at h
    have := ofScalar_val m n _ _ h
    exact ⟨this.1, this.2.1⟩
theorem zeroT_eq {E : Env} (hE : EnvOk E) {t : TypeId} {z : AV} (h : zeroT E.T t = some z) : ∃ i v, E.P.info? t = some i ∧ i.zero = some v ∧ ∀ m n, z.val m = v ∧ z.wf n := by
  unfold zeroT at h
  split at h
  · rename_i i hi
    split at h
    · rename_i v hv
      exact ⟨i, v, hE.T t i hi, hv, fun m n => ofValue_val m n v z h⟩
    · cases h
  · cases h
theorem run_zeroT {E : Env} (hE : EnvOk E) {t : TypeId} {z : AV} (h : zeroT E.T t = some z) (m : Ren) (w : World) : (zeroValue t).run E.P w = .ok (z.val m) w := by
  obtain ⟨i, v, hi, hv, hz⟩ := zeroT_eq hE h
  simp [zeroValue, typeInfo, hi, hv, (hz m 0).1]

/-! ### Operands -/
structure ArgsWf (c : Cx) (l : List AV) (tm : Tm) (n : Nat) : Prop where
  wf : ∀ x, okO c x = true → ((ev c x).f l tm).wf n
structure ArgsVal (c : Cx) (l : List AV) (tm : Tm) (m : Ren) (ρ : Operand → Value) : Prop where
  val : ∀ x, okO c x = true → ρ x = ((ev c x).f l tm).val m
theorem okOs_cons (c : Cx) (x : Operand) (l : List Operand) : okOs c (x :: l) = true ↔ okO c x = true ∧ okOs c l = true := by
  have e : okOs c (x :: l) = Bool.rec (motive := fun _ => Bool) false (okOs c l) (okO c x) := rfl
  rw [e]
  cases okO c x
  · exact ⟨fun h => (by cases h), fun h => (by cases h.1)⟩
  · exact ⟨fun h => ⟨rfl, h⟩, fun h => h.2⟩
theorem evL_cons (c : Cx) (x : Operand) (xs : List Operand) (l : List AV) (tm : Tm) : (evL c (x :: xs)).f l tm = (ev c x).f l tm :: (evL c xs).f l tm := rfl
theorem evL_val {c : Cx} {l : List AV} {tm : Tm} {m : Ren} {ρ : Operand → Value} (hv : ArgsVal c l tm m ρ) : ∀ xs : List Operand, okOs c xs = true → xs.map ρ = valL m ((evL c xs).f l tm) := by
  intro xs
  induction xs with
  | nil => intro _; rfl
  | cons x xs ih =>
    intro h
    obtain ⟨h1, h2⟩ := (okOs_cons c x xs).1 h
    rw [evL_cons, List.map_cons, hv.val x h1, ih h2]; rfl
theorem evL_wf {c : Cx} {l : List AV} {tm : Tm} {n : Nat} (hw : ArgsWf c l tm n) : ∀ xs : List Operand, okOs c xs = true → wfL n ((evL c xs).f l tm) := by
  intro xs
  induction xs with
  | nil => intro _; trivial
  | cons x xs ih =>
    intro h
    obtain ⟨h1, h2⟩ := (okOs_cons c x xs).1 h
    exact ⟨hw.wf x h1, ih h2⟩
end Go.Vx
