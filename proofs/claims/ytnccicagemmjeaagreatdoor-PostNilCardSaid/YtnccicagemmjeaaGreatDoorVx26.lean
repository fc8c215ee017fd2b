/- The abstract executor: code, but for ranges over functions and regions that draw their order. -/
import Derived.Test.YtnccicagemmjeaaGreatDoorVx25
namespace Go.Vx

/-- the way code is left, as the executor has it -/
def Out.is (r : Out) (k : Tm → St → Out) (t : Tm) (s : St) : Exit → Prop
  | .normal => r = k t s
  | .exit id => r = .exit id t s
  | .goto l => r = .goto l t s
  | .ret => r = .ret t s
  | .panic _ => False
  | .outgrown => False
def QO (E : Env) (G N : Nat) (k : Tm → St → Out) (r : Out) (m0 : Ren) (s0 : St) (w0 : World) : Exit → Act → World → Prop :=
  fun e a w => ∃ t s m, Fr E ⟨G, []⟩ N [] t s m a w ∧ Grow m0 s0 w0 m s w ∧ r.is k t s e
def RunOk (E : Env) (G N : Nat) (rd : Option Nat) (c : Code) (run : Tm → St → (Tm → St → Out) → Out) : Prop :=
  ∀ t s k, run t s k ≠ .fail → ∀ m w a n, Fr E ⟨G, []⟩ N [] t s m a w → (∀ l0, rd = some l0 → l0 < s.nx) → c.wpIn (FW (rd.map m.blk)) n E.P (QO E G N k (run t s k) m s w) a w
theorem rd_agree {m m' : Ren} {n : Nat} (h : m.agree m' n) {rd : Option Nat} (hrd : ∀ l0, rd = some l0 → l0 < n) : rd.map m'.blk = rd.map m.blk := by
  cases rd with
  | none => rfl
  | some l => simp [h.blk l (hrd l rfl)]
theorem runOk_fail {E : Env} {G N : Nat} {rd : Option Nat} {c : Code} {run : Tm → St → (Tm → St → Out) → Out} (h : ∀ t s k, run t s k = .fail) : RunOk E G N rd c run := fun t s k hr => absurd (h t s k) hr
theorem QO.mono {E : Env} {G N : Nat} {k k' : Tm → St → Out} {r r' : Out} {m0 m1 : Ren} {s0 s1 : St} {w0 w1 : World} {e : Exit} {a : Act} {w : World} (hG : Grow m0 s0 w0 m1 s1 w1) (hk : ∀ t s, r.is k t s e → r'.is k' t s e) (h : QO E G N k r m1 s1 w1 e a w) : QO E G N k' r' m0 s0 w0 e a w := by
  obtain ⟨t, s, m, hF, hG', hr⟩ := h
  exact ⟨t, s, m, hF, hG.trans hG', hk t s hr⟩
theorem runOk_seq {E : Env} {G N : Nat} {rd : Option Nat} {x y : Code} {rx ry : Tm → St → (Tm → St → Out) → Out} (hx : RunOk E G N rd x rx) (hy : RunOk E G N rd y ry) :
    RunOk E G N rd (.seq x y) fun t s k => rx t s fun t s => ry t s k := by
  intro t s k hr m w a n hF hrd
  refine wpIn_seq (wpIn_mono (hx t s _ hr m w a n hF hrd) fun e a' w' hq => ?_)
  cases e with
  | normal =>
    obtain ⟨t', s', m', hF', hG, hr'⟩ := hq
    have hr' : rx t s (fun t s => ry t s k) = ry t' s' k := hr'
    have h2 := hy t' s' k (by rw [← hr']; exact hr) m' w' a' n hF' (fun l0 h => Nat.lt_of_lt_of_le (hrd l0 h) hG.nx)
    rw [rd_agree hG.agree hrd] at h2
    exact wpIn_mono h2 fun e a w hq => QO.mono hG (fun t s h => by rw [← hr'] at h; exact h) hq
  | exit id => exact QO.mono (.refl _ _ _) (fun _ _ h => h) hq
  | goto l => exact QO.mono (.refl _ _ _) (fun _ _ h => h) hq
  | ret => exact QO.mono (.refl _ _ _) (fun _ _ h => h) hq
  | panic ch => exact QO.mono (.refl _ _ _) (fun _ _ h => h) hq
  | outgrown => exact QO.mono (.refl _ _ _) (fun _ _ h => h) hq
theorem blockO_eq (id : Nat) (r : Out) (k : Tm → St → Out) : blockO id r k = match r with
    | .normal t s => k t s
    | .exit i t s => if i = id then k t s else .exit i t s
    | r => r := by
  cases r <;> try rfl
  rename_i i t s
  show cond (Nat.beq i id) (k t s) (.exit i t s) = _
  by_cases h : i = id
  · subst h; simp
  · rw [beq_ne h]; simp [h]
theorem runOk_block {E : Env} {G N : Nat} {rd : Option Nat} {id : Nat} {x : Code} {rx : Tm → St → (Tm → St → Out) → Out} (hx : RunOk E G N rd x rx) :
    RunOk E G N rd (.block id x) fun t s k => blockO id (rx t s .normal) k := by
  intro t s k hr m w a n hF hrd
  simp only at hr
  have hne : rx t s .normal ≠ .fail := fun h => hr (by rw [h]; rfl)
  refine wpIn_block (wpIn_mono (hx t s _ hne m w a n hF hrd) fun e a' w' hq => ?_)
  have key : ∀ e' e'' : Exit, (∀ t' s', (rx t s .normal).is .normal t' s' e' → (blockO id (rx t s .normal) k).is k t' s' e'') → QO E G N .normal (rx t s .normal) m s w e' a' w' → QO E G N k (blockO id (rx t s .normal) k) m s w e'' a' w' := by
    rintro e' e'' he ⟨t', s', m', hF', hG, hr'⟩
    exact ⟨t', s', m', hF', hG, he t' s' hr'⟩
  cases e with
  | normal => exact key .normal .normal (fun t' s' h => by have h : rx t s .normal = .normal t' s' := h; show blockO _ _ _ = _; rw [h]; rfl) hq
  | exit i =>
    show if i = id then _ else _
    split
    · rename_i hi
      exact key (.exit i) .normal (fun t' s' h => by have h : rx t s .normal = .exit i t' s' := h; show blockO _ _ _ = _; rw [h, blockO_eq]; simp [hi]) hq
    · rename_i hi
      exact key (.exit i) (.exit i) (fun t' s' h => by have h : rx t s .normal = .exit i t' s' := h; show blockO _ _ _ = _; rw [h, blockO_eq]; simp [hi]) hq
  | goto l => exact key (.goto l) (.goto l) (fun t' s' h => by have h : rx t s .normal = .goto l t' s' := h; show blockO _ _ _ = _; rw [h]; rfl) hq
  | ret => exact key .ret .ret (fun t' s' h => by have h : rx t s .normal = .ret t' s' := h; show blockO _ _ _ = _; rw [h]; rfl) hq
  | panic ch => exact key (.panic ch) (.panic ch) (fun t' s' h => h) hq
  | outgrown => exact key .outgrown .outgrown (fun t' s' h => h) hq
theorem loopO_succ (b : Tm → St → (Tm → St → Out) → Out) (n : Nat) (t : Tm) (s : St) : loopO b (n + 1) t s = b t s (loopO b n) := rfl
theorem loopO_zero (b : Tm → St → (Tm → St → Out) → Out) (t : Tm) (s : St) : loopO b 0 t s = .fail := rfl
theorem wpIn_loopJ {F : Fence} {n : Nat} {P : Program} {c : Code} {Q : Exit → Act → World → Prop} (J : Nat → Act → World → Prop)
    (round : ∀ j a w, J j a w → ∃ j', j = j' + 1 ∧ c.wpIn F n P (Exit.then (J j') Q) a w) (j : Nat) (a : Act) (w : World) (h0 : J j a w) : (Code.loop c).wpIn F n P Q a w := by
  intro b k cs hro hb hr
  have key : ∀ j a w, J j a w → ∃ e a' w', Q e a' w' ∧ ArrivesIn (Machine.fenced P F) P (lone (b.atR a (.code c :: .inLoop c :: k)) cs w) b k cs e a' w' := by
    intro j
    induction j with
    | zero => intro a w h; obtain ⟨j', hj, _⟩ := round 0 a w h; cases hj
    | succ j ih =>
      intro a w h
      obtain ⟨j', hj, h⟩ := round _ a w h
      cases hj
      obtain ⟨e, a₁, w₁, hq, harr⟩ := h b (.inLoop c :: k) cs hro hb hr
      cases e with
      | normal =>
        obtain ⟨e₂, a₂, w₂, hq₂, harr₂⟩ := ih a₁ w₁ hq
        exact ⟨e₂, a₂, w₂, hq₂, .of_steps (StepsIn.trans harr (.one (fenced_calm hb hr rfl) stepR_inLoop)) harr₂⟩
      | exit id => exact ⟨_, a₁, w₁, hq, .pass (x := .inLoop c) rfl (fun _ _ => .inl (by simp)) harr⟩
      | goto l => exact ⟨_, a₁, w₁, hq, .pass (x := .inLoop c) rfl (fun _ _ => .inl (by simp)) harr⟩
      | ret => exact ⟨_, a₁, w₁, hq, .pass (x := .inLoop c) rfl (fun _ _ => .inl (by simp)) harr⟩
      | panic ch => exact ⟨_, a₁, w₁, hq, .pass (x := .inLoop c) rfl (fun _ _ => .inl (by simp)) harr⟩
      | outgrown => exact ⟨_, a₁, w₁, hq, .pass (x := .inLoop c) rfl (fun _ _ => .inl (by simp)) harr⟩
  obtain ⟨e, a', w', hq, harr⟩ := key j a w h0
  exact ⟨e, a', w', hq, .of_steps (.one (fenced_calm hb hr rfl) stepR_loop) harr⟩
theorem runOk_loop {E : Env} {G N : Nat} {rd : Option Nat} {x : Code} {rx : Tm → St → (Tm → St → Out) → Out} (f : Nat) (hx : RunOk E G N rd x rx) :
    RunOk E G N rd (.loop x) fun t s _ => loopO rx f t s := by
  intro t s k hr m w a n hF hrd
  simp only at hr
  let J : Nat → Act → World → Prop := fun j a' w' => ∃ t' s' m', Fr E ⟨G, []⟩ N [] t' s' m' a' w' ∧ Grow m s w m' s' w' ∧ loopO rx f t s = loopO rx j t' s'
  refine wpIn_loopJ J ?_ f a w ⟨t, s, m, hF, .refl _ _ _, rfl⟩
  rintro j a' w' ⟨t', s', m', hF', hG, he⟩
  cases j with
  | zero => exact absurd (he.trans (loopO_zero _ _ _)) hr
  | succ j =>
    rw [loopO_succ] at he
    refine ⟨j, rfl, ?_⟩
    have h2 := hx t' s' (loopO rx j) (by rw [← he]; exact hr) m' w' a' n hF' (fun l0 h => Nat.lt_of_lt_of_le (hrd l0 h) hG.nx)
    rw [rd_agree hG.agree hrd] at h2
    refine wpIn_mono h2 fun e a2 w2 hq => ?_
    obtain ⟨t2, s2, m2, hF2, hG2, hr2⟩ := hq
    cases e with
    | normal => exact ⟨t2, s2, m2, hF2, hG.trans hG2, he.trans hr2⟩
    | exit i => exact ⟨t2, s2, m2, hF2, hG.trans hG2, he.trans hr2⟩
    | goto l => exact ⟨t2, s2, m2, hF2, hG.trans hG2, he.trans hr2⟩
    | ret => exact ⟨t2, s2, m2, hF2, hG.trans hG2, he.trans hr2⟩
    | panic ch => exact hr2.elim
    | outgrown => exact hr2.elim

/-! ### Scopes -/
section scope
variable {F : Fence} {n : Nat} {P : Program} {b : Frame} {a : Act} {k : List Item} {cs : List Frame} {w : World} {Q : Exit → Act → World → Prop}
theorem stepR_scope {c : Code} : step P (lone (b.atR a (.code (.scope c) :: k)) cs w) = .next (lone (b.atR a (.code c :: .inScope c :: k)) cs w) :=
  step_lone_go (by simp [Go.stepG, Go.stepG.exec, Frame.atR])
theorem stepR_inScope {c : Code} : step P (lone (b.atR a (.inScope c :: k)) cs w) = .next (lone (b.atR a k) cs w) :=
  step_lone_go (by simp [Go.stepG, Go.stepG.exec, Frame.atR])
/-- as Q; by a goto: so many passes are left -/
def Exit.left (J : Nat → Nat → Act → World → Prop) (j : Nat) (Q : Exit → Act → World → Prop) : Exit → Act → World → Prop
  | .goto l, a, w => J j l a w
  | e, a, w => Q e a w
theorem wpIn_scope {c : Code} (J : Nat → Nat → Act → World → Prop) (j0 : Nat) (first : c.wpIn F n P (Exit.left J j0 Q) a w)
    (pass : ∀ j l a w, J j l a w → (∃ j' rest, j = j' + 1 ∧ findLabel c l = some rest ∧ rest.wpIn F n P (Exit.left J j' Q) a w) ∨ (findLabel c l = none ∧ Q (.goto l) a w)) : (Code.scope c).wpIn F n P Q a w := by
  intro b k cs hro hb hr
  have out : ∀ j e a₁ w₁ (mm : Machine), Exit.left J j Q e a₁ w₁ → ArrivesIn (Machine.fenced P F) P mm b (.inScope c :: k) cs e a₁ w₁ →
      (∀ l a₂ w₂, J j l a₂ w₂ → ∀ mm, ArrivesIn (Machine.fenced P F) P mm b (.inScope c :: k) cs (.goto l) a₂ w₂ → ∃ e a' w', Q e a' w' ∧ ArrivesIn (Machine.fenced P F) P mm b k cs e a' w') →
      ∃ e a' w', Q e a' w' ∧ ArrivesIn (Machine.fenced P F) P mm b k cs e a' w' := by
    intro j e a₁ w₁ mm hq harr hgo
    cases e with
    | normal => exact ⟨.normal, a₁, w₁, hq, StepsIn.trans harr (.one (fenced_calm hb hr rfl) stepR_inScope)⟩
    | exit id =>
      have hx : exitTo id (.inScope c :: k) = exitTo id k := by simp [exitTo]
      exact ⟨.exit id, a₁, w₁, hq, fun k' hk => harr.1 k' (by rw [hx]; exact hk), fun hr' hk => harr.2 hr' (by rw [hx]; exact hk)⟩
    | goto l => exact hgo l a₁ w₁ hq mm harr
    | ret => exact ⟨_, a₁, w₁, hq, harr⟩
    | panic ch => exact ⟨_, a₁, w₁, hq, harr⟩
    | outgrown => exact ⟨_, a₁, w₁, hq, harr⟩
  have key : ∀ j l a₂ w₂, J j l a₂ w₂ → ∀ mm, ArrivesIn (Machine.fenced P F) P mm b (.inScope c :: k) cs (.goto l) a₂ w₂ → ∃ e a' w', Q e a' w' ∧ ArrivesIn (Machine.fenced P F) P mm b k cs e a' w' := by
    intro j
    induction j with
    | zero =>
      intro l a₂ w₂ hJ mm harr
      rcases pass 0 l a₂ w₂ hJ with ⟨j', rest, hj, _⟩ | ⟨hn, hq⟩
      · cases hj
      · have hx : gotoIn l (.inScope c :: k) = gotoIn l k := by simp [gotoIn, hn]
        exact ⟨.goto l, a₂, w₂, hq, fun k' hk => harr.1 k' (by rw [hx]; exact hk), fun hr' hk => harr.2 hr' (by rw [hx]; exact hk)⟩
    | succ j ih =>
      intro l a₂ w₂ hJ mm harr
      rcases pass (j + 1) l a₂ w₂ hJ with ⟨j', rest, hj, hf, hrest⟩ | ⟨hn, hq⟩
      · cases hj
        have hg : gotoIn l (.inScope c :: k) = some (.code rest :: .inScope c :: k) := by simp [gotoIn, hf]
        obtain ⟨e, a₃, w₃, hq, harr3⟩ := hrest b (.inScope c :: k) cs hro hb hr
        obtain ⟨e, a', w', hq', harr'⟩ := out j e a₃ w₃ _ hq harr3 ih
        exact ⟨e, a', w', hq', .of_steps (harr.1 _ hg) harr'⟩
      · have hx : gotoIn l (.inScope c :: k) = gotoIn l k := by simp [gotoIn, hn]
        exact ⟨.goto l, a₂, w₂, hq, fun k' hk => harr.1 k' (by rw [hx]; exact hk), fun hr' hk => harr.2 hr' (by rw [hx]; exact hk)⟩
  obtain ⟨e, a₁, w₁, hq, harr⟩ := first b (.inScope c :: k) cs hro hb hr
  obtain ⟨e, a', w', hq', harr'⟩ := out j0 e a₁ w₁ _ hq harr (key j0)
  exact ⟨e, a', w', hq', .of_steps (.one (fenced_calm hb hr rfl) stepR_scope) harr'⟩
end scope
def LabOk (E : Env) (G N : Nat) (rd : Option Nat) (way : Way) (c : Code) (lab : Nat → Option CRun) : Prop := ∀ l, match lab l, findLabel c l with
  | some r, some rest => RunOk E G N rd rest (r.f way)
  | none, none => True
  | _, _ => False
theorem scopeO_succ (lab : Nat → Option CRun) (way : Way) (k : Tm → St → Out) (n : Nat) (r : Out) : scopeO lab way k (n + 1) r = scopeK lab way k (scopeO lab way k n) r := rfl
theorem scopeO_zero (lab : Nat → Option CRun) (way : Way) (k : Tm → St → Out) (r : Out) : scopeO lab way k 0 r = .fail := rfl
theorem runOk_scope {E : Env} {G N : Nat} {rd : Option Nat} {way : Way} {x : Code} {rx : Tm → St → (Tm → St → Out) → Out} {lab : Nat → Option CRun} (f : Nat) (hx : RunOk E G N rd x rx) (hl : LabOk E G N rd way x lab) :
    RunOk E G N rd (.scope x) fun t s k => scopeO lab way k f (rx t s .normal) := by
  intro t s k hr m w a n hF hrd
  simp only at hr
  let R := scopeO lab way k f (rx t s .normal)
  let J : Nat → Nat → Act → World → Prop := fun j l a' w' => ∃ t' s' m', Fr E ⟨G, []⟩ N [] t' s' m' a' w' ∧ Grow m s w m' s' w' ∧ R = scopeO lab way k j (.goto l t' s')
  have out : ∀ j (r : Out) (m1 : Ren) (s1 : St) (w1 : World), Grow m s w m1 s1 w1 → R = scopeO lab way k j r → ∀ e a2 w2, QO E G N .normal r m1 s1 w1 e a2 w2 → Exit.left J j (QO E G N k R m s w) e a2 w2 := by
    rintro j r m1 s1 w1 hG1 hR e a2 w2 ⟨t2, s2, m2, hF2, hG2, hr2⟩
    have hj : ∃ j', j = j' + 1 := by
      cases j with
      | zero => exact absurd (hR.trans (scopeO_zero _ _ _ _)) hr
      | succ j => exact ⟨j, rfl⟩
    obtain ⟨j, rfl⟩ := hj
    cases e with
    | normal => exact ⟨t2, s2, m2, hF2, hG1.trans hG2, by have h : r = .normal t2 s2 := hr2; show R = _; rw [hR, h]; rfl⟩
    | exit id => exact ⟨t2, s2, m2, hF2, hG1.trans hG2, by have h : r = .exit id t2 s2 := hr2; show R = _; rw [hR, h]; rfl⟩
    | goto l => exact ⟨t2, s2, m2, hF2, hG1.trans hG2, by have h : r = .goto l t2 s2 := hr2; rw [hR, h]⟩
    | ret => exact ⟨t2, s2, m2, hF2, hG1.trans hG2, by have h : r = .ret t2 s2 := hr2; show R = _; rw [hR, h]; rfl⟩
    | panic ch => exact hr2.elim
    | outgrown => exact hr2.elim
  have hne : rx t s .normal ≠ .fail := fun h => hr (by rw [h]; cases f <;> rfl)
  refine wpIn_scope J f (wpIn_mono (hx t s _ hne m w a n hF hrd) (out f _ m s w (.refl _ _ _) rfl)) ?_
  rintro j l a2 w2 ⟨t2, s2, m2, hF2, hG2, hR⟩
  have hj : ∃ j', j = j' + 1 := by
    cases j with
    | zero => exact absurd (hR.trans (scopeO_zero _ _ _ _)) hr
    | succ j => exact ⟨j, rfl⟩
  obtain ⟨j, rfl⟩ := hj
  have hR' : R = match lab l with | some c => scopeO lab way k j (c.f way t2 s2 .normal) | none => .goto l t2 s2 := hR
  have hll := hl l
  cases hlab : lab l with
  | none =>
    rw [hlab] at hR' hll
    cases hfl : findLabel x l with
    | some rest => rw [hfl] at hll; exact hll.elim
    | none => exact .inr ⟨rfl, t2, s2, m2, hF2, hG2, hR'⟩
  | some c =>
    rw [hlab] at hR' hll
    cases hfl : findLabel x l with
    | none => rw [hfl] at hll; exact hll.elim
    | some rest =>
      rw [hfl] at hll
      have hne : c.f way t2 s2 .normal ≠ .fail := fun h => hr (by show R = _; rw [hR']; simp only; rw [h]; cases j <;> rfl)
      have h2 := hll t2 s2 .normal hne m2 w2 a2 n hF2 (fun l0 h => Nat.lt_of_lt_of_le (hrd l0 h) hG2.nx)
      rw [rd_agree hG2.agree hrd] at h2
      exact .inl ⟨j, rest, rfl, rfl, wpIn_mono h2 (out j _ m2 s2 w2 hG2 hR')⟩
end Go.Vx
