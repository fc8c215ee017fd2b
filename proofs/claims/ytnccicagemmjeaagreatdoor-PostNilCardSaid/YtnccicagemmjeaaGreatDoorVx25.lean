/- The abstract executor: regions that draw no order. -/
import Derived.Test.YtnccicagemmjeaaGreatDoorVx24
namespace Go.Vx

def markD (m : Ren) (d : Nat) : Deferred := { target := .collected (m.blk d), args := #[] }
/-- a frame's state, and the executor's -/
structure Fr (E : Env) (c : Cx) (N : Nat) (l : List AV) (tm : Tm) (s : St) (m : Ren) (a : Act) (w : World) : Prop where
  rel : Rel m s w.heap
  facts : FactsOk E m.ρ
  env : EnvRel c N l tm m s.nx a
  df : a.defers = s.df.map (markD m)
  dfwf : ∀ d ∈ s.df, d < s.nx
theorem put_defers (a : Act) (dst : Option Tmp) (v : Value) : (a.put dst v).defers = a.defers := by cases dst <;> rfl
theorem marks_agree {m m' : Ren} {n : Nat} (h : m.agree m' n) : ∀ l : List Nat, (∀ d ∈ l, d < n) → l.map (markD m') = l.map (markD m) := by
  intro l hl
  refine List.map_congr_left fun d hd => ?_
  unfold markD; rw [h.blk d (hl d hd)]
theorem Fr.locs {E : Env} {c : Cx} {N : Nat} {l : List AV} {tm : Tm} {s : St} {m : Ren} {a : Act} {w : World} (h : Fr E c N l tm s m a w) : Fr E ⟨c.G, []⟩ N [] tm s m a w :=
  ⟨h.rel, h.facts, ⟨h.env.size, h.env.glb, h.env.twf, fun i d v hd => (by cases hd), rfl, trivial⟩, h.df, h.dfwf⟩
theorem Fr.step {E : Env} {c : Cx} {N : Nat} {l : List AV} {tm : Tm} {s s' : St} {m m' : Ren} {a : Act} {w w' : World} (h : Fr E c N l tm s m a w) (hR : Rel m' s' w'.heap) (hG : Grow m s w m' s' w')
    {v : AV} (hv : v.wf s'.nx) (hdf : s'.df = s.df) (dst : Option Tmp) : match slotOf c N dst with
    | .no => Fr E c N l tm s' m' (a.put dst (v.val m')) w'
    | .loc d => Fr E ⟨c.G, d :: c.ds⟩ N (v :: l) tm s' m' (a.put dst (v.val m')) w'
    | .glb d => Fr E c N l (tm.set d v) s' m' (a.put dst (v.val m')) w'
    | .bad => True := by
  have h1 := (h.env.grow hG.agree hG.nx).put hv dst
  have hf : FactsOk E m'.ρ := by rw [hG.agree.ρ]; exact h.facts
  have hd : (a.put dst (v.val m')).defers = s'.df.map (markD m') := by rw [put_defers, h.df, hdf, marks_agree hG.agree _ h.dfwf]
  have hd2 : ∀ d ∈ s'.df, d < s'.nx := fun d hd => Nat.lt_of_lt_of_le (h.dfwf d (hdf ▸ hd)) hG.nx
  revert h1
  cases slotOf c N dst with
  | no => exact fun h1 => ⟨hR, hf, h1, hd, hd2⟩
  | loc d => exact fun h1 => ⟨hR, hf, h1, hd, hd2⟩
  | glb d => exact fun h1 => ⟨hR, hf, h1, hd, hd2⟩
  | bad => exact fun h1 => h1

theorem nth_array {α : Type} (xs : Array α) (i : Nat) : nth xs.toList i = xs[i]? := by rw [nth_eq]; simp
theorem yes_eq (m : Ren) (want : Bool) (v : AV) : yes want v = true ↔ v.val m = .bool want := by
  cases v with
  | bool b => simp only [yes, AV.val, Value.bool.injEq]; cases b <;> cases want <;> simp
  | nil k => cases k <;> simp [yes, AV.val, NilK.val]
  | oth o => cases o <;> simp [yes, AV.val, OAV.val]
  | _ => simp [yes, AV.val, strV]
theorem wanted_eq {c : Cx} {l : List AV} {tm : Tm} {m : Ren} {ops : List Oper} {o : Oper} {a : Act} (ha : ArgsVal c l tm m a.eval) (hg : okGuard c ops o = true) :
    Region.wanted o (yielded ops.toArray a.tmps) = (wantedA c ops o).f l tm := by
  unfold Region.wanted wantedA
  unfold okGuard at hg
  cases hgd : o.guard with
  | none => rfl
  | some jw =>
    obtain ⟨j, want⟩ := jw
    rw [hgd] at hg
    simp only at hg ⊢
    unfold yielded
    rw [List.getElem?_toArray, ← nth_eq]
    cases hj : nth ops j with
    | none => rfl
    | some p =>
      rw [hj] at hg
      simp only [Option.bind_some] at hg ⊢
      cases hd : p.dst with
      | none => rfl
      | some d =>
        rw [hd] at hg
        simp only [Option.bind_some] at hg ⊢
        have hv : a.tmps.getD d undef = ((ev c (.tmp d)).f l tm).val m := ha.val (.tmp d) hg
        rw [Array.getD_eq_getD_getElem?] at hv
        have key := yes_eq m want ((ev c (.tmp d)).f l tm)
        rw [← hv] at key
        cases ht : a.tmps[d]? with
        | none =>
          rw [ht] at key
          cases hy : yes want ((ev c (.tmp d)).f l tm) with
          | false => rfl
          | true => have := key.1 hy; cases this
        | some u =>
          rw [ht] at key
          simp only [Option.getD_some] at key
          cases hy : yes want ((ev c (.tmp d)).f l tm) with
          | true => rw [key.1 hy]; simp
          | false =>
            have : ¬ u = .bool want := fun e => by rw [key.2 e] at hy; cases hy
            cases u <;> simp
            rename_i b
            intro e; exact this (by rw [e])

/-- an operation of a region, asked for or not -/
theorem stepG_ok {E : Env} (hE : EnvOk E) {way : Way} (hW : WayOk E way) (c : Cx) (ops : List Oper) (o : Oper) (l : List AV) (tm : Tm) (s : St) (k : AV → St → Out) :
    (stepG E c ops o).f way l tm s k = .fail ∨ ∃ v s', (∀ k, (stepG E c ops o).f way l tm s k = k v s') ∧
      ∀ m w (a : Act) (ro : Option Nat) (n : Nat) (next : Act → World → Prop) (Q : Exit → Act → World → Prop), Rel m s w.heap → FactsOk E m.ρ → ArgsWf c l tm s.nx → ArgsVal c l tm m a.eval →
        (∀ m' w', Rel m' s' w'.heap → Grow m s w m' s' w' → v.wf s'.nx → s'.df = s.df → next (a.put o.dst (v.val m')) w') →
        if Region.wanted o (yielded ops.toArray a.tmps) = true then o.wpIn (FW ro) n E.P a w next Q else (∀ f, o.about E.P w a.eval = some f → (FW ro).fn f) ∧ next (a.put o.dst undef) w := by
  unfold stepG
  cases hok : (okOs c (opL o.op) && okGuard c ops o) with
  | false => exact .inl rfl
  | true =>
    rw [Bool.and_eq_true] at hok
    simp only [cond_true]
    have hop := op_wp hE c o.op o rfl hok.1 way hW l tm s k
    cases hgd : o.guard with
    | none =>
      simp only
      rcases hop with h | ⟨v, s', hk, H⟩
      · exact .inl h
      · refine .inr ⟨v, s', hk, fun m w a ro n next Q hR hf hw ha hnext => ?_⟩
        have : Region.wanted o (yielded ops.toArray a.tmps) = true := by unfold Region.wanted; rw [hgd]
        rw [if_pos this]
        exact H m w a ro n next Q hR hf hw ha hnext
    | some jw =>
      simp only
      cases hwant : (wantedA c ops o).f l tm with
      | true =>
        rcases hop with h | ⟨v, s', hk, H⟩
        · exact .inl h
        · refine .inr ⟨v, s', hk, fun m w a ro n next Q hR hf hw ha hnext => ?_⟩
          rw [if_pos (by rw [wanted_eq ha hok.2]; exact hwant)]
          exact H m w a ro n next Q hR hf hw ha hnext
      | false =>
        refine .inr ⟨undefA, s, fun k => rfl, fun m w a ro n next Q hR hf hw ha hnext => ?_⟩
        rw [if_neg (by rw [wanted_eq ha hok.2, hwant]; simp)]
        exact ⟨fun _ _ => trivial, hnext m w hR (.refl _ _ _) trivial rfl⟩

/-- a region that draws no order -/
theorem runAll_ok {E : Env} (hE : EnvOk E) {way : Way} (hW : WayOk E way) (N : Nat) (all : List Oper) : ∀ (l0 : List Oper) (i : Nat) (c : Cx) (lc : List AV) (tm : Tm) (s : St) (k : Tm → St → Out), all.drop i = l0 →
    (runAll E N all l0 c).f way lc tm s k = .fail ∨ ∀ m w (a : Act) (ro : Option Nat) (n : Nat) (Q : Exit → Act → World → Prop), Fr E c N lc tm s m a w →
      (∀ tm' s' m' w' a', (runAll E N all l0 c).f way lc tm s k = k tm' s' → Fr E ⟨c.G, []⟩ N [] tm' s' m' a' w' → Grow m s w m' s' w' → Q .normal a' w') →
      wpOpsIn (FW ro) n E.P all.toArray Q (List.range' i l0.length) a w := by
  intro l0
  induction l0 with
  | nil =>
    intro i c lc tm s k hd
    exact .inr fun m w a ro n Q hF hQ => hQ tm s m w a rfl hF.locs (.refl _ _ _)
  | cons o l0 ih =>
    intro i c lc tm s k hd
    have hi : all[i]? = some o := by
      have := congrArg (fun l => l[0]?) hd
      simpa using this
    have hd' : all.drop (i + 1) = l0 := by
      have := congrArg (fun l => l.drop 1) hd
      simpa [Nat.add_comm] using this
    have e : runAll E N all (o :: l0) c = runO (stepG E c all o) (slotOf c N o.dst) (runAll E N all l0 (cxOf c (slotOf c N o.dst))) := rfl
    rw [e]
    have next : ∀ (v : AV) (s' : St) (lc' : List AV) (tm' : Tm) (c' : Cx), c'.G = c.G →
        (∀ m w (a : Act), Fr E c N lc tm s m a w → ∀ m' w', Rel m' s' w'.heap → Grow m s w m' s' w' → v.wf s'.nx → s'.df = s.df → Fr E c' N lc' tm' s' m' (a.put o.dst (v.val m')) w') →
        (∀ m w (a : Act) (ro : Option Nat) (n : Nat) (next : Act → World → Prop) (Q : Exit → Act → World → Prop), Rel m s w.heap → FactsOk E m.ρ → ArgsWf c lc tm s.nx → ArgsVal c lc tm m a.eval →
          (∀ m' w', Rel m' s' w'.heap → Grow m s w m' s' w' → v.wf s'.nx → s'.df = s.df → next (a.put o.dst (v.val m')) w') →
          if Region.wanted o (yielded all.toArray a.tmps) = true then o.wpIn (FW ro) n E.P a w next Q else (∀ f, o.about E.P w a.eval = some f → (FW ro).fn f) ∧ next (a.put o.dst undef) w) →
        (runAll E N all l0 c').f way lc' tm' s' k = .fail ∨ ∀ m w (a : Act) (ro : Option Nat) (n : Nat) (Q : Exit → Act → World → Prop), Fr E c N lc tm s m a w →
          (∀ tm'' s'' m' w' a', (runAll E N all l0 c').f way lc' tm' s' k = k tm'' s'' → Fr E ⟨c.G, []⟩ N [] tm'' s'' m' a' w' → Grow m s w m' s'' w' → Q .normal a' w') →
          wpOpsIn (FW ro) n E.P all.toArray Q (List.range' i (l0.length + 1)) a w := by
      intro v s' lc' tm' c' hG hstep H
      rcases ih (i + 1) c' lc' tm' s' k hd' with h | h
      · exact .inl h
      · refine .inr fun m w a ro n Q hF hQ => ?_
        rw [List.range'_succ]
        show wpOpsIn (FW ro) n E.P all.toArray Q (i :: List.range' (i + 1) l0.length) a w
        unfold wpOpsIn
        rw [List.getElem?_toArray, hi]
        simp only
        have harg := hF.env.args
        exact H m w a ro n _ Q hF.rel hF.facts harg.1 harg.2 fun m' w' hR' hG' hv hdf =>
          h m' w' _ ro n Q (hstep m w a hF m' w' hR' hG' hv hdf) fun tm'' s'' m'' w'' a'' he hF'' hG'' => hQ tm'' s'' m'' w'' a'' he (hG ▸ hF'') (hG'.trans hG'')
    have hslot := fun (m : Ren) (w : World) (a : Act) (hF : Fr E c N lc tm s m a w) (v : AV) (s' : St) (m' : Ren) (w' : World) (hR : Rel m' s' w'.heap) (hG : Grow m s w m' s' w') (hv : v.wf s'.nx) (hdf : s'.df = s.df) => hF.step hR hG hv hdf o.dst
    cases hsl : slotOf c N o.dst with
    | bad => exact .inl rfl
    | no =>
      rw [hsl] at hslot
      have e2 : (runO (stepG E c all o) .no (runAll E N all l0 (cxOf c .no))).f way lc tm s k = (stepG E c all o).f way lc tm s fun _ s' => (runAll E N all l0 c).f way lc tm s' k := rfl
      rw [e2]
      rcases stepG_ok hE hW c all o lc tm s (fun _ s' => (runAll E N all l0 c).f way lc tm s' k) with h | ⟨v, s', hk, H⟩
      · exact .inl h
      · rw [hk]
        exact next v s' lc tm c rfl (fun m w a hF m' w' hR hG hv hdf => hslot m w a hF v s' m' w' hR hG hv hdf) H
    | loc d =>
      rw [hsl] at hslot
      have e2 : (runO (stepG E c all o) (.loc d) (runAll E N all l0 (cxOf c (.loc d)))).f way lc tm s k = (stepG E c all o).f way lc tm s fun v s' => (runAll E N all l0 ⟨c.G, d :: c.ds⟩).f way (v :: lc) tm s' k := rfl
      rw [e2]
      rcases stepG_ok hE hW c all o lc tm s (fun v s' => (runAll E N all l0 ⟨c.G, d :: c.ds⟩).f way (v :: lc) tm s' k) with h | ⟨v, s', hk, H⟩
      · exact .inl h
      · rw [hk]
        exact next v s' (v :: lc) tm ⟨c.G, d :: c.ds⟩ rfl (fun m w a hF m' w' hR hG hv hdf => hslot m w a hF v s' m' w' hR hG hv hdf) H
    | glb d =>
      rw [hsl] at hslot
      have e2 : (runO (stepG E c all o) (.glb d) (runAll E N all l0 (cxOf c (.glb d)))).f way lc tm s k = (stepG E c all o).f way lc tm s fun v s' => (runAll E N all l0 c).f way lc (tm.set d v) s' k := rfl
      rw [e2]
      rcases stepG_ok hE hW c all o lc tm s (fun v s' => (runAll E N all l0 c).f way lc (tm.set d v) s' k) with h | ⟨v, s', hk, H⟩
      · exact .inl h
      · rw [hk]
        exact next v s' lc (tm.set d v) c rfl (fun m w a hF m' w' hR hG hv hdf => hslot m w a hF v s' m' w' hR hG hv hdf) H
end Go.Vx
