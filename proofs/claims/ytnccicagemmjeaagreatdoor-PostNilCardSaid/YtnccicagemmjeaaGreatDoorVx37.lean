/- The abstract executor: a run in stages, from states that are written out. -/
import Derived.Test.YtnccicagemmjeaaGreatDoorVx36
namespace Go.Vx

/-! ### A body's statements -/
def rseq : List Code → Code → Code
  | [], r => r
  | c :: l, r => .seq c (rseq l r)
def spineN : Nat → Code → List Code × Code
  | 0, c => ([], c)
  | n + 1, c => match c with
    | .seq a b => match spineN n b with
      | (l, r) => (a :: l, r)
    | c => ([], c)
theorem spineN_eq : ∀ (n : Nat) (c : Code), rseq (spineN n c).1 (spineN n c).2 = c := by
  intro n
  induction n with
  | zero => intro c; rfl
  | succ n ih =>
    intro c
    cases c with
    | seq a b =>
      have := ih b
      show Code.seq a (rseq (spineN n b).1 (spineN n b).2) = _
      rw [this]
    | _ => rfl
noncomputable def runSeq (E : Env) (w : Way) (G N : Nat) (l : List Code) : Tm → St → Out :=
  List.rec (motive := fun _ => Tm → St → Out) (fun t s => .normal t s) (fun c _ ih t s => (cc E G N none c).f w t s ih) l
theorem runSeq_cons (E : Env) (w : Way) (G N : Nat) (c : Code) (l : List Code) (t : Tm) (s : St) : runSeq E w G N (c :: l) t s = (cc E G N none c).f w t s (runSeq E w G N l) := rfl
theorem runSeq_ok {E : Env} {way : Way} {G N : Nat} (hcc : ∀ c, RunOk E G N none c ((cc E G N none c).f way)) {c : Code} {n : Nat} {Q : Exit → Act → World → Prop} {t1 : Tm} {s1 : St} : ∀ (l : List Code) (t : Tm) (s : St), runSeq E way G N l t s = .normal t1 s1 →
    ∀ m w a, Fr E ⟨G, []⟩ N [] t s m a w → (∀ m' a' w', Fr E ⟨G, []⟩ N [] t1 s1 m' a' w' → Grow m s w m' s1 w' → c.wpIn (FW none) n E.P Q a' w') → (rseq l c).wpIn (FW none) n E.P Q a w := by
  intro l
  induction l with
  | nil => intro t s h m w a hF K; cases h; exact K m a w hF (.refl _ _ _)
  | cons x l ih =>
    intro t s h m w a hF K
    rw [runSeq_cons] at h
    refine wpIn_seq (wpIn_mono (hcc x t s _ (by rw [h]; intro h; cases h) m w a n hF (fun l0 h => by cases h)) fun e a' w' hq => ?_)
    rw [h] at hq
    obtain ⟨t', s', m', hF', hG, hr⟩ := hq
    cases e with
    | normal =>
      have hr : Out.normal t1 s1 = runSeq E way G N l t' s' := hr
      exact ih t' s' hr.symm m' w' a' hF' fun m2 a2 w2 hF2 hG2 => K m2 a2 w2 hF2 (hG.trans hG2)
    | exit id => cases hr
    | goto id => cases hr
    | ret => cases hr
    | panic ch => exact hr.elim
    | outgrown => exact hr.elim

/-! ### States that are written out -/
structure Lit where
  tm : List (Nat × AV)
  hp : List (Nat × HO)
  gr : List (Nat × List Nat)
  nx : Nat
noncomputable def mkS {α : Type} (l : List (Nat × α)) : Tr α := List.rec (motive := fun _ => Tr α) .nil (fun p _ ih => ih.set p.1 p.2) l
theorem mkS_mem {α : Type} : ∀ (l : List (Nat × α)) (b : Nat) (o : α), (mkS l).get b = some o → (b, o) ∈ l := by
  intro l
  induction l with
  | nil =>
    intro b o h
    have e : (mkS ([] : List (Nat × α))).get b = none := by show (Tr.nil : Tr α).get b = none; unfold Tr.get Tr.getF; rfl
    rw [e] at h; cases h
  | cons p l ih =>
    intro b o h
    have h : ((mkS l).set p.1 p.2).get b = some o := h
    rw [get_set] at h
    split at h
    · rename_i hb
      cases h
      rw [hb]; exact List.mem_cons_self
    · exact List.mem_cons_of_mem _ (ih b o h)
noncomputable def Lit.T (L : Lit) : Tm := mkS L.tm
noncomputable def Lit.S (L : Lit) : St := { hp := mkS L.hp, nx := L.nx, gr := mkS L.gr, df := [] }
def meL : List ME → List ME → Bool
  | [], [] => true
  | a :: l, b :: m => a.key.beq b.key && (a.val.beq b.val && (Nat.beq a.born b.born && meL l m))
  | _, _ => false
def hoBeq : HO → HO → Bool
  | .row c e g p, .row c' e' g' p' => avL c c' && (Nat.beq e e' && (Nat.beq g g' && Nat.beq p p'))
  | .mapo es k, .mapo es' k' => meL es es' && Nat.beq k k'
  | _, _ => false
theorem meL_eq : ∀ (a b : List ME), meL a b = true → a = b := by
  intro a
  induction a with
  | nil => intro b h; cases b with
    | nil => rfl
    | cons x b => cases h
  | cons x a ih =>
    intro b h
    cases b with
    | nil => cases h
    | cons y b =>
      have h : (x.key.beq y.key && (x.val.beq y.val && (Nat.beq x.born y.born && meL a b))) = true := h
      simp only [Bool.and_eq_true] at h
      obtain ⟨h1, h2, h3, h4⟩ := h
      rw [ih b h4]
      congr 1
      cases x; cases y
      simp only at h1 h2 h3
      rw [AV.beq_eq _ _ h1, AV.beq_eq _ _ h2, Nat.eq_of_beq_eq_true h3]
theorem hoBeq_eq {a b : HO} (h : hoBeq a b = true) : a = b := by
  cases a <;> cases b <;> try (cases h; done)
  · simp only [hoBeq, Bool.and_eq_true] at h
    rw [avL_eq _ _ h.1, Nat.eq_of_beq_eq_true h.2.1, Nat.eq_of_beq_eq_true h.2.2.1, Nat.eq_of_beq_eq_true h.2.2.2]
  · simp only [hoBeq, Bool.and_eq_true] at h
    rw [meL_eq _ _ h.1, Nat.eq_of_beq_eq_true h.2]
/-- one and the same, or a number that is known to be so -/
def eqv (E : Env) (x y : AV) : Bool := x.beq y || match x, y with
  | .sym k e, .int j n => eqK k j && match lookF E.facts e with
    | some (lo, hi) => ieq lo n && ieq hi n
    | none => false
  | .int j n, .sym k e => eqK k j && match lookF E.facts e with
    | some (lo, hi) => ieq lo n && ieq hi n
    | none => false
  | _, _ => false
def allN (p : Nat → Bool) : Nat → Bool
  | 0 => true
  | n + 1 => p n && allN p n
noncomputable def hpOk (s : St) (gr : Tr (List Nat)) : List (Nat × HO) → Bool
  | [] => true
  | p :: l => (match s.hp.get p.1 with
    | some o => hoBeq o p.2 && match p.2 with
      | .row _ _ g _ => memN p.1 (memG gr g)
      | _ => true
    | none => false) && hpOk s gr l
def grOk (n : Nat) : List (Nat × List Nat) → Bool
  | [] => true
  | p :: l => Nat.ble (Nat.succ p.1) n && grOk n l
noncomputable def litOk (E : Env) (N : Nat) (t : Tm) (s : St) (L : Lit) : Bool :=
  allN (fun i => eqv E (gets t i) (gets L.T i)) N && (hpOk s L.S.gr L.hp && (grOk L.nx L.gr && (Nat.ble s.nx L.nx && (allTm N L.tm && noDf s.df))))
  where
  allTm (N : Nat) : List (Nat × AV) → Bool
    | [] => true
    | p :: l => Nat.ble (Nat.succ p.1) N && allTm N l
  noDf : List Nat → Bool
    | [] => true
    | _ => false
theorem allN_eq {p : Nat → Bool} : ∀ {n : Nat}, allN p n = true → ∀ i, i < n → p i = true := by
  intro n
  induction n with
  | zero => intro _ i h; omega
  | succ n ih =>
    intro h i hi
    have h : (p n && allN p n) = true := h
    rw [Bool.and_eq_true] at h
    by_cases e : i = n
    · subst e; exact h.1
    · exact ih h.2 i (by omega)
theorem memN_mem : ∀ {l : List Nat} {n : Nat}, memN n l = true → n ∈ l := by
  intro l
  induction l with
  | nil => intro n h; cases h
  | cons a l ih =>
    intro n h
    have h : (Nat.beq n a || memN n l) = true := h
    rw [Bool.or_eq_true] at h
    rcases h with h | h
    · rw [Nat.eq_of_beq_eq_true h]; exact List.mem_cons_self
    · exact List.mem_cons_of_mem _ (ih h)
theorem hpOk_eq {s : St} {gr : Tr (List Nat)} : ∀ {l : List (Nat × HO)}, hpOk s gr l = true → ∀ p ∈ l, s.hp.get p.1 = some p.2 ∧ ∀ g q, p.2.key = some (g, q) → p.1 ∈ memG gr g := by
  intro l
  induction l with
  | nil => intro _ p h; cases h
  | cons x l ih =>
    intro h p hp
    have h : ((match s.hp.get x.1 with
      | some o => hoBeq o x.2 && match x.2 with
        | .row _ _ g _ => memN x.1 (memG gr g)
        | _ => true
      | none => false) && hpOk s gr l) = true := h
    rw [Bool.and_eq_true] at h
    rcases List.mem_cons.1 hp with rfl | hp
    · have h1 := h.1
      cases hg : s.hp.get p.1 with
      | none => rw [hg] at h1; cases h1
      | some o =>
        rw [hg] at h1
        simp only [Bool.and_eq_true] at h1
        refine ⟨by rw [hoBeq_eq h1.1], fun g q hk => ?_⟩
        have h2 := h1.2
        cases hp2 : p.2 with
        | row c e g' q' =>
          rw [hp2] at h2 hk
          cases hk
          exact memN_mem h2
        | _ => rw [hp2] at hk; cases hk
    · exact ih h.2 p hp
theorem ieq_of {a b : Int} (h : ieq a b = true) : a = b := by rw [ieq_eq] at h; simpa using h
theorem eqv_val {E : Env} {x y : AV} {m : Ren} {n : Nat} (h : eqv E x y = true) (hf : FactsOk E m.ρ) (hw : x.wf n) : y.val m = x.val m ∧ y.wf n := by
  unfold eqv at h
  rw [Bool.or_eq_true] at h
  rcases h with h | h
  · rw [AV.beq_eq _ _ h] at hw ⊢; exact ⟨rfl, hw⟩
  · have hm : ∀ (e : SE) (lo hi : Int) (l : List (SE × Int × Int)), lookF l e = some (lo, hi) → (e, lo, hi) ∈ l := by
      intro e lo hi l
      induction l with
      | nil => intro h; cases h
      | cons p l ih =>
        obtain ⟨a, b, c⟩ := p
        intro h
        have h : cond (a.beq e) (some (b, c)) (lookF l e) = some (lo, hi) := h
        cases hb : a.beq e with
        | true => rw [hb] at h; cases h; rw [SE.beq_eq _ _ hb]; exact List.mem_cons_self
        | false => rw [hb] at h; exact List.mem_cons_of_mem _ (ih h)
    split at h
    · rename_i k e j v
      rw [Bool.and_eq_true] at h
      obtain ⟨h1, h2⟩ := h
      split at h2
      · rename_i lo hi hl
        rw [Bool.and_eq_true] at h2
        have e1 := ieq_of h2.1
        have e2 := ieq_of h2.2
        have := hf e lo hi (hm _ _ _ _ hl)
        refine ⟨?_, trivial⟩
        simp only [AV.val]
        rw [eqK_eq h1]
        congr 1
        omega
      · cases h2
    · rename_i j v k e
      rw [Bool.and_eq_true] at h
      obtain ⟨h1, h2⟩ := h
      split at h2
      · rename_i lo hi hl
        rw [Bool.and_eq_true] at h2
        have e1 := ieq_of h2.1
        have e2 := ieq_of h2.2
        have := hf e lo hi (hm _ _ _ _ hl)
        refine ⟨?_, trivial⟩
        simp only [AV.val]
        rw [eqK_eq h1]
        congr 1
        omega
      · cases h2
    · cases h
theorem tm_lt : ∀ {N : Nat} {l : List (Nat × AV)}, litOk.allTm N l = true → ∀ p ∈ l, p.1 < N := by
  intro N l
  induction l with
  | nil => intro _ p h; cases h
  | cons x l ih =>
    intro h p hp
    have h : (Nat.ble (Nat.succ x.1) N && litOk.allTm N l) = true := h
    rw [Bool.and_eq_true] at h
    rcases List.mem_cons.1 hp with rfl | hp
    · exact Nat.le_of_ble_eq_true h.1
    · exact ih h.2 p hp
theorem lit_ok {E : Env} {G N : Nat} {t : Tm} {s : St} {L : Lit} (h : litOk E N t s L = true) {m0 m : Ren} {s0 : St} {a : Act} {w0 w : World} (hF : Fr E ⟨G, []⟩ N [] t s m a w) (hG : Grow m0 s0 w0 m s w) :
    Fr E ⟨G, []⟩ N [] L.T L.S m a w ∧ Grow m0 s0 w0 m L.S w := by
  unfold litOk at h
  simp only [Bool.and_eq_true] at h
  obtain ⟨h1, h2, h3, h4, h5, h6⟩ := h
  have hnx : s.nx ≤ L.nx := Nat.le_of_ble_eq_true h4
  have hsub : ∀ b o, L.S.hp.get b = some o → s.hp.get b = some o ∧ ∀ g q, o.key = some (g, q) → b ∈ memG L.S.gr g := fun b o hb => hpOk_eq h2 (b, o) (mkS_mem _ _ _ hb)
  have hR : Rel m L.S w.heap := by
    refine ⟨fun b o hb => hF.rel.obj b o (hsub b o hb).1, fun b o hb => ?_, fun b b' o o' hne hb hb' => hF.rel.sep b b' o o' hne (hsub b o hb).1 (hsub b' o' hb').1, fun b o g q hb hk => (hsub b o hb).2 g q hk, fun g hg => ?_⟩
    · have := hF.rel.lt b o (hsub b o hb).1
      exact ⟨Nat.lt_of_lt_of_le this.1 hnx, HO.wf_mono hnx _ this.2⟩
    · cases hgr : L.S.gr.get g with
      | none => rfl
      | some x =>
        have hm := mkS_mem _ _ _ hgr
        have : g < L.nx := by
          have key : ∀ l : List (Nat × List Nat), grOk L.nx l = true → ∀ p ∈ l, p.1 < L.nx := by
            intro l
            induction l with
            | nil => intro _ p h; cases h
            | cons y l ih =>
              intro h p hp
              have h : (Nat.ble (Nat.succ y.1) L.nx && grOk L.nx l) = true := h
              rw [Bool.and_eq_true] at h
              rcases List.mem_cons.1 hp with rfl | hp
              · exact Nat.le_of_ble_eq_true h.1
              · exact ih h.2 p hp
          exact key _ h3 _ hm
        have hg : L.nx ≤ g := hg
        omega
  have hval : ∀ i, (gets L.T i).wf L.nx ∧ (i < N → (gets L.T i).val m = (gets t i).val m) := by
    intro i
    by_cases hi : i < N
    · have := eqv_val (allN_eq h1 i hi) hF.facts (hF.env.twf.gets i)
      exact ⟨AV.wf_mono hnx _ this.2, fun _ => this.1⟩
    · refine ⟨?_, fun h => absurd h hi⟩
      unfold gets
      cases hg : L.T.get i with
      | none => exact trivial
      | some v => exact absurd (tm_lt h5 _ (mkS_mem _ _ _ hg)) hi
  refine ⟨⟨hR, hF.facts, ⟨hF.env.size, fun i hi => ?_, fun d v hd => ?_, fun i d v hd => (by cases hd), rfl, trivial⟩, ?_, fun d hd => by cases hd⟩, ⟨hG.agree, Nat.le_trans hG.nx hnx, hG.size, hG.frame, fun b o hb hl => hG.img b o (hsub b o hb).1 hl, hG.os, hG.tape, hG.output⟩⟩
  · by_cases hN : i < N
    · rw [(hval i).2 hN]; exact hF.env.glb i hi
    · have : gets L.T i = undefA := by
        unfold gets
        cases hg : L.T.get i with
        | none => rfl
        | some v => exact absurd (tm_lt h5 _ (mkS_mem _ _ _ hg)) hN
      rw [this, Array.getD_eq_getD_getElem?, Array.getElem?_eq_none (by rw [hF.env.size]; omega)]
      rfl
  · have := (hval d).1
    unfold gets at this
    rw [hd] at this
    exact this
  · rw [hF.df]
    cases hd : s.df with
    | nil => rfl
    | cons x l => rw [hd] at h6; cases h6

/-! ### Stages -/
/-- it returns true; nothing that was there is another -/
def RetTrue (w0 : World) : Ending → World → Prop := fun e w' => e = .returned (.bool true) ∧ (∀ k, k < w0.heap.size → w'.heap[k]? = w0.heap[k]?) ∧ w0.heap.size ≤ w'.heap.size ∧ w'.os = w0.os ∧ w'.tape = w0.tape ∧ w'.output = w0.output
def s00 : St := { hp := .nil, nx := 0, gr := .nil, df := [] }
/-- from this state, with these facts, the rest of the function comes to true -/
def Good0 (E : Env) (fn : Func) (G : Nat) (L : Lit) (c : Code) : Prop := ∀ (n : Nat) (m0 m : Ren) (a : Act) (w0 w : World), Fr E ⟨G, []⟩ fn.ntmps [] L.T L.S m a w → Grow m0 s00 w0 m L.S w →
  c.wpIn (FW none) n E.P (bodyPostM Fence.wide n E.P fn (RetTrue w0)) a w
noncomputable def stageOk (E : Env) (fuel : Nat) (fn : Func) (G : Nat) (l : List Code) (L L' : Lit) : Bool := match runSeq E (way E fuel) G fn.ntmps l L.T L.S with
  | .normal t s => litOk E fn.ntmps t s L'
  | _ => false
noncomputable def finOk (E : Env) (fuel : Nat) (fn : Func) (G : Nat) (c : Code) (L : Lit) : Bool := match leave (resL E G fn.results.toList) ((cc E G fn.ntmps none c).f (way E fuel) L.T L.S .normal) with
  | .ok v _ => AV.beq v (.bool true)
  | .fail => false
theorem leaves_ok {E : Env} (hE : EnvOk E) {fn : Func} {G : Nat} {t : Tm} {s s' : St} {v : AV} {m0 m : Ren} {a : Act} {w0 w : World} {n : Nat} (h : leaveF (resL E G fn.results.toList) t (takeMarks s.df s) = .ok v s') (hv : v = .bool true)
    (hF : Fr E ⟨G, []⟩ fn.ntmps [] t s m a w) (hG : Grow m0 s00 w0 m s w) : LeavesInM Fence.wide n E.P fn a.tmps (RetTrue w0) a.defers .returning w := by
  unfold leaveF at h
  rw [recO] at h
  cases htm : takeMarks s.df s with
  | none => rw [htm] at h; cases h
  | some s3 =>
    rw [htm] at h
    simp only at h
    rw [recO] at h
    cases hres : (resL E G fn.results.toList).f t s3 with
    | none => rw [hres] at h; cases h
    | some l =>
      rw [hres] at h
      simp only [CR.ok.injEq] at h
      rw [hF.df]
      refine takeMarks_ok hE _ _ _ _ htm hF.rel fun w3 hR3 hG3 hnx => ?_
      have henv : EnvRel ⟨G, []⟩ fn.ntmps [] t m s3.nx a := by rw [hnx]; exact hF.env
      obtain ⟨h1, _⟩ := run_results hE hR3 henv hres
      rw [h.1, hv] at h1
      have hGG := hG.trans hG3
      have hno : ∀ b o, s00.hp.get b = some o → False := by
        intro b o hb
        have e : s00.hp.get b = none := by show (Tr.nil : Tr HO).get b = none; unfold Tr.get Tr.getF; rfl
        rw [e] at hb; cases hb
      exact ⟨_, h1, rfl, fun k hk => hGG.frame k hk fun b o hb => (hno b o hb).elim, hGG.size, hGG.os, hGG.tape, hGG.output⟩
theorem good_fin0 {E : Env} (hE : EnvOk E) {fuel : Nat} {fn : Func} {G : Nat} {L : Lit} {c : Code} (h : finOk E fuel fn G c L = true) : Good0 E fn G L c := by
  intro n m0 m a w0 w hF hGr
  unfold finOk at h
  cases hl : leave (resL E G fn.results.toList) ((cc E G fn.ntmps none c).f (way E fuel) L.T L.S .normal) with
  | fail => rw [hl] at h; cases h
  | ok v s' =>
    rw [hl] at h
    have hv : v = .bool true := AV.beq_eq _ _ h
    have hne : (cc E G fn.ntmps none c).f (way E fuel) L.T L.S .normal ≠ .fail := fun e => by rw [e] at hl; cases hl
    refine wpIn_mono ((cc_runOk hE (drawOk hE) (way_ok hE (drawOk hE) fuel) G fn.ntmps none c).1 L.T L.S .normal hne m w a n hF (fun l0 h => by cases h)) fun e a' w' hq => ?_
    obtain ⟨t2, s2, m2, hF2, hG2, hr2⟩ := hq
    cases e with
    | normal =>
      have e : (cc E G fn.ntmps none c).f (way E fuel) L.T L.S .normal = .normal t2 s2 := hr2
      rw [e] at hl
      exact leaves_ok hE hl hv hF2 (hGr.trans hG2)
    | ret =>
      have e : (cc E G fn.ntmps none c).f (way E fuel) L.T L.S .normal = .ret t2 s2 := hr2
      rw [e] at hl
      exact leaves_ok hE hl hv hF2 (hGr.trans hG2)
    | exit id =>
      have e : (cc E G fn.ntmps none c).f (way E fuel) L.T L.S .normal = .exit id t2 s2 := hr2
      rw [e] at hl; cases hl
    | goto id =>
      have e : (cc E G fn.ntmps none c).f (way E fuel) L.T L.S .normal = .goto id t2 s2 := hr2
      rw [e] at hl; cases hl
    | panic ch => exact hr2.elim
    | outgrown => exact hr2.elim
/-- facts may be more, or others -/
def Env.with (E : Env) (fs : List (SE × Int × Int)) : Env := { E with facts := fs }
theorem with_ok {E : Env} (hE : EnvOk E) (fs : List (SE × Int × Int)) : EnvOk (E.with fs) := ⟨hE.T, hE.F, hE.ext, hE.mixed, hE.ret⟩
theorem Fr.to {E : Env} {fs fs' : List (SE × Int × Int)} {c : Cx} {N : Nat} {l : List AV} {tm : Tm} {s : St} {m : Ren} {a : Act} {w : World} (h : Fr (E.with fs) c N l tm s m a w) (hf : FactsOk (E.with fs') m.ρ) : Fr (E.with fs') c N l tm s m a w :=
  ⟨h.rel, hf, h.env, h.df, h.dfwf⟩
theorem facts_nil {E : Env} {ρ : Nat → Int} : FactsOk (E.with []) ρ := fun e lo hi h => by cases h
/-- from this state, where the unknown numbers are so, the rest of the function comes to true -/
def Good (E : Env) (X : (Nat → Int) → Prop) (fn : Func) (G : Nat) (L : Lit) (c : Code) : Prop := ∀ (n : Nat) (m0 m : Ren) (a : Act) (w0 w : World), X m.ρ → Fr (E.with []) ⟨G, []⟩ fn.ntmps [] L.T L.S m a w → Grow m0 s00 w0 m L.S w →
  c.wpIn (FW none) n E.P (bodyPostM Fence.wide n E.P fn (RetTrue w0)) a w
theorem good_stage {E : Env} (hE : EnvOk E) {X : (Nat → Int) → Prop} {fs : List (SE × Int × Int)} (hX : ∀ ρ, X ρ → FactsOk (E.with fs) ρ) {fuel : Nat} {fn : Func} {G k : Nat} {L L' : Lit} {c : Code} (h : stageOk (E.with fs) fuel fn G (spineN k c).1 L L' = true) (hG : Good E X fn G L' (spineN k c).2) : Good E X fn G L c := by
  intro n m0 m a w0 w hx hF hGr
  have hE' := with_ok hE fs
  unfold stageOk at h
  rw [← spineN_eq k c]
  cases hr : runSeq (E.with fs) (way (E.with fs) fuel) G fn.ntmps (spineN k c).1 L.T L.S with
  | normal t s =>
    rw [hr] at h
    have hF1 : Fr (E.with fs) ⟨G, []⟩ fn.ntmps [] L.T L.S m a w := hF.to (hX _ hx)
    refine runSeq_ok (E := E.with fs) (fun c => (cc_runOk hE' (drawOk hE') (way_ok hE' (drawOk hE') fuel) G fn.ntmps none c).1) _ _ _ hr m w a hF1 fun m' a' w' hF' hG' => ?_
    obtain ⟨h1, h2⟩ := lit_ok h hF' (hGr.trans hG')
    exact hG n m0 m' a' w0 w' (by rw [hG'.agree.ρ]; exact hx) (h1.to facts_nil) h2
  | _ => rw [hr] at h; cases h
theorem good_fin {E : Env} (hE : EnvOk E) {X : (Nat → Int) → Prop} {fs : List (SE × Int × Int)} (hX : ∀ ρ, X ρ → FactsOk (E.with fs) ρ) {fuel : Nat} {fn : Func} {G : Nat} {L : Lit} {c : Code} (h : finOk (E.with fs) fuel fn G c L = true) : Good E X fn G L c :=
  fun n m0 m a w0 w hx hF hGr => good_fin0 (with_ok hE fs) h n m0 m a w0 w (hF.to (hX _ hx)) hGr
/-- by cases -/
theorem good_or {E : Env} {X Y Z : (Nat → Int) → Prop} {fn : Func} {G : Nat} {L : Lit} {c : Code} (h : ∀ ρ, X ρ → Y ρ ∨ Z ρ) (hY : Good E Y fn G L c) (hZ : Good E Z fn G L c) : Good E X fn G L c := by
  intro n m0 m a w0 w hx hF hG
  rcases h _ hx with h | h
  · exact hY n m0 m a w0 w h hF hG
  · exact hZ n m0 m a w0 w h hF hG
/-- a whole call -/
theorem good_call {E : Env} (hE : EnvOk E) {X : (Nat → Int) → Prop} {fn : Func} {f : FuncId} {c : Code} {G : Nat} {L : Lit} (hf : E.P.funcs[f]? = some fn) (hb : fn.body = some c) {args : List AV} (hL : L.T = argTr args 0 .nil) (hS : L.S = s00) (hn : args.length ≤ fn.ntmps) (hG : Good E X fn G L c)
    (ρ : Nat → Int) (hx : X ρ) (hw : wfL 0 args) (w : World) : Calls E.P f (valL { blk := fun _ => 0, sh := fun _ => 0, cap := fun _ => 0, ρ := ρ } args).toArray w (RetTrue w) := by
  let m : Ren := { blk := fun _ => 0, sh := fun _ => 0, cap := fun _ => 0, ρ := ρ }
  have hR : Rel m s00 w.heap := by
    have hno : ∀ b o, s00.hp.get b = some o → False := by
      intro b o hb
      have e : s00.hp.get b = none := by show (Tr.nil : Tr HO).get b = none; unfold Tr.get Tr.getF; rfl
      rw [e] at hb; cases hb
    exact ⟨fun b o hb => (hno b o hb).elim, fun b o hb => (hno b o hb).elim, fun b b' o o' _ hb => (hno b o hb).elim, fun b o g p hb => (hno b o hb).elim, fun g _ => by show (Tr.nil : Tr (List Nat)).get g = none; unfold Tr.get Tr.getF; rfl⟩
  have hFr := enter_Fr (with_ok hE []) (G := G) (N := fn.ntmps) (args := args) (s := s00) (m := m) (w := w) hR facts_nil hw hn
  refine (callsIn_wide (n := 0)).1 (callsIn_of_wp_marks hf hb trivial (hG 0 m m _ w w hx ?_ ?_))
  · rw [hL, hS]; exact hFr
  · rw [hS]; exact .refl _ _ _
#print axioms good_call
end Go.Vx
