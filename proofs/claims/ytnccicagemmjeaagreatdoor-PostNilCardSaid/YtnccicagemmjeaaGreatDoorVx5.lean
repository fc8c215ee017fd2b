/- The abstract executor: what its values and its heap stand for, and how the heap's turns are the machine's. -/
import Derived.Test.YtnccicagemmjeaaGreatDoorVx4
namespace Go.Vx
noncomputable section

/-! ### What values stand for -/
/-- where the abstract rows and objects lie; the numbers that are not known -/
structure Ren where
  blk : Nat → Nat
  sh : Nat → Nat
  cap : Nat → Nat
  ρ : Nat → Int

def SE.eval (ρ : Nat → Int) : SE → Int
  | .lit n => n
  | .var i => ρ i
  | .ar op k a b => ((arI op).f k (a.eval ρ) (b.eval ρ)).getD 0
  | .cv k a => wr k (a.eval ρ)
def Cap.val (n : Nat) : Cap → Nat
  | .exact k => k
  | .rest d => n - d
def NilK.val : NilK → Value
  | .p => .pointer none
  | .s => .slice none 0 0
  | .m => .map none
  | .f => .nilFunc
  | .i => .nilIface
def OAV.val (m : Ren) : OAV → Value
  | .yld l => .func (.yield (m.blk l)) #[] #[]
  | .emp b o d a z => .slice (some ⟨m.blk b, if m.cap b - d = a then m.sh b + o else m.sh b + o + a * z, none⟩) 0 (m.cap b - d - a)
def strV (l : List Nat) : Value := .string ⟨(l.map UInt8.ofNat).toArray⟩
mutual
def AV.val (m : Ren) : AV → Value
  | .bool b => .bool b
  | .int k n => .int k n
  | .sym k e => .int k (e.eval m.ρ)
  | .str l => strV l
  | .ptr b o => .pointer (some ⟨m.blk b, m.sh b + o, none⟩)
  | .slc b o n c => .slice (some ⟨m.blk b, m.sh b + o, none⟩) n (c.val (m.cap b))
  | .mp r => .map (some (m.blk r))
  | .fn f a b => .func f (valL m a).toArray (valL m b).toArray
  | .agg l => .agg (valL m l).toArray
  | .tup l => .tuple (valL m l).toArray
  | .ifc t v => .iface t (v.val m)
  | .nil k => k.val
  | .oth o => o.val m
def valL (m : Ren) : List AV → List Value
  | [] => []
  | v :: l => v.val m :: valL m l
 end
theorem valL_eq (m : Ren) (l : List AV) : valL m l = l.map (AV.val m) := by
  induction l with
  | nil => rfl
  | cons v l ih => simp [valL, ih]
theorem valL_len (m : Ren) (l : List AV) : (valL m l).length = l.length := by rw [valL_eq]; simp

mutual
/-- its names are below n; its bytes are bytes -/
def AV.wf (n : Nat) : AV → Prop
  | .str l => ∀ b ∈ l, b < 256
  | .ptr b _ => b < n
  | .slc b _ _ _ => b < n
  | .mp r => r < n
  | .fn _ a b => wfL n a ∧ wfL n b
  | .agg l => wfL n l
  | .tup l => wfL n l
  | .ifc _ v => v.wf n
  | .oth (.yld l) => l < n
  | .bool _ => True
  | .int _ _ => True
  | .sym _ _ => True
  | .nil _ => True
  | .oth (.emp b _ _ _ _) => b < n
def wfL (n : Nat) : List AV → Prop
  | [] => True
  | v :: l => v.wf n ∧ wfL n l
 end
theorem wfL_iff (n : Nat) (l : List AV) : wfL n l ↔ ∀ v ∈ l, v.wf n := by
  induction l with
  | nil => simp [wfL]
  | cons v l ih => simp [wfL, ih]
mutual
theorem AV.wf_mono {n n' : Nat} (h : n ≤ n') : ∀ v : AV, v.wf n → v.wf n'
  | .str _, hv => hv
  | .ptr _ _, hv => Nat.lt_of_lt_of_le hv h
  | .slc _ _ _ _, hv => Nat.lt_of_lt_of_le hv h
  | .mp _, hv => Nat.lt_of_lt_of_le hv h
  | .fn _ a b, hv => ⟨wfL_mono h a hv.1, wfL_mono h b hv.2⟩
  | .agg l, hv => wfL_mono h l hv
  | .tup l, hv => wfL_mono h l hv
  | .ifc _ v, hv => AV.wf_mono h v hv
  | .oth (.yld _), hv => Nat.lt_of_lt_of_le hv h
  | .bool _, _ => trivial
  | .int _ _, _ => trivial
  | .sym _ _, _ => trivial
  | .nil _, _ => trivial
  | .oth (.emp _ _ _ _ _), hv => Nat.lt_of_lt_of_le hv h
theorem wfL_mono {n n' : Nat} (h : n ≤ n') : ∀ l : List AV, wfL n l → wfL n' l
  | [], _ => trivial
  | v :: l, hv => ⟨AV.wf_mono h v hv.1, wfL_mono h l hv.2⟩
 end
/-- two that name alike below n -/
structure Ren.agree (m m' : Ren) (n : Nat) : Prop where
  blk : ∀ b, b < n → m'.blk b = m.blk b
  sh : ∀ b, b < n → m'.sh b = m.sh b
  cap : ∀ b, b < n → m'.cap b = m.cap b
  ρ : m'.ρ = m.ρ
theorem Ren.agree.refl (m : Ren) (n : Nat) : m.agree m n := ⟨fun _ _ => rfl, fun _ _ => rfl, fun _ _ => rfl, rfl⟩
theorem Ren.agree.mono {m m' : Ren} {n n' : Nat} (h : m.agree m' n) (hn : n' ≤ n) : m.agree m' n' :=
  ⟨fun b hb => h.blk b (by omega), fun b hb => h.sh b (by omega), fun b hb => h.cap b (by omega), h.ρ⟩
theorem Ren.agree.trans {a b c : Ren} {n n' : Nat} (h : a.agree b n) (k : b.agree c n') (hn : n ≤ n') : a.agree c n :=
  ⟨fun x hx => (k.blk x (by omega)).trans (h.blk x hx), fun x hx => (k.sh x (by omega)).trans (h.sh x hx), fun x hx => (k.cap x (by omega)).trans (h.cap x hx), k.ρ.trans h.ρ⟩
mutual
theorem val_agree {m m' : Ren} {n : Nat} (h : m.agree m' n) : ∀ v : AV, v.wf n → v.val m' = v.val m
  | .str _, _ => rfl
  | .ptr b _, hv => by simp only [AV.val, h.blk b hv, h.sh b hv]
  | .slc b _ _ _, hv => by simp only [AV.val, h.blk b hv, h.sh b hv, h.cap b hv]
  | .mp r, hv => by simp only [AV.val, h.blk r hv]
  | .fn _ a b, hv => by simp only [AV.val, valL_agree h a hv.1, valL_agree h b hv.2]
  | .agg l, hv => by simp only [AV.val, valL_agree h l hv]
  | .tup l, hv => by simp only [AV.val, valL_agree h l hv]
  | .ifc _ v, hv => by simp only [AV.val, val_agree h v hv]
  | .oth (.yld l), hv => by simp only [AV.val, OAV.val, h.blk l hv]
  | .bool _, _ => rfl
  | .int _ _, _ => rfl
  | .sym _ _, _ => by simp only [AV.val, h.ρ]
  | .nil _, _ => rfl
  | .oth (.emp b _ _ _ _), hv => by simp only [AV.val, OAV.val, h.blk b hv, h.sh b hv, h.cap b hv]
theorem valL_agree {m m' : Ren} {n : Nat} (h : m.agree m' n) : ∀ l : List AV, wfL n l → valL m' l = valL m l
  | [], _ => rfl
  | v :: l, hv => by simp only [valL, val_agree h v hv.1, valL_agree h l hv.2]
 end

/-! ### What the heap stands for -/
def fzOk (fz : Nat × Nat) (n : Nat) : Prop := ∀ i, i < n → ¬ (fz.1 ≤ i ∧ i < fz.2)
def ME.ent (m : Ren) (e : ME) : MapEntry := { key := e.key.val m, val := e.val.val m, born := e.born }
def gets (t : Tm) (d : Nat) : AV := (t.get d).getD undefA
def TmWf (n : Nat) (t : Tm) : Prop := ∀ d v, t.get d = some v → v.wf n
theorem TmWf.gets {n : Nat} {t : Tm} (h : TmWf n t) (d : Nat) : (gets t d).wf n := by
  unfold Vx.gets
  cases hd : t.get d with
  | none => exact trivial
  | some v => exact h d v hd
theorem TmWf.mono {n n' : Nat} {t : Tm} (h : TmWf n t) (hn : n ≤ n') : TmWf n' t := fun d v hv => AV.wf_mono hn v (h d v hv)
structure LoopRel (m : Ren) (L : HLoop) (l : Loop) : Prop where
  state : l.state = L.state
  pending : l.pending = L.pending
  params : l.params = L.params
  assign : l.assign = L.assign
  body : l.body = L.body
  defers : l.defers = m.blk L.defers
  size : l.tmps.size = L.ntmps
  tmps : ∀ t, bit L.mask t = true → l.tmps.getD t undef = (gets L.tmps t).val m
def HO.rel (m : Ren) (h : Array Obj) (b : Nat) (o : HO) : Prop := match o with
  | .row cells es _ _ => ∃ c el fz, h[m.blk b]? = some (.cells c el fz) ∧ fzOk fz c.size ∧ m.sh b + m.cap b * es ≤ c.size ∧ cells.length ≤ m.cap b * es ∧
      ∀ i v, cells[i]? = some v → c[m.sh b + i]? = some (v.val m)
  | .mapo es clock => h[m.blk b]? = some (.map (es.map (ME.ent m)).toArray clock)
  | .mit r since seen last => m.sh b = 0 ∧ h[m.blk b]? = some (.mapIter (r.map m.blk) since seen.toArray last)
  | .lop L => ∃ l, h[m.blk b]? = some (.loop l) ∧ LoopRel m L l
  | .dfr => h[m.blk b]? = some (.deferred (some []))
  | .dead => True
def HO.live (o : HO) : Prop := match o with
  | .dead => False
  | _ => True
def HO.key (o : HO) : Option (Nat × Nat) := match o with
  | .row _ _ g p => some (g, p)
  | _ => none
def HO.wf (n : Nat) (o : HO) : Prop := match o with
  | .row cells _es g _ => wfL n cells ∧ scalars cells = true ∧ g < n
  | .mapo es _ => ∀ e ∈ es, e.key.wf n ∧ e.val.wf n
  | .mit r _ _ _ => ∀ x, r = some x → x < n
  | .lop L => TmWf n L.tmps ∧ L.defers < n
  | .dfr => True
  | .dead => True
theorem HO.wf_mono {n n' : Nat} (h : n ≤ n') (o : HO) (ho : o.wf n) : o.wf n' := by
  cases o with
  | row cells es g p => exact ⟨wfL_mono h _ ho.1, ho.2.1, Nat.lt_of_lt_of_le ho.2.2 h⟩
  | mapo es c => exact fun e he => ⟨AV.wf_mono h _ (ho e he).1, AV.wf_mono h _ (ho e he).2⟩
  | mit r s se l => exact fun x hx => Nat.lt_of_lt_of_le (ho x hx) h
  | lop L => exact ⟨ho.1.mono h, Nat.lt_of_lt_of_le ho.2 h⟩
  | dfr => trivial
  | dead => trivial
theorem HO.rel_lt {m : Ren} {h : Array Obj} {b : Nat} {o : HO} (hr : o.rel m h b) (hl : o.live) : m.blk b < h.size := by
  have key : ∀ x, h[m.blk b]? = some x → m.blk b < h.size := fun x hx => (Array.getElem?_eq_some_iff.1 hx).1
  cases o with
  | row cells es g p => obtain ⟨c, el, fz, hc, _⟩ := hr; exact key _ hc
  | mapo es c => exact key _ hr
  | mit r s se l => exact key _ hr.2
  | lop L => obtain ⟨l, hl, _⟩ := hr; exact key _ hl
  | dfr => exact key _ hr
  | dead => exact hl.elim
/-- an object's relation hangs on its own block, and on names below n -/
theorem HO.rel_ext {m m' : Ren} {h h' : Array Obj} {b n : Nat} {o : HO} (ho : o.wf n) (hb : b < n) (ha : m.agree m' n) (hh : o.live → h'[m.blk b]? = h[m.blk b]?) (hr : o.rel m h b) : o.rel m' h' b := by
  have eb := ha.blk b hb
  cases o with
  | row cells es g p =>
    obtain ⟨c, el, fz, hc, h1, h2, h3, h4⟩ := hr
    refine ⟨c, el, fz, by rw [eb, hh trivial]; exact hc, h1, by rw [ha.sh b hb, ha.cap b hb]; exact h2, by rw [ha.cap b hb]; exact h3, fun i v hv => ?_⟩
    rw [ha.sh b hb, val_agree ha v ((wfL_iff _ _).1 ho.1 v (List.mem_of_getElem? hv))]
    exact h4 i v hv
  | mapo es c =>
    have : es.map (ME.ent m') = es.map (ME.ent m) := List.map_congr_left fun e he => by
      unfold ME.ent; rw [val_agree ha _ (ho e he).1, val_agree ha _ (ho e he).2]
    have hr' : h[m.blk b]? = some (.map (es.map (ME.ent m)).toArray c) := hr
    show h'[m'.blk b]? = some (.map (es.map (ME.ent m')).toArray c)
    rw [eb, hh trivial, this]; exact hr'
  | mit r s se l =>
    have : r.map m'.blk = r.map m.blk := by
      cases r with
      | none => rfl
      | some x => simp [ha.blk x (ho x rfl)]
    have hr' : m.sh b = 0 ∧ h[m.blk b]? = some (.mapIter (r.map m.blk) s se.toArray l) := hr
    refine ⟨(ha.sh b hb).trans hr'.1, ?_⟩
    rw [eb, hh trivial, this]; exact hr'.2
  | lop L =>
    obtain ⟨l, hl, r⟩ := hr
    exact ⟨l, by rw [eb, hh trivial]; exact hl, r.state, r.pending, r.params, r.assign, r.body, by rw [ha.blk _ ho.2]; exact r.defers, r.size,
      fun t ht => by rw [val_agree ha _ (ho.1.gets t)]; exact r.tmps t ht⟩
  | dfr =>
    have hr' : h[m.blk b]? = some (.deferred (some [])) := hr
    show h'[m'.blk b]? = some (.deferred (some []))
    rw [eb, hh trivial]; exact hr'
  | dead => trivial

/-- may two objects lie in one block? rows of one group, where their places say so -/
def sepK (m : Ren) (b : Nat) (o : Option (Nat × Nat)) (b' : Nat) (o' : Option (Nat × Nat)) : Prop :=
  ∃ g p p', o = some (g, p) ∧ o' = some (g, p') ∧ m.sh b + p' = m.sh b' + p
theorem sepK.symm {m : Ren} {b b' : Nat} {o o' : Option (Nat × Nat)} (h : sepK m b o b' o') : sepK m b' o' b o := by
  obtain ⟨g, p, p', h1, h2, h3⟩ := h
  exact ⟨g, p', p, h2, h1, h3.symm⟩
def memG (gr : Tr (List Nat)) (g : Nat) : List Nat := (gr.get g).getD [g]
theorem members_eq (s : St) (g : Nat) : members s g = memG s.gr g := rfl

structure Rel (m : Ren) (s : St) (h : Array Obj) : Prop where
  obj : ∀ b o, s.hp.get b = some o → o.rel m h b
  lt : ∀ b o, s.hp.get b = some o → b < s.nx ∧ o.wf s.nx
  sep : ∀ b b' o o', b ≠ b' → s.hp.get b = some o → s.hp.get b' = some o' → o.live → o'.live → m.blk b = m.blk b' → sepK m b o.key b' o'.key
  mem : ∀ b o g p, s.hp.get b = some o → o.key = some (g, p) → b ∈ memG s.gr g
  gr : ∀ g, s.nx ≤ g → s.gr.get g = none
theorem Rel.same {m : Ren} {s s' : St} {h : Array Obj} (hR : Rel m s h) (h1 : s'.hp = s.hp) (h2 : s'.nx = s.nx) (h3 : s'.gr = s.gr) : Rel m s' h := by
  cases s; cases s'; simp only at h1 h2 h3; subst h1; subst h2; subst h3
  exact ⟨hR.obj, hR.lt, hR.sep, hR.mem, hR.gr⟩

/-- what stays: all that was no object's; the names -/
structure Grow (m : Ren) (s : St) (w : World) (m' : Ren) (s' : St) (w' : World) : Prop where
  agree : m.agree m' s.nx
  nx : s.nx ≤ s'.nx
  size : w.heap.size ≤ w'.heap.size
  frame : ∀ k, k < w.heap.size → (∀ b o, s.hp.get b = some o → o.live → m.blk b ≠ k) → w'.heap[k]? = w.heap[k]?
  img : ∀ b o, s'.hp.get b = some o → o.live → (∃ b0 o0, s.hp.get b0 = some o0 ∧ o0.live ∧ m.blk b0 = m'.blk b) ∨ w.heap.size ≤ m'.blk b
  os : w'.os = w.os
  tape : w'.tape = w.tape
  output : w'.output = w.output
theorem Grow.refl (m : Ren) (s : St) (w : World) : Grow m s w m s w :=
  ⟨.refl _ _, Nat.le_refl _, Nat.le_refl _, fun _ _ _ => rfl, fun b o h hl => .inl ⟨b, o, h, hl, rfl⟩, rfl, rfl, rfl⟩
theorem Grow.trans {m m' m'' : Ren} {s s' s'' : St} {w w' w'' : World} (a : Grow m s w m' s' w') (b : Grow m' s' w' m'' s'' w'') : Grow m s w m'' s'' w'' where
  agree := a.agree.trans b.agree a.nx
  nx := Nat.le_trans a.nx b.nx
  size := Nat.le_trans a.size b.size
  frame k hk hn := by
    rw [b.frame k (Nat.lt_of_lt_of_le hk a.size) fun x o hx hl e => ?_]
    · exact a.frame k hk hn
    · rcases a.img x o hx hl with ⟨b0, o0, h0, hl0, e0⟩ | h0
      · exact hn b0 o0 h0 hl0 (e0.trans e)
      · omega
  img x o hx hl := by
    rcases b.img x o hx hl with ⟨b0, o0, h0, hl0, e0⟩ | h0
    · rcases a.img b0 o0 h0 hl0 with ⟨b1, o1, h1, hl1, e1⟩ | h1
      · exact .inl ⟨b1, o1, h1, hl1, e1.trans e0⟩
      · exact .inr (by omega)
    · exact .inr (Nat.le_trans a.size h0)
  os := b.os.trans a.os
  tape := b.tape.trans a.tape
  output := b.output.trans a.output
/-- a draw, and nothing else; the list of marks may be another -/
theorem Grow.drew (m : Ren) (s s' : St) (w w' : World) (h : w'.heap = w.heap) (ho : w'.os = w.os) (ht : w'.tape = w.tape) (hu : w'.output = w.output) (h1 : s'.hp = s.hp) (h2 : s'.nx = s.nx) : Grow m s w m s' w' :=
  ⟨.refl _ _, by rw [h2]; exact Nat.le_refl _, by rw [h]; exact Nat.le_refl _, fun _ _ _ => by rw [h], fun b o h hl => .inl ⟨b, o, h1 ▸ h, hl, rfl⟩, ho, ht, hu⟩

/-! ### A new name -/
def Ren.add (m : Ren) (n blk sh cap : Nat) : Ren :=
  { blk := fun b => if b = n then blk else m.blk b, sh := fun b => if b = n then sh else m.sh b, cap := fun b => if b = n then cap else m.cap b, ρ := m.ρ }
theorem Ren.add_agree (m : Ren) (n blk sh cap : Nat) : m.agree (m.add n blk sh cap) n :=
  ⟨fun b hb => if_neg (by omega), fun b hb => if_neg (by omega), fun b hb => if_neg (by omega), rfl⟩
theorem Ren.add_blk (m : Ren) (n blk sh cap : Nat) : (m.add n blk sh cap).blk n = blk := if_pos rfl
theorem Ren.add_sh (m : Ren) (n blk sh cap : Nat) : (m.add n blk sh cap).sh n = sh := if_pos rfl
theorem Ren.add_cap (m : Ren) (n blk sh cap : Nat) : (m.add n blk sh cap).cap n = cap := if_pos rfl
theorem new_eq (s : St) (o : HO) : s.new o = (s.nx, ⟨s.hp.set s.nx o, s.nx + 1, s.gr, s.df⟩) := rfl

/-- a new name, for a place in a new block, or in one that is there -/
theorem rel_add {m : Ren} {s : St} {h h' : Array Obj} {o : HO} {k sh cap : Nat} {gr' : Tr (List Nat)} (hR : Rel m s h)
    (hwf : o.wf (s.nx + 1)) (hh : ∀ j, j < h.size → j ≠ k → h'[j]? = h[j]?)
    (hloc : ∀ b o1, s.hp.get b = some o1 → o1.live → m.blk b = k → o1.rel m h' b ∧ (o.live → sepK (m.add s.nx k sh cap) b o1.key s.nx o.key))
    (hr : o.rel (m.add s.nx k sh cap) h' s.nx)
    (hmem : ∀ g b, b ∈ memG s.gr g → b ∈ memG gr' g) (hnew : ∀ g p, o.key = some (g, p) → s.nx ∈ memG gr' g) (hgr : ∀ g, s.nx + 1 ≤ g → gr'.get g = none) (df : List Nat) :
    Rel (m.add s.nx k sh cap) ⟨s.hp.set s.nx o, s.nx + 1, gr', df⟩ h' := by
  have hag := m.add_agree s.nx k sh cap
  have hget : ∀ b o', (s.hp.set s.nx o).get b = some o' → (b = s.nx ∧ o' = o) ∨ (b ≠ s.nx ∧ s.hp.get b = some o') := fun b o' h => by
    by_cases e : b = s.nx
    · subst e; rw [get_set_self] at h; exact .inl ⟨rfl, (Option.some.inj h).symm⟩
    · rw [get_set_ne _ _ e] at h; exact .inr ⟨e, h⟩
  refine ⟨fun b o' hb => ?_, fun b o' hb => ?_, fun b b' o1 o2 hne h1 h2 hl1 hl2 he => ?_, fun b o' g p hb hg => ?_, hgr⟩
  · rcases hget b o' hb with ⟨rfl, rfl⟩ | ⟨hne, hb⟩
    · exact hr
    · have hlt := hR.lt b o' hb
      by_cases hl : o'.live
      · by_cases e : m.blk b = k
        · exact HO.rel_ext hlt.2 hlt.1 hag (fun _ => rfl) (hloc b o' hb hl e).1
        · exact HO.rel_ext hlt.2 hlt.1 hag (fun hl => hh _ (HO.rel_lt (hR.obj b o' hb) hl) e) (hR.obj b o' hb)
      · exact HO.rel_ext hlt.2 hlt.1 hag (fun hl' => absurd hl' hl) (hR.obj b o' hb)
  · rcases hget b o' hb with ⟨rfl, rfl⟩ | ⟨hne, hb⟩
    · exact ⟨Nat.lt_succ_self _, hwf⟩
    · exact ⟨Nat.lt_succ_of_lt (hR.lt b o' hb).1, HO.wf_mono (Nat.le_succ _) _ (hR.lt b o' hb).2⟩
  · rcases hget b o1 h1 with ⟨e1, e1'⟩ | ⟨hn1, k1⟩ <;> rcases hget b' o2 h2 with ⟨e2, e2'⟩ | ⟨hn2, k2⟩
    · exact absurd (e1.trans e2.symm) hne
    · subst e1; subst e1'
      rw [Ren.add_blk, hag.blk b' (hR.lt b' o2 k2).1] at he
      exact ((hloc b' o2 k2 hl2 he.symm).2 hl1).symm
    · subst e2; subst e2'
      rw [Ren.add_blk, hag.blk b (hR.lt b o1 k1).1] at he
      exact (hloc b o1 k1 hl1 he).2 hl2
    · rw [hag.blk b (hR.lt b o1 k1).1, hag.blk b' (hR.lt b' o2 k2).1] at he
      obtain ⟨g, p, p', e1, e2, e3⟩ := hR.sep b b' o1 o2 hne k1 k2 hl1 hl2 he
      exact ⟨g, p, p', e1, e2, by rw [hag.sh b (hR.lt b o1 k1).1, hag.sh b' (hR.lt b' o2 k2).1]; exact e3⟩
  · rcases hget b o' hb with ⟨rfl, rfl⟩ | ⟨hne, hb⟩
    · exact hnew g p hg
    · exact hmem g b (hR.mem b o' g p hb hg)
theorem ext_add {m : Ren} {s : St} {w w' : World} {o : HO} {k sh cap : Nat} {gr' : Tr (List Nat)} {df : List Nat} (hs : w.heap.size ≤ w'.heap.size) (hh : ∀ j, j < w.heap.size → j ≠ k → w'.heap[j]? = w.heap[j]?)
    (hk : (∃ b0 o0, s.hp.get b0 = some o0 ∧ o0.live ∧ m.blk b0 = k) ∨ w.heap.size ≤ k) (hlt : ∀ b o, s.hp.get b = some o → b < s.nx) (ho : w'.os = w.os) (ht : w'.tape = w.tape) (hu : w'.output = w.output) :
    Grow m s w (m.add s.nx k sh cap) ⟨s.hp.set s.nx o, s.nx + 1, gr', df⟩ w' := by
  have hag := m.add_agree s.nx k sh cap
  refine ⟨hag, Nat.le_succ _, hs, fun j hj hn => hh j hj ?_, fun b o' hb hl => ?_, ho, ht, hu⟩
  · rintro rfl
    rcases hk with ⟨b0, o0, h0, hl0, e0⟩ | hk
    · exact hn b0 o0 h0 hl0 e0
    · omega
  · by_cases e : b = s.nx
    · subst e; rw [Ren.add_blk]; exact hk
    · have hb' : s.hp.get b = some o' := by have := hb; simp only at this; rwa [get_set_ne _ _ e] at this
      exact .inl ⟨b, o', hb', hl, (hag.blk b (hlt b o' hb')).symm⟩

/-- a new object in a new block -/
theorem rel_new {m : Ren} {s : St} {w w' : World} {o : HO} {O : Obj} {c : Nat} (hR : Rel m s w.heap) (hw : w'.heap = w.heap.push O) (ho : w'.os = w.os) (ht : w'.tape = w.tape) (hu : w'.output = w.output)
    (hwf : o.wf (s.nx + 1)) (hg : ∀ g p, o.key = some (g, p) → g = s.nx) (hr : o.rel (m.add s.nx w.heap.size 0 c) w'.heap s.nx) :
    Rel (m.add s.nx w.heap.size 0 c) (s.new o).2 w'.heap ∧ Grow m s w (m.add s.nx w.heap.size 0 c) (s.new o).2 w' := by
  have hold : ∀ j, j < w.heap.size → j ≠ w.heap.size → w'.heap[j]? = w.heap[j]? := fun k hk _ => by rw [hw, Array.getElem?_push, if_neg (by omega)]
  rw [new_eq]
  refine ⟨rel_add hR hwf hold (fun b o1 hb hl e => ?_) hr (fun _ _ h => h) (fun g p hk => ?_) (fun g hge => hR.gr g (by omega)) _,
    ext_add (by rw [hw]; simp) hold (.inr (Nat.le_refl _)) (fun b o h => (hR.lt b o h).1) ho ht hu⟩
  · have := HO.rel_lt (hR.obj b o1 hb) hl; omega
  · rw [hg g p hk]; unfold memG; rw [hR.gr _ (Nat.le_refl _)]; simp

/-! ### Striking, changing -/
theorem rel_kill {m : Ren} {s s' : St} {h : Array Obj} (hR : Rel m s h) (hk : ∀ b, s'.hp.get b = s.hp.get b ∨ s'.hp.get b = some .dead ∧ ∃ o, s.hp.get b = some o) (h2 : s'.nx = s.nx) (h3 : s'.gr = s.gr) : Rel m s' h := by
  have hlive : ∀ b o, s'.hp.get b = some o → s.hp.get b = some o ∨ o = .dead := fun b o hb => by
    rcases hk b with e | ⟨e, _⟩
    · exact .inl (e ▸ hb)
    · exact .inr (Option.some.inj (hb.symm.trans e))
  refine ⟨fun b o hb => ?_, fun b o hb => ?_, fun b b' o o' hne hb hb' hl hl' he => ?_, fun b o g p hb hg => ?_, fun g hg => by rw [h3]; exact hR.gr g (h2 ▸ hg)⟩
  · rcases hlive b o hb with hb | rfl
    · exact hR.obj b o hb
    · trivial
  · rw [h2]
    rcases hk b with e | ⟨e, o0, h0⟩
    · exact hR.lt b o (e ▸ hb)
    · rw [Option.some.inj (hb.symm.trans e)]; exact ⟨(hR.lt b o0 h0).1, trivial⟩
  · rcases hlive b o hb with hb | rfl
    · rcases hlive b' o' hb' with hb' | rfl
      · exact hR.sep b b' o o' hne hb hb' hl hl' he
      · exact hl'.elim
    · exact hl.elim
  · rw [h3]
    rcases hlive b o hb with hb | rfl
    · exact hR.mem b o g p hb hg
    · cases hg
theorem ext_kill {m : Ren} {s s' : St} {w : World} (hk : ∀ b, s'.hp.get b = s.hp.get b ∨ s'.hp.get b = some .dead ∧ ∃ o, s.hp.get b = some o) (h2 : s'.nx = s.nx) : Grow m s w m s' w := by
  refine ⟨.refl _ _, by rw [h2]; exact Nat.le_refl _, Nat.le_refl _, fun _ _ _ => rfl, fun b o hb hl => ?_, rfl, rfl, rfl⟩
  rcases hk b with e | ⟨e, _⟩
  · exact .inl ⟨b, o, e ▸ hb, hl, rfl⟩
  · rw [Option.some.inj (hb.symm.trans e)] at hl; exact hl.elim
/-- one object another -/
theorem rel_upd {m : Ren} {s s' : St} {h h' : Array Obj} {b : Nat} {o o' : HO} (hR : Rel m s h) (hb : s.hp.get b = some o) (hkey : o'.key = o.key) (hl : o.live) (hwf : o'.wf s.nx)
    (hh : ∀ j, j ≠ m.blk b → h'[j]? = h[j]?) (hloc : ∀ b' o1, b' ≠ b → s.hp.get b' = some o1 → o1.live → m.blk b' = m.blk b → o1.rel m h' b') (hr : o'.rel m h' b)
    (h1 : s'.hp = s.hp.set b o') (h2 : s'.nx = s.nx) (h3 : s'.gr = s.gr) : Rel m s' h' := by
  have hget : ∀ x o1, s'.hp.get x = some o1 → (x = b ∧ o1 = o') ∨ (x ≠ b ∧ s.hp.get x = some o1) := fun x o1 hx => by
    rw [h1] at hx
    by_cases e : x = b
    · subst e; rw [get_set_self] at hx; exact .inl ⟨rfl, (Option.some.inj hx).symm⟩
    · rw [get_set_ne _ _ e] at hx; exact .inr ⟨e, hx⟩
  refine ⟨fun x o1 hx => ?_, fun x o1 hx => ?_, fun x x' o1 o2 hne hx hx' hl1 hl2 he => ?_, fun x o1 g p hx hg => ?_, fun g hg => by rw [h3]; exact hR.gr g (h2 ▸ hg)⟩
  · rcases hget x o1 hx with ⟨rfl, rfl⟩ | ⟨hne, hx⟩
    · exact hr
    · by_cases e : m.blk x = m.blk b
      · by_cases hl1 : o1.live
        · exact hloc x o1 hne hx hl1 e
        · exact HO.rel_ext (hR.lt x o1 hx).2 (hR.lt x o1 hx).1 (.refl _ _) (fun h => absurd h hl1) (hR.obj x o1 hx)
      · exact HO.rel_ext (hR.lt x o1 hx).2 (hR.lt x o1 hx).1 (.refl _ _) (fun _ => hh _ e) (hR.obj x o1 hx)
  · rw [h2]
    rcases hget x o1 hx with ⟨rfl, rfl⟩ | ⟨hne, hx⟩
    · exact ⟨(hR.lt x o hb).1, hwf⟩
    · exact hR.lt x o1 hx
  · rcases hget x o1 hx with ⟨rfl, rfl⟩ | ⟨hn1, hx⟩ <;> rcases hget x' o2 hx' with ⟨rfl, rfl⟩ | ⟨hn2, hx'⟩
    · exact absurd rfl hne
    · rw [hkey]; exact hR.sep x x' o o2 hne hb hx' hl hl2 he
    · rw [hkey]; exact hR.sep x x' o1 o hne hx hb hl1 hl he
    · exact hR.sep x x' o1 o2 hne hx hx' hl1 hl2 he
  · rw [h3]
    rcases hget x o1 hx with ⟨rfl, rfl⟩ | ⟨hne, hx⟩
    · exact hR.mem x o g p hb (hkey ▸ hg)
    · exact hR.mem x o1 g p hx hg
theorem ext_upd {m : Ren} {s s' : St} {w w' : World} {b : Nat} {o o' : HO} (hb : s.hp.get b = some o) (hl : o.live) (hs : w'.heap.size = w.heap.size) (hh : ∀ j, j ≠ m.blk b → w'.heap[j]? = w.heap[j]?)
    (h1 : s'.hp = s.hp.set b o') (h2 : s'.nx = s.nx) (ho : w'.os = w.os) (ht : w'.tape = w.tape) (hu : w'.output = w.output) : Grow m s w m s' w' := by
  refine ⟨.refl _ _, by rw [h2]; exact Nat.le_refl _, by rw [hs]; exact Nat.le_refl _, fun k hk hn => hh k fun e => hn b o hb hl e.symm, fun x o1 hx hl1 => ?_, ho, ht, hu⟩
  rw [h1] at hx
  by_cases e : x = b
  · subst e; exact .inl ⟨x, o, hb, hl, rfl⟩
  · rw [get_set_ne _ _ e] at hx; exact .inl ⟨x, o1, hx, hl1, rfl⟩

/-! ### Who is struck -/
theorem beq_ne {a b : Nat} (h : a ≠ b) : Nat.beq a b = false := by
  cases e : Nat.beq a b
  · rfl
  · exact absurd (Nat.eq_of_beq_eq_true e) h
theorem killOne_get (me lo hi : Nat) (h : Tr HO) (b x : Nat) :
    (killOne me lo hi h b).get x = h.get x ∨ ((killOne me lo hi h b).get x = some .dead ∧ (∃ o, h.get x = some o) ∧ x ≠ me) := by
  unfold killOne
  by_cases e : b = me
  · subst e; rw [Nat.beq_refl]; exact .inl rfl
  · rw [beq_ne e]
    simp only [cond_false]
    split
    · rename_i cells _ _ pos hb
      cases (Nat.ble hi pos || Nat.ble (Nat.add pos (lenL cells)) lo)
      · simp only [cond_false]
        by_cases ex : x = b
        · subst ex; rw [get_set_self]; exact .inr ⟨rfl, ⟨_, hb⟩, e⟩
        · rw [get_set_ne _ _ ex]; exact .inl rfl
      · exact .inl rfl
    · exact .inl rfl
theorem killOne_row (me lo hi : Nat) (h : Tr HO) (b : Nat) (hb : b ≠ me) {cells : List AV} {es g pos : Nat} (hg : (killOne me lo hi h b).get b = some (.row cells es g pos)) : hi ≤ pos ∨ pos + cells.length ≤ lo := by
  unfold killOne at hg
  rw [beq_ne hb] at hg
  simp only [cond_false] at hg
  split at hg
  · rename_i cells' _ _ pos' hb'
    cases hc : (Nat.ble hi pos' || Nat.ble (Nat.add pos' (lenL cells')) lo)
    · rw [hc] at hg; simp only [cond_false] at hg; rw [get_set_self] at hg; cases hg
    · rw [hc] at hg
      simp only [cond_true] at hg
      rw [hb'] at hg
      cases hg
      rw [Bool.or_eq_true, Nat.ble_eq, Nat.ble_eq, lenL_eq] at hc
      exact hc
  · rename_i hno
    exact absurd hg (hno _ _ _ _)
theorem killAll_get (me lo hi : Nat) : ∀ (l : List Nat) (h : Tr HO) (x : Nat),
    (killAll me lo hi l h).get x = h.get x ∨ ((killAll me lo hi l h).get x = some .dead ∧ (∃ o, h.get x = some o) ∧ x ≠ me) := by
  intro l
  induction l with
  | nil => intro h x; exact .inl rfl
  | cons b l ih =>
    intro h x
    show (killAll me lo hi l (killOne me lo hi h b)).get x = _ ∨ (killAll me lo hi l (killOne me lo hi h b)).get x = _ ∧ _
    rcases ih (killOne me lo hi h b) x with e | ⟨e, ⟨o, ho⟩, hx⟩
    · rcases killOne_get me lo hi h b x with e1 | ⟨e1, h1, hx⟩
      · exact .inl (e.trans e1)
      · exact .inr ⟨e.trans e1, h1, hx⟩
    · rcases killOne_get me lo hi h b x with e1 | ⟨e1, h1, _⟩
      · exact .inr ⟨e, ⟨o, e1 ▸ ho⟩, hx⟩
      · exact .inr ⟨e, h1, hx⟩
theorem killAll_row (me lo hi : Nat) : ∀ (l : List Nat) (h : Tr HO) (b : Nat), b ∈ l → b ≠ me → ∀ {cells : List AV} {es g pos : Nat},
    (killAll me lo hi l h).get b = some (.row cells es g pos) → hi ≤ pos ∨ pos + cells.length ≤ lo := by
  intro l
  induction l with
  | nil => intro h b hb; cases hb
  | cons a l ih =>
    intro h b hb hme cells es g pos hg
    have hg : (killAll me lo hi l (killOne me lo hi h a)).get b = some (.row cells es g pos) := hg
    by_cases e : b ∈ l
    · exact ih _ b e hme hg
    · have : b = a := by rcases List.mem_cons.1 hb with h | h; exact h; exact absurd h e
      subst this
      rcases killAll_get me lo hi l (killOne me lo hi h b) b with e1 | ⟨e1, _⟩
      · rw [e1] at hg; exact killOne_row me lo hi h b hme hg
      · rw [e1] at hg; cases hg
theorem killAll_self (me lo hi : Nat) (l : List Nat) (h : Tr HO) : (killAll me lo hi l h).get me = h.get me := by
  rcases killAll_get me lo hi l h me with e | ⟨_, _, e⟩
  · exact e
  · exact absurd rfl e
 end
end Go.Vx
