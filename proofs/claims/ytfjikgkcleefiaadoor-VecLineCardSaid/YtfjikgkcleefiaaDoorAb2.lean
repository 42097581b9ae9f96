/- An abstract calculus over the model's weakest preconditions, part 2: abstract frames, one step, a list of steps, code, and calls. -/
import Derived.Test.YtfjikgkcleefiaaDoorAb1
namespace Go.Ab

structure AS where
  n : Nat
  slots : List (Nat × PV)
  H : List AObj
  ts : List Bool

def look : List (Nat × PV) → Nat → Option PV
  | [], _ => none
  | (t, p) :: r, s => bif Nat.beq t s then some p else look r s

def ofV : Value → PV
  | .bool b => .val (.bool b)
  | .int k n => .val (.int k n)
  | .string s => .val (.string s)
  | .pointer none => .val (.pointer none)
  | .nilFunc => .val .nilFunc
  | .nilIface => .val .nilIface
  | .map none => .val (.map none)
  | .slice none 0 0 => .tr 0 [] .full
  | .func (.func f) ⟨[]⟩ ⟨[]⟩ => .fn f []
  | .tuple ⟨[]⟩ => .tup []
  | _ => .dead

def AS.get (σ : AS) (t : Nat) : PV := bif Nat.blt t σ.n then (look σ.slots t).getD .dead else .dead

def AS.eval (σ : AS) : Operand → PV
  | .tmp t => σ.get t
  | .const v => ofV v
  | .global _ => .dead
  | .func f => .fn f []

def AS.put (σ : AS) (d : Option Nat) (p : PV) : AS :=
  match d with
  | some d => { σ with slots := (d, p) :: σ.slots }
  | none => σ

def SlotsR (w : World) (c : Cx) (σ : AS) (tmps : Array Value) : Prop :=
  tmps.size = σ.n ∧ ∀ t p, look σ.slots t = some p → t < σ.n → ∃ v, tmps[t]? = some v ∧ VR w c p v

def ObjC (w : World) (c : Cx) (b : Nat) : AObj → Prop
  | .row cs e => ∃ k vs fr, c.m[b]? = some (some k) ∧ w.heap[k]? = some (.cells vs e fr) ∧ nofz fr vs.size ∧ vs.size = cs.length ∧ Leafs cs ∧ VRs w c cs (fun i => vs[i]?)
  | .raw o => ∃ k, c.m[b]? = some (some k) ∧ w.heap[k]? = some o
  | .gone => c.m[b]? = some none

structure Good (w : World) (c : Cx) (H : List AObj) (ts : List Bool) : Prop where
  len : c.m.length = H.length
  inj : ∀ i j k : Nat, c.m[i]? = some (some k) → c.m[j]? = some (some k) → i = j
  obj : ∀ b o, H[b]? = some o → ObjC w c b o
  tl : c.T.length = ts.length
  tal : ∀ i : Nat, ts[i]? = some true → ∃ k j, c.T[i]? = some (some (k, j))
  tdead : ∀ i : Nat, ts[i]? = some false → c.T[i]? = some none
  tok : ∀ i k j : Nat, c.T[i]? = some (some (k, j)) → some k ∉ c.m ∧ ∃ vs e fr, w.heap[k]? = some (.cells vs e fr) ∧ nofz fr vs.size ∧ j ≤ vs.size
  tinj : ∀ i i' k j j' : Nat, c.T[i]? = some (some (k, j)) → c.T[i']? = some (some (k, j')) → i = i'
  okn : ∀ k e, w.heap.size ≤ k → c.ok k e
  okm : ∀ k e e', c.ok k e → e' ≤ e → c.ok k e'
  okt : ∀ i k j : Nat, c.T[i]? = some (some (k, j)) → ∀ e, c.ok k e

def RelC (w : World) (c : Cx) (σ : AS) (a : Act) : Prop := Good w c σ.H σ.ts ∧ SlotsR w c σ a.tmps

theorem ObjC.lt {w : World} {c : Cx} {H : List AObj} {ts : List Bool} (g : Good w c H ts) {b k : Nat} (h : c.m[b]? = some (some k)) : k < w.heap.size := by
  have hb : b < H.length := by
    rw [← g.len]; exact (List.getElem?_eq_some_iff.1 h).1
  have ho := g.obj b H[b] (List.getElem?_eq_getElem hb)
  have key : ∃ o, w.heap[k]? = some o := by
    generalize H[b] = o at ho
    cases o with
    | row cs e =>
      obtain ⟨k', vs, fr, h1, h2, _⟩ := ho
      rw [h] at h1; cases h1; exact ⟨_, h2⟩
    | raw o =>
      obtain ⟨k', h1, h2⟩ := ho
      rw [h] at h1; cases h1; exact ⟨_, h2⟩
    | gone => rw [ObjC, h] at ho; cases ho
  obtain ⟨o, ho⟩ := key
  exact (Array.getElem?_eq_some_iff.1 ho).1

theorem Good.mlt {w : World} {c : Cx} {H : List AObj} {ts : List Bool} (g : Good w c H ts) {k : Nat} (h : some k ∈ c.m) : k < w.heap.size := by
  obtain ⟨i, hi⟩ := List.mem_iff_getElem?.1 h
  exact ObjC.lt g hi

theorem Good.tlt {w : World} {c : Cx} {H : List AObj} {ts : List Bool} (g : Good w c H ts) {i k j : Nat} (h : c.T[i]? = some (some (k, j))) : k < w.heap.size := by
  obtain ⟨_, vs, e, fr, h1, _⟩ := g.tok i k j h
  exact (Array.getElem?_eq_some_iff.1 h1).1

/-- What grows without a turn in the abstract heap's own blocks stays good. -/
theorem Good.ext {w w' : World} {c : Cx} {H : List AObj} {ts : List Bool} (g : Good w c H ts) (x : Ext w c w' c)
    (hb : ∀ b k : Nat, c.m[b]? = some (some k) → w'.heap[k]? = w.heap[k]?) : Good w' c H ts where
  len := g.len
  inj := g.inj
  obj := fun b o h => by
    have ho := g.obj b o h
    cases o with
    | row cs e =>
      obtain ⟨k, vs, fr, h1, h2, hf, h3, hl, h4⟩ := ho
      exact ⟨k, vs, fr, h1, (hb b k h1).trans h2, hf, h3, hl, VRs.ext x cs (fun _ _ _ e => e) h4⟩
    | raw o =>
      obtain ⟨k, h1, h2⟩ := ho
      exact ⟨k, h1, (hb b k h1).trans h2⟩
    | gone => exact ho
  tl := g.tl
  tal := g.tal
  tdead := g.tdead
  tok := fun i k j h => by
    obtain ⟨h1, vs, e, fr, h2, h3⟩ := g.tok i k j h
    exact ⟨h1, vs, e, fr, ((x.stay i k j (List.getElem?_eq_some_iff.1 h).1 h).2).trans h2, h3⟩
  tinj := g.tinj
  okn := fun k e h => g.okn k e (Nat.le_trans x.size h)
  okm := g.okm
  okt := g.okt

theorem SlotsR.ext {w w' : World} {c c' : Cx} {σ : AS} {tmps : Array Value} (h : SlotsR w c σ tmps) (x : Ext w c w' c') : SlotsR w' c' σ tmps :=
  ⟨h.1, fun t p hl hn => let ⟨v, h1, h2⟩ := h.2 t p hl hn; ⟨v, h1, h2.ext x⟩⟩

theorem VR_dead {w : World} {c : Cx} (v : Value) : VR w c .dead v := by simp only [VR]
theorem VR_val {w : World} {c : Cx} {v : Value} (h : plain v = true) : VR w c (.val v) v := by simp only [VR]; exact ⟨trivial, h⟩

theorem VR_ofV {w : World} {c : Cx} (v : Value) : VR w c (ofV v) v := by
  unfold ofV
  split <;> first | (exact VR_val rfl) | (exact VR_dead _) | skip
  · simp only [VR]; exact .inl ⟨trivial, trivial, trivial, rfl⟩
  · simp only [VR]; exact ⟨#[], rfl, rfl, trivial⟩
  · simp only [VR]; exact ⟨#[], rfl, rfl, trivial⟩

theorem SlotsR.eval {w : World} {c : Cx} {σ : AS} {a : Act} (h : SlotsR w c σ a.tmps) (x : Operand) : VR w c (σ.eval x) (a.eval x) := by
  cases x with
  | tmp t =>
    simp only [AS.eval, AS.get, Act.eval]
    cases hb : Nat.blt t σ.n with
    | false => exact VR_dead _
    | true =>
      have hn : t < σ.n := Nat.blt_eq.mp hb
      simp only [cond_true]
      cases hl : look σ.slots t with
      | none => exact VR_dead _
      | some p =>
        obtain ⟨v, h1, h2⟩ := h.2 t p hl hn
        have : a.tmps.getD t undef = v := by simp [Array.getD_eq_getD_getElem?, h1]
        rw [this]; exact h2
  | const v => exact VR_ofV v
  | global g => exact VR_dead _
  | func f => simp only [AS.eval, Act.eval, VR]; exact ⟨#[], rfl, rfl, trivial⟩

theorem SlotsR.put {w : World} {c : Cx} {σ : AS} {a : Act} (h : SlotsR w c σ a.tmps) (d : Option Nat) {p : PV} {v : Value} (hv : VR w c p v) :
    SlotsR w c (σ.put d p) (a.put d v).tmps := by
  cases d with
  | none => exact h
  | some d =>
    refine ⟨by simp only [Act.put, AS.put, Array.size_setIfInBounds]; exact h.1, fun t q hl hn => ?_⟩
    simp only [AS.put, look] at hl hn
    simp only [Act.put]
    by_cases e : d = t
    · subst e
      simp only [Nat.beq_refl, cond_true, Option.some.injEq] at hl
      subst hl
      exact ⟨v, by rw [Array.getElem?_setIfInBounds_self_of_lt (by rw [h.1]; exact hn)], hv⟩
    · have hne : Nat.beq d t = false := by
        cases hb : Nat.beq d t with
        | false => rfl
        | true => exact absurd (Nat.eq_of_beq_eq_true hb) e
      rw [hne] at hl
      simp only [cond_false] at hl
      obtain ⟨u, h1, h2⟩ := h.2 t q hl hn
      exact ⟨u, by rw [Array.getElem?_setIfInBounds_ne e]; exact h1, h2⟩

/-- One quiet operation: it hands a value over; the abstract heap and the tokens stay. -/
def QStep (P : Program) (o : Oper) (σ : AS) (p : PV) : Prop :=
  ∀ c a w (K : Act → World → Prop) Q, RelC w c σ a →
    (∀ v w', VR w' c p v → Good w' c σ.H σ.ts → Ext w c w' c → K (a.put o.dst v) w') → o.wp P a w K Q

/-- One operation. -/
def Step (P : Program) (o : Oper) (σ : AS) (N : AS → Prop) : Prop :=
  ∀ c a w (K : Act → World → Prop) Q, RelC w c σ a →
    (∀ c' a' w' σ', N σ' → RelC w' c' σ' a' → Ext w c w' c' → a'.defers = a.defers → K a' w') → o.wp P a w K Q

theorem Act.put_defers' (a : Act) (d : Option Nat) (v : Value) : (a.put d v).defers = a.defers := by cases d <;> rfl

theorem QStep.step {P : Program} {o : Oper} {σ : AS} {p : PV} {N : AS → Prop} (h : QStep P o σ p) (hN : N (σ.put o.dst p)) : Step P o σ N := by
  intro c a w K Q hr hK
  refine h c a w K Q hr (fun v w' hv hg hx => hK c _ w' _ hN ⟨?_, ?_⟩ hx (Act.put_defers' _ _ _))
  · cases ho : o.dst <;> simpa [AS.put] using hg
  · exact (hr.2.ext hx).put o.dst hv

/-- A list of operations in their order; 'ops' is the whole region (for guards). -/
def guardOf (ops : Array Oper) (σ : AS) (o : Oper) : Option Bool :=
  match o.guard with
  | none => some true
  | some (j, want) =>
    match (ops[j]?).bind (·.dst) with
    | none => some false
    | some d => match σ.get d with
      | .val (.bool b) => some (b == want)
      | .tup _ => some false
      | _ => none

theorem VR_undef {w : World} {c : Cx} : VR w c (.tup []) undef := by
  simp only [VR]; exact ⟨#[], rfl, rfl, trivial⟩

theorem wanted_of_guardOf {w : World} {c : Cx} {σ : AS} {a : Act} {ops : Array Oper} {o : Oper} {g : Bool} (h : SlotsR w c σ a.tmps)
    (hg : guardOf ops σ o = some g) : Region.wanted o (yielded ops a.tmps) = g := by
  unfold guardOf at hg
  unfold Region.wanted yielded
  cases ho : o.guard with
  | none => rw [ho] at hg; cases hg; rfl
  | some jw =>
    obtain ⟨j, want⟩ := jw
    rw [ho] at hg
    simp only at hg ⊢
    cases hd : (ops[j]?).bind (·.dst) with
    | none =>
      rw [hd] at hg; cases hg
      rfl
    | some d =>
      rw [hd] at hg
      simp only [Option.bind_some] at hg ⊢
      have he := h.eval (.tmp d)
      simp only [AS.eval] at he
      cases hq : σ.get d <;> rw [hq] at hg <;> first | (cases hg; done) | skip
      case tup cs =>
        cases hg
        rw [hq] at he
        simp only [VR] at he
        obtain ⟨cv, he, _⟩ := he
        simp only [Act.eval, Array.getD_eq_getD_getElem?] at he
        cases hs : a.tmps[d]? with
        | none => simp
        | some u =>
          rw [hs] at he
          simp at he
          subst he
          simp
      rename_i v
      cases v <;> try (cases hg)
      rename_i b
      rw [hq] at he
      simp only [VR] at he
      have hdn : d < σ.n := by
        cases hb : Nat.blt d σ.n with
        | true => exact Nat.blt_eq.mp hb
        | false => simp [AS.get, hb] at hq
      have hs : a.tmps[d]? = some (.bool b) := by
        have hlt : d < a.tmps.size := by rw [h.1]; exact hdn
        have := he.1
        simp only [Act.eval, Array.getD_eq_getD_getElem?, Array.getElem?_eq_getElem hlt, Option.getD_some] at this
        rw [Array.getElem?_eq_getElem hlt, this]
      rw [hs]
      cases b <;> cases want <;> rfl

/-- Operations, one behind the other. -/
def Runs (P : Program) (ops : Array Oper) : List Nat → AS → (AS → Prop) → Prop
  | [], σ, N => N σ
  | i :: r, σ, N => ∃ o g, ops[i]? = some o ∧ guardOf ops σ o = some g ∧
      if g = true then Step P o σ (fun σ' => Runs P ops r σ' N) else Runs P ops r (σ.put o.dst (.tup [])) N

def AW (P : Program) (x : Code) (σ : AS) (Q : Exit → AS → Prop) : Prop :=
  ∀ c a w (Q' : Exit → Act → World → Prop), RelC w c σ a →
    (∀ e c' a' w' σ', Q e σ' → RelC w' c' σ' a' → Ext w c w' c' → a'.defers = a.defers → Q' e a' w') → x.wp P Q' a w

theorem Oper.wp_monoQ {P : Program} {o : Oper} {a : Act} {w : World} {K : Act → World → Prop} {Q : Exit → Act → World → Prop} (h : o.wp P a w K Q) :
    o.wp P a w K Q := h

theorem runs_sound {P : Program} {ops : Array Oper} {N : AS → Prop} (l : List Nat) : ∀ {σ : AS} {c : Cx} {a : Act} {w : World} {Q' : Exit → Act → World → Prop},
    Runs P ops l σ N → RelC w c σ a →
    (∀ c' a' w' σ', N σ' → RelC w' c' σ' a' → Ext w c w' c' → a'.defers = a.defers → Q' .normal a' w') → wpOps P ops Q' l a w := by
  induction l with
  | nil => exact fun h hr hK => hK _ _ _ _ h hr (Ext.refl _ _) rfl
  | cons i r ih =>
    intro σ c a w Q' h hr hK
    obtain ⟨o, g, ho, hg, h⟩ := h
    simp only [wpOps, ho]
    rw [wanted_of_guardOf hr.2 hg]
    cases g with
    | true =>
      simp only [if_true] at h ⊢
      refine .inl (h c a w _ Q' hr fun c' a' w' σ' hN hr' hx hd => ?_)
      exact ih hN hr' fun c2 a2 w2 σ2 hN2 hr2 hx2 hd2 => hK c2 a2 w2 σ2 hN2 hr2 (hx.trans hx2) (hd2.trans hd)
    | false =>
      simp only [Bool.false_eq_true, if_false] at h ⊢
      refine ih h ⟨?_, hr.2.put o.dst VR_undef⟩ fun c2 a2 w2 σ2 hN2 hr2 hx2 hd2 => hK c2 a2 w2 σ2 hN2 hr2 hx2 (hd2.trans (Act.put_defers' _ _ _))
      have := hr.1
      cases o.dst <;> simpa [AS.put] using this

def thn (N : AS → Prop) (Q : Exit → AS → Prop) : Exit → AS → Prop
  | .normal, σ => N σ
  | e, σ => Q e σ

theorem AW.mono {P : Program} {x : Code} {σ : AS} {Q R : Exit → AS → Prop} (h : AW P x σ Q) (hq : ∀ e σ, Q e σ → R e σ) : AW P x σ R :=
  fun c a w Q' hr hK => h c a w Q' hr fun e c' a' w' σ' hQ => hK e c' a' w' σ' (hq _ _ hQ)

theorem AW.seq {P : Program} {x y : Code} {σ : AS} {Q : Exit → AS → Prop} (h : AW P x σ (thn (fun σ' => AW P y σ' Q) Q)) : AW P (.seq x y) σ Q := by
  intro c a w Q' hr hK
  refine wp_seq (h c a w _ hr fun e c' a' w' σ' hQ hr' hx hd => ?_)
  cases e <;> first | exact hK _ c' a' w' σ' hQ hr' hx hd | skip
  exact hQ c' a' w' _ hr' fun e2 c2 a2 w2 σ2 hQ2 hr2 hx2 hd2 => hK e2 c2 a2 w2 σ2 hQ2 hr2 (hx.trans hx2) (hd2.trans hd)

theorem AW.region {P : Program} {id : Nat} {ops : Array Oper} {σ : AS} {Q : Exit → AS → Prop} (h : Runs P ops (List.range ops.size) σ (Q .normal)) :
    AW P (.region id ops false) σ Q :=
  fun _ _ _ _ hr hK => wp_region (runs_sound _ h hr fun c' a' w' σ' hN hr' hx hd => hK .normal c' a' w' σ' hN hr' hx hd)

theorem AW.skip {P : Program} {σ : AS} {Q : Exit → AS → Prop} (h : Q .normal σ) : AW P .skip σ Q :=
  fun c a w _ hr hK => wp_skip (hK .normal c a w σ h hr (Ext.refl _ _) rfl)

theorem AW.label {P : Program} {l : Nat} {σ : AS} {Q : Exit → AS → Prop} (h : Q .normal σ) : AW P (.label l) σ Q :=
  fun c a w _ hr hK => wp_label (hK .normal c a w σ h hr (Ext.refl _ _) rfl)

theorem AW.ret {P : Program} {σ : AS} {Q : Exit → AS → Prop} (h : Q .ret σ) : AW P .ret σ Q :=
  fun c a w _ hr hK => wp_ret (hK .ret c a w σ h hr (Ext.refl _ _) rfl)

theorem AW.exit {P : Program} {id : Nat} {σ : AS} {Q : Exit → AS → Prop} (h : Q (.exit id) σ) : AW P (.exit id) σ Q :=
  fun c a w _ hr hK => wp_exit (hK (.exit id) c a w σ h hr (Ext.refl _ _) rfl)

theorem AW.cond {P : Program} {x : Operand} {t e : Code} {σ : AS} {Q : Exit → AS → Prop} {b : Bool} (hc : σ.eval x = .val (.bool b))
    (h : AW P (if b then t else e) σ Q) : AW P (.cond x t e) σ Q := by
  intro c a w Q' hr hK
  have he := hr.2.eval x
  rw [hc] at he
  simp only [VR] at he
  exact wp_cond he.1 (h c a w Q' hr hK)

theorem AW.cond2 {P : Program} {x : Operand} {t e : Code} {σ : AS} {Q : Exit → AS → Prop} {b : Bool} (hc : σ.eval x = .val (.bool b))
    (ht : b = true → AW P t σ Q) (he : b = false → AW P e σ Q) : AW P (.cond x t e) σ Q :=
  .cond hc (by cases b; exact he rfl; exact ht rfl)

def inBlk (id : Nat) (Q : Exit → AS → Prop) : Exit → AS → Prop
  | .exit id', σ => bif Nat.beq id' id then Q .normal σ else Q (.exit id') σ
  | e, σ => Q e σ

theorem AW.block {P : Program} {id : Nat} {x : Code} {σ : AS} {Q : Exit → AS → Prop} (h : AW P x σ (inBlk id Q)) : AW P (.block id x) σ Q := by
  intro c a w Q' hr hK
  refine wp_block (h c a w _ hr fun e c' a' w' σ' hQ hr' hx hd => ?_)
  cases e with
  | exit id' =>
    simp only [inBlk] at hQ
    simp only [Exit.inBlock]
    split
    · rename_i e
      have : Nat.beq id' id = true := by rw [e]; exact Nat.beq_refl id
      rw [this] at hQ; exact hK _ c' a' w' σ' hQ hr' hx hd
    · rename_i e
      have : Nat.beq id' id = false := by
        cases hb : Nat.beq id' id with
        | false => rfl
        | true => exact absurd (Nat.eq_of_beq_eq_true hb) e
      rw [this] at hQ; exact hK _ c' a' w' σ' hQ hr' hx hd
  | _ => exact hK _ c' a' w' σ' hQ hr' hx hd

/-- A loop: an invariant over abstract frames, with a measure. -/
theorem AW.loop {P : Program} {x : Code} {σ : AS} {Q : Exit → AS → Prop} {S : Type} (I : S → AS → Prop) (μ : S → Nat) (s : S) (h0 : I s σ)
    (hr : ∀ s σ, I s σ → AW P x σ (thn (fun σ' => ∃ s', I s' σ' ∧ μ s' < μ s) Q)) : AW P (.loop x) σ Q := by
  intro c a w Q' hrel hK
  have key : ∀ n s σ (c' : Cx) a' w', μ s = n → I s σ → RelC w' c' σ a' → Ext w c w' c' → a'.defers = a.defers → ∀ b k cs,
      ∃ e a2 w2, Q' e a2 w2 ∧ Arrives P (lone (b.at a' (.code x :: .inLoop x :: k)) cs w') b k cs e a2 w2 := by
    intro n
    induction n using Nat.strongRecOn with
    | _ n ih =>
      intro s σ c' a' w' hn hI hrel' hx hd b k cs
      have hround := hr s σ hI c' a' w'
        (Exit.then (fun a2 w2 => ∃ s' σ2 c2, I s' σ2 ∧ RelC w2 c2 σ2 a2 ∧ Ext w c w2 c2 ∧ a2.defers = a.defers ∧ μ s' < n) Q') hrel' (fun e c2 a2 w2 σ2 hQ hr2 hx2 hd2 => by
        cases e with
        | normal =>
          obtain ⟨s', hI', hlt⟩ := hQ
          exact ⟨s', σ2, c2, hI', hr2, hx.trans hx2, hd2.trans hd, hn ▸ hlt⟩
        | exit id => exact hK _ c2 a2 w2 σ2 hQ hr2 (hx.trans hx2) (hd2.trans hd)
        | goto l => exact hK _ c2 a2 w2 σ2 hQ hr2 (hx.trans hx2) (hd2.trans hd)
        | ret => exact hK _ c2 a2 w2 σ2 hQ hr2 (hx.trans hx2) (hd2.trans hd)
        | panic ch => exact hK _ c2 a2 w2 σ2 hQ hr2 (hx.trans hx2) (hd2.trans hd)
        | outgrown => exact hK _ c2 a2 w2 σ2 hQ hr2 (hx.trans hx2) (hd2.trans hd))
      obtain ⟨e, a1, w1, hq, harr⟩ := hround b (.inLoop x :: k) cs
      cases e with
      | normal =>
        obtain ⟨s', σ2, c2, hI', hr2, hx2, hd2, hlt⟩ := hq
        obtain ⟨e2, a2, w2, hq2, harr2⟩ := ih (μ s') hlt s' σ2 c2 a1 w1 rfl hI' hr2 hx2 hd2 b k cs
        exact ⟨e2, a2, w2, hq2, .of_steps (Steps.trans harr (.one step_inLoop)) harr2⟩
      | exit id => exact ⟨_, a1, w1, hq, .pass (x := .inLoop x) rfl (fun _ _ => .inl (by simp)) harr⟩
      | goto l => exact ⟨_, a1, w1, hq, .pass (x := .inLoop x) rfl (fun _ _ => .inl (by simp)) harr⟩
      | ret => exact ⟨_, a1, w1, hq, .pass (x := .inLoop x) rfl (fun _ _ => .inl (by simp)) harr⟩
      | panic ch => exact ⟨_, a1, w1, hq, .pass (x := .inLoop x) rfl (fun _ _ => .inl (by simp)) harr⟩
      | outgrown => exact ⟨_, a1, w1, hq, .pass (x := .inLoop x) rfl (fun _ _ => .inl (by simp)) harr⟩
  intro b k cs
  obtain ⟨e, a2, w2, hq, harr⟩ := key _ s σ c a w rfl h0 hrel (Ext.refl _ _) rfl b k cs
  exact ⟨e, a2, w2, hq, .of_steps (.one step_loop) harr⟩

end Go.Ab
