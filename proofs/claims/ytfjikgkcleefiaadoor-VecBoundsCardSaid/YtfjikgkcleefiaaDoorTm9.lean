/- The typed machine, part 9: code, loops, functions. -/
import Derived.Test.YtfjikgkcleefiaaDoorTm8
set_option linter.unusedSimpArgs false
set_option linter.unusedVariables false
namespace Go.Tm
open Go.Ab

/-- What was there stays, but for what is one's own; the first p places of one's own stay where they are. -/
structure ExtW (p : Nat) (w : World) (c : Cx) (w' : World) (c' : Cx) : Prop where
  os : w'.os = w.os
  tape : w'.tape = w.tape
  output : w'.output = w.output
  size : w.heap.size ≤ w'.heap.size
  new : ∀ k : Nat, some k ∈ c'.m → some k ∈ c.m ∨ w.heap.size ≤ k
  blocks : ∀ k : Nat, k < w.heap.size → some k ∉ c.m → w'.heap[k]? = w.heap[k]?
  ok : c'.ok = c.ok
  pin : ∀ b k : Nat, b < p → c.m[b]? = some (some k) → c'.m[b]? = some (some k)

theorem ExtW.refl (p : Nat) (w : World) (c : Cx) : ExtW p w c w c := ⟨rfl, rfl, rfl, Nat.le_refl _, fun _ h => .inl h, fun _ _ _ => rfl, rfl, fun _ _ _ h => h⟩

theorem ExtW.trans {p : Nat} {w w1 w2 : World} {c c1 c2 : Cx} (h : ExtW p w c w1 c1) (g : ExtW p w1 c1 w2 c2) : ExtW p w c w2 c2 where
  os := g.os.trans h.os
  tape := g.tape.trans h.tape
  output := g.output.trans h.output
  size := Nat.le_trans h.size g.size
  new := fun k x => (g.new k x).elim (h.new k) (fun y => .inr (Nat.le_trans h.size y))
  blocks := fun k hk hm => by
    rw [g.blocks k (Nat.lt_of_lt_of_le hk h.size) (fun x => (h.new k x).elim hm (fun y => absurd hk (Nat.not_lt.2 y))), h.blocks k hk hm]
  ok := g.ok.trans h.ok
  pin := fun b k hb hm => g.pin b k hb (h.pin b k hb hm)

theorem relT {w : World} {c : Cx} {σ : TS} {a : Act} (h : RelC w c σ.flat a) : c.T = [] := List.eq_nil_of_length_eq_zero (by rw [h.1.tl]; rfl)

theorem Ext.w {p : Nat} {w w' : World} {c c' : Cx} (hT : c.T = []) (h : Ext w c w' c') : ExtW p w c w' c' :=
  ⟨h.os, h.tape, h.output, h.size, h.new, fun k hk hm => h.blocks k hk hm (fun i j => by rw [hT]; simp), h.ok, fun b k _ hm => h.ids b k hm⟩

def TAW (P : Program) (p : Nat) (x : Code) (σ : TS) (Q : Exit → TS → Prop) : Prop :=
  ∀ c a w (Q' : Exit → Act → World → Prop), RelC w c σ.flat a → σ.wf →
    (∀ e c' a' w' σ', Q e σ' → σ'.wf → RelC w' c' σ'.flat a' → ExtW p w c w' c' → a'.defers = a.defers → Q' e a' w') → x.wp P Q' a w

theorem TAW.mono {P : Program} {p : Nat} {x : Code} {σ : TS} {Q R : Exit → TS → Prop} (h : TAW P p x σ Q) (hq : ∀ e σ, Q e σ → R e σ) : TAW P p x σ R :=
  fun c a w Q' hr hw hK => h c a w Q' hr hw fun e c' a' w' σ' hQ => hK e c' a' w' σ' (hq _ _ hQ)

/-- A state may be looked upon as another one. -/
def Wk (p : Nat) (σ σ2 : TS) : Prop := σ2.wf ∧ ∀ w c a, RelC w c σ.flat a → ∃ c2, RelC w c2 σ2.flat a ∧ ∀ w0 c0, ExtW p w0 c0 w c → ExtW p w0 c0 w c2

theorem Wk.refl {p : Nat} {σ : TS} (h : σ.wf) : Wk p σ σ := ⟨h, fun _ c _ hr => ⟨c, hr, fun _ _ h => h⟩⟩

theorem TAW.wk {P : Program} {p : Nat} {x : Code} {σ σ2 : TS} {Q : Exit → TS → Prop} (hk : Wk p σ σ2) (h : TAW P p x σ2 Q) : TAW P p x σ Q := by
  intro c a w Q' hr hw hK
  obtain ⟨c2, hr2, hx⟩ := hk.2 w c a hr
  have h0 := hx w c (ExtW.refl _ _ _)
  exact h c2 a w Q' hr2 hk.1 fun e c' a' w' σ' hQ hw' hr' hx' hd => hK e c' a' w' σ' hQ hw' hr' (h0.trans hx') hd

def tthn (N : TS → Prop) (Q : Exit → TS → Prop) : Exit → TS → Prop
  | .normal, σ => N σ
  | e, σ => Q e σ

theorem TAW.seq {P : Program} {p : Nat} {x y : Code} {σ : TS} {Q : Exit → TS → Prop} (h : TAW P p x σ (tthn (fun σ' => TAW P p y σ' Q) Q)) : TAW P p (.seq x y) σ Q := by
  intro c a w Q' hr hw hK
  refine wp_seq (h c a w _ hr hw fun e c' a' w' σ' hQ hw' hr' hx hd => ?_)
  cases e <;> first | exact hK _ c' a' w' σ' hQ hw' hr' hx hd | skip
  exact hQ c' a' w' _ hr' hw' fun e2 c2 a2 w2 σ2 hQ2 hw2 hr2 hx2 hd2 => hK e2 c2 a2 w2 σ2 hQ2 hw2 hr2 (hx.trans hx2) (hd2.trans hd)

def tinBlk (id : Nat) (Q : Exit → TS → Prop) : Exit → TS → Prop
  | .exit id', σ => bif Nat.beq id' id then Q .normal σ else Q (.exit id') σ
  | e, σ => Q e σ

theorem TAW.block {P : Program} {p : Nat} {id : Nat} {x : Code} {σ : TS} {Q : Exit → TS → Prop} (h : TAW P p x σ (tinBlk id Q)) : TAW P p (.block id x) σ Q := by
  intro c a w Q' hr hw hK
  refine wp_block (h c a w _ hr hw fun e c' a' w' σ' hQ hw' hr' hx hd => ?_)
  cases e with
  | exit id' =>
    simp only [tinBlk] at hQ
    simp only [Exit.inBlock]
    split
    · rename_i e
      have : Nat.beq id' id = true := by rw [e]; exact Nat.beq_refl id
      rw [this] at hQ; exact hK _ c' a' w' σ' hQ hw' hr' hx hd
    · rename_i e
      have : Nat.beq id' id = false := by
        cases hb : Nat.beq id' id with
        | false => rfl
        | true => exact absurd (Nat.eq_of_beq_eq_true hb) e
      rw [this] at hQ; exact hK _ c' a' w' σ' hQ hw' hr' hx hd
  | _ => exact hK _ c' a' w' σ' hQ hw' hr' hx hd

theorem TAW.cond {P : Program} {p : Nat} {x : Operand} {t e : Code} {σ : TS} {Q : Exit → TS → Prop} {b : Bool} (hc : σ.eval x = .v .bool b) (h : TAW P p (if b then t else e) σ Q) : TAW P p (.cond x t e) σ Q := by
  intro c a w Q' hr hw hK
  have he := hr.2.eval x
  rw [eval_eq hc (by simp)] at he
  simp only [TV.pv, pvU, VR] at he
  exact wp_cond he.1 (h c a w Q' hr hw hK)

theorem TAW.region {R : Type} {P : Program} {p : Nat} {E : List Ent} (hE : EnvOK P E) {id : Nat} {ops : Array Oper} {σ : TS} {k : TS → Option R} {r : R} (h : opsK P E ops ops.toList σ k = some r) :
    TAW P p (.region id ops false) σ (fun e σ' => e = .normal ∧ k σ' = some r) := by
  intro c a w Q' hr hw hK
  refine wp_region ?_
  have := ops_spec hE ops.toList 0 (Q' := Q') (by simp) hw h hr fun c' a' w' σ' hk hw' hr' hx hd => hK .normal c' a' w' σ' ⟨rfl, hk⟩ hw' hr' (Ext.w (relT hr) hx) hd
  rw [List.range_eq_range']
  simpa using this

theorem TAW.draw {R : Type} {P : Program} {p : Nat} {E : List Ent} (hE : EnvOK P E) {id : Nat} {ops : Array Oper} {σ : TS} {k : TS → Option R} {r : R} (hm : P.follows .mixedOrders = true) (hok : plan ops (ops.size + 1) 0 = true)
    (hdn : ops.toList.all (fun o => o.dst.all (fun d => decide (d < σ.n))) = true) (h : drawGo P E ops k (ops.size + 1) 0 σ = some r) :
    TAW P p (.region id ops true) σ (fun e σ' => e = .normal ∧ k σ' = some r) := by
  intro c a w Q' hr hw hK
  have hx0 := quiet_drew hr.1 (w.drawn + 1)
  refine wp_region_any hm ?_
  refine draws_spec hE (n := σ.flat.n) (fun o ho => List.all_eq_true.1 hdn o ho) (ops.size + 1) 0 (c := c) ops.size _ rfl hok (Nat.zero_le _) h hw ⟨hx0.1, hr.2.ext hx0.2⟩ (by simp) ?_ ?_ ?_ fun c' a' w' σ' hk hw' hr' hx hd => hK .normal c' a' w' σ' ⟨rfl, hk⟩ hw' hr' (Ext.w (relT hr) (hx0.2.trans hx)) hd
  · intro j hj
    simp only [Array.getD_eq_getD_getElem?, Array.getElem?_replicate, hj, if_true, Option.getD_some]; simp
  · intro j o e hD
    simp only [Array.getD_eq_getD_getElem?, Array.getElem?_replicate] at hD
    split at hD <;> simp at hD
  · unfold left
    refine Nat.le_trans (List.length_filter_le _ _) ?_
    simp

theorem TAW.skip {P : Program} {p : Nat} {σ : TS} {Q : Exit → TS → Prop} (h : Q .normal σ) : TAW P p .skip σ Q :=
  fun c a w _ hr hw hK => wp_skip (hK .normal c a w σ h hw hr (ExtW.refl _ _ _) rfl)
theorem TAW.label {P : Program} {p : Nat} {l : Nat} {σ : TS} {Q : Exit → TS → Prop} (h : Q .normal σ) : TAW P p (.label l) σ Q :=
  fun c a w _ hr hw hK => wp_label (hK .normal c a w σ h hw hr (ExtW.refl _ _ _) rfl)
theorem TAW.ret {P : Program} {p : Nat} {σ : TS} {Q : Exit → TS → Prop} (h : Q .ret σ) : TAW P p .ret σ Q :=
  fun c a w _ hr hw hK => wp_ret (hK .ret c a w σ h hw hr (ExtW.refl _ _ _) rfl)
theorem TAW.exit {P : Program} {p : Nat} {id : Nat} {σ : TS} {Q : Exit → TS → Prop} (h : Q (.exit id) σ) : TAW P p (.exit id) σ Q :=
  fun c a w _ hr hw hK => wp_exit (hK (.exit id) c a w σ h hw hr (ExtW.refl _ _ _) rfl)

/-! ### loops -/
/-- at a loop's head -/
def TLoop (P : Program) (p : Nat) (x : Code) (σ : TS) (Q : Exit → TS → Prop) : Prop :=
  ∀ c a w (Q' : Exit → Act → World → Prop), RelC w c σ.flat a → σ.wf →
    (∀ e c' a' w' σ', Q e σ' → σ'.wf → RelC w' c' σ'.flat a' → ExtW p w c w' c' → a'.defers = a.defers → Q' e a' w') →
    ∀ b k cs, ∃ e a2 w2, Q' e a2 w2 ∧ Arrives P (lone (b.at a (.code x :: .inLoop x :: k)) cs w) b k cs e a2 w2

theorem TLoop.step {P : Program} {p : Nat} {x : Code} {σ : TS} {Q : Exit → TS → Prop} (h : TAW P p x σ (tthn (fun σ' => TLoop P p x σ' Q) Q)) : TLoop P p x σ Q := by
  intro c a w Q' hrel hw hK b k cs
  obtain ⟨e, a1, w1, hq, harr⟩ := h c a w
    (Exit.then (fun a2 w2 => ∃ σ2 c2, TLoop P p x σ2 Q ∧ σ2.wf ∧ RelC w2 c2 σ2.flat a2 ∧ ExtW p w c w2 c2 ∧ a2.defers = a.defers) Q') hrel hw (fun e c2 a2 w2 σ2 hQ hw2 hr2 hx2 hd2 => by
    cases e with
    | normal => exact ⟨σ2, c2, hQ, hw2, hr2, hx2, hd2⟩
    | exit id => exact hK _ c2 a2 w2 σ2 hQ hw2 hr2 hx2 hd2
    | goto l => exact hK _ c2 a2 w2 σ2 hQ hw2 hr2 hx2 hd2
    | ret => exact hK _ c2 a2 w2 σ2 hQ hw2 hr2 hx2 hd2
    | panic ch => exact hK _ c2 a2 w2 σ2 hQ hw2 hr2 hx2 hd2
    | outgrown => exact hK _ c2 a2 w2 σ2 hQ hw2 hr2 hx2 hd2) b (.inLoop x :: k) cs
  cases e with
  | normal =>
    obtain ⟨σ2, c2, hL, hw2, hr2, hx2, hd2⟩ := hq
    obtain ⟨e2, a2, w2, hq2, harr2⟩ := hL c2 a1 w1 Q' hr2 hw2 (fun e c3 a3 w3 σ3 hQ hw3 hr3 hx3 hd3 => hK e c3 a3 w3 σ3 hQ hw3 hr3 (hx2.trans hx3) (hd3.trans hd2)) b k cs
    exact ⟨e2, a2, w2, hq2, .of_steps (Steps.trans harr (.one step_inLoop)) harr2⟩
  | exit id => exact ⟨_, a1, w1, hq, .pass (x := .inLoop x) rfl (fun _ _ => .inl (by simp)) harr⟩
  | goto l => exact ⟨_, a1, w1, hq, .pass (x := .inLoop x) rfl (fun _ _ => .inl (by simp)) harr⟩
  | ret => exact ⟨_, a1, w1, hq, .pass (x := .inLoop x) rfl (fun _ _ => .inl (by simp)) harr⟩
  | panic ch => exact ⟨_, a1, w1, hq, .pass (x := .inLoop x) rfl (fun _ _ => .inl (by simp)) harr⟩
  | outgrown => exact ⟨_, a1, w1, hq, .pass (x := .inLoop x) rfl (fun _ _ => .inl (by simp)) harr⟩

theorem TLoop.wk {P : Program} {p : Nat} {x : Code} {σ σ2 : TS} {Q : Exit → TS → Prop} (hk : Wk p σ σ2) (h : TLoop P p x σ2 Q) : TLoop P p x σ Q := by
  intro c a w Q' hr hw hK
  obtain ⟨c2, hr2, hx⟩ := hk.2 w c a hr
  have h0 := hx w c (ExtW.refl _ _ _)
  exact h c2 a w Q' hr2 hk.1 fun e c' a' w' σ' hQ hw' hr' hx' hd => hK e c' a' w' σ' hQ hw' hr' (h0.trans hx') hd

theorem TLoop.loop {P : Program} {p : Nat} {x : Code} {σ : TS} {Q : Exit → TS → Prop} (h : TLoop P p x σ Q) : TAW P p (.loop x) σ Q := by
  intro c a w Q' hrel hw hK b k cs
  obtain ⟨e, a2, w2, hq, harr⟩ := h c a w Q' hrel hw hK b k cs
  exact ⟨e, a2, w2, hq, .of_steps (.one step_loop) harr⟩

/-- so many rounds -/
def iter {S X : Type} (F : S → Option (S ⊕ X)) : Nat → S → Option X
  | 0, _ => none
  | n + 1, s => (F s).bind (Sum.elim (iter F n) some)

theorem iter_mono {S X : Type} {F : S → Option (S ⊕ X)} : ∀ {n m : Nat} {s : S} {x : X}, iter F n s = some x → n ≤ m → iter F m s = some x
  | 0, _, _, _, h, _ => by cases h
  | n + 1, 0, _, _, _, h => by omega
  | n + 1, m + 1, s, x, h, hm => by
    simp only [iter] at h ⊢
    rw [Option.bind_eq_some_iff] at h ⊢
    obtain ⟨y, h1, h2⟩ := h
    refine ⟨y, h1, ?_⟩
    cases y with
    | inl s' => exact iter_mono h2 (by omega)
    | inr z => exact h2

open Classical in
/-- What a loop comes to, if it ends. -/
noncomputable def loopC {S X : Type} (F : S → Option (S ⊕ X)) (s : S) : Option X :=
  if h : ∃ n x, iter F n s = some x then some h.choose_spec.choose else none

theorem loopC_iff {S X : Type} {F : S → Option (S ⊕ X)} {s : S} {x : X} : loopC F s = some x ↔ ∃ n, iter F n s = some x := by
  unfold loopC
  constructor
  · intro h
    split at h
    · rename_i hx
      cases h
      exact ⟨hx.choose, hx.choose_spec.choose_spec⟩
    · cases h
  · rintro ⟨n, h⟩
    have hx : ∃ n x, iter F n s = some x := ⟨n, x, h⟩
    rw [dif_pos hx]
    have h2 := hx.choose_spec.choose_spec
    have a := iter_mono h (Nat.le_max_left n hx.choose)
    have b := iter_mono h2 (Nat.le_max_right n hx.choose)
    rw [a] at b
    exact b.symm

theorem loopC_eq {S X : Type} (F : S → Option (S ⊕ X)) (s : S) : loopC F s = (F s).bind (Sum.elim (loopC F) some) := by
  apply Option.ext
  intro x
  rw [loopC_iff]
  constructor
  · rintro ⟨n, h⟩
    cases n with
    | zero => cases h
    | succ n =>
      simp only [iter] at h
      rw [Option.bind_eq_some_iff] at h ⊢
      obtain ⟨y, h1, h2⟩ := h
      refine ⟨y, h1, ?_⟩
      cases y with
      | inl s' => exact loopC_iff.2 ⟨n, h2⟩
      | inr z => exact h2
  · intro h
    rw [Option.bind_eq_some_iff] at h
    obtain ⟨y, h1, h2⟩ := h
    cases y with
    | inl s' =>
      obtain ⟨n, hn⟩ := loopC_iff.1 h2
      exact ⟨n + 1, by simp only [iter]; rw [h1]; exact hn⟩
    | inr z => exact ⟨1, by simp only [iter]; rw [h1]; exact h2⟩

/-! ### what is known of a state, as typed data -/
structure XE where
  T : Type
  close : {R : Type} → TS → (T → Option R) → Option R
  st : T → TS

def XE.OK (p : Nat) (X : XE) : Prop := ∀ (R : Type) (σ : TS) (k : X.T → Option R) (r : R), σ.wf → X.close σ k = some r → ∃ x, k x = some r ∧ Wk p σ (X.st x)

structure XS where
  T : Type
  close : {R : Type} → Exit → TS → (T → Option R) → Option R
  open' : {R : Type} → T → (Exit → TS → Option R) → Option R
  at' : T → Exit × TS

structure XS.OK (p : Nat) (X : XS) : Prop where
  close : ∀ (R : Type) (e : Exit) (σ : TS) (k : X.T → Option R) (r : R), σ.wf → X.close e σ k = some r → ∃ x, k x = some r ∧ (X.at' x).1 = e ∧ Wk p σ (X.at' x).2
  open' : ∀ (R : Type) (x : X.T) (k : Exit → TS → Option R), X.open' x k = k (X.at' x).1 (X.at' x).2

def exitBeq : Exit → Exit → Bool
  | .normal, .normal => true
  | .ret, .ret => true
  | .exit a, .exit b => Nat.beq a b
  | _, _ => false

theorem exitBeq_eq {a b : Exit} (h : exitBeq a b = true) : a = b := by
  unfold exitBeq at h
  split at h
  · rfl
  · rfl
  · rw [Nat.eq_of_beq_eq_true h]
  · cases h

/-- one way out -/
def XS.one (e : Exit) (X : XE) : XS where
  T := X.T
  close := fun e' σ k => bif exitBeq e' e then X.close σ k else none
  open' := fun x k => k e (X.st x)
  at' := fun x => (e, X.st x)

/-- one way out more -/
def XS.or (e : Exit) (X : XE) (Y : XS) : XS where
  T := X.T ⊕ Y.T
  close := fun e' σ k => bif exitBeq e' e then X.close σ (fun x => k (.inl x)) else Y.close e' σ (fun y => k (.inr y))
  open' := fun x k => Sum.elim (fun x => k e (X.st x)) (fun y => Y.open' y k) x
  at' := Sum.elim (fun x => (e, X.st x)) Y.at'

theorem XS.one_ok {p : Nat} {e : Exit} {X : XE} (h : X.OK p) : (XS.one e X).OK p where
  close := fun R e' σ k r hw hc => by
    simp only [XS.one] at hc
    cases hb : exitBeq e' e with
    | false => rw [hb] at hc; cases hc
    | true =>
      rw [hb] at hc
      obtain ⟨x, h1, h2⟩ := h R σ k r hw hc
      exact ⟨x, h1, (exitBeq_eq hb).symm, h2⟩
  open' := fun R x k => rfl

theorem XS.or_ok {p : Nat} {e : Exit} {X : XE} {Y : XS} (h : X.OK p) (g : Y.OK p) : (XS.or e X Y).OK p where
  close := fun R e' σ k r hw hc => by
    simp only [XS.or] at hc
    cases hb : exitBeq e' e with
    | false =>
      rw [hb] at hc
      obtain ⟨y, h1, h2, h3⟩ := g.close R e' σ _ r hw hc
      exact ⟨.inr y, h1, h2, h3⟩
    | true =>
      rw [hb] at hc
      obtain ⟨x, h1, h2⟩ := h R σ _ r hw hc
      exact ⟨.inl x, h1, (exitBeq_eq hb).symm, h2⟩
  open' := fun R x k => by
    cases x with
    | inl x => rfl
    | inr y => simp only [XS.or, Sum.elim_inr]; exact g.open' R y k

/-! ### code -/
def Den : Type 1 := {R : Type} → TS → (Exit → TS → Option R) → Option R

structure SoundD (P : Program) (p : Nat) (x : Code) (d : Den) : Prop where
  taw : ∀ (R : Type) (σ : TS) (k : Exit → TS → Option R) (r : R), d σ k = some r → TAW P p x σ (fun e σ' => k e σ' = some r)
  wf : ∀ (R : Type) (σ : TS) (k : Exit → TS → Option R) (r : R), σ.wf → d σ k = some r → ∃ e σ', σ'.wf ∧ k e σ' = some r

inductive HT : Type 1 where
  | no
  | two (a b : HT)
  | join (X : XS) (a b : HT)
  | over (d : {R : Type} → TS → (Exit → TS → Option R) → Option R)
  /-- loops are run, so many rounds at most -/
  | run (n : Nat)

def HT.l : HT → HT
  | .two a _ | .join _ a _ => a
  | .run n => .run n
  | _ => .no
def HT.r : HT → HT
  | .two _ b | .join _ _ b => b
  | .run n => .run n
  | _ => .no

/-- so many rounds -/
def roundsD (d : {R : Type} → TS → (Exit → TS → Option R) → Option R) : Nat → {R : Type} → TS → (Exit → TS → Option R) → Option R
  | 0, _, _, _ => none
  | n + 1, _, σ, k => d σ fun e σ' => match e with
    | .normal => roundsD d n (σ'.keep (List.range σ'.n)) k
    | e => k e σ'

def evalK (P : Program) (E : List Ent) : Code → HT → {R : Type} → TS → (Exit → TS → Option R) → Option R
  | .seq a b, h, _, σ, k => match h with
    | .join X ha hb => (evalK P E a ha σ (fun e σ' => X.close e σ' some)).bind fun x => X.open' x fun e σ' => match e with
      | .normal => evalK P E b hb σ' k
      | e => k e σ'
    | .over d => d σ k
    | h => evalK P E a h.l σ fun e σ' => match e with
      | .normal => evalK P E b h.r σ' k
      | e => k e σ'
  | .region _ ops draw, _, _, σ, k => match draw with
    | false => opsK P E ops ops.toList σ fun σ' => k .normal σ'
    | true => bif P.follows .mixedOrders && plan ops (ops.size + 1) 0 && ops.toList.all (fun o => o.dst.all (fun d => decide (d < σ.n))) then drawGo P E ops (fun σ' => k .normal σ') (ops.size + 1) 0 σ else none
  | .skip, _, _, σ, k => k .normal σ
  | .label _, _, _, σ, k => k .normal σ
  | .ret, _, _, σ, k => k .ret σ
  | .exit id, _, _, σ, k => k (.exit id) σ
  | .cond x t e, h, _, σ, k => match σ.eval x with
    | .v .bool b => cond b (evalK P E t h.l σ k) (evalK P E e h.r σ k)
    | _ => none
  | .block id x, h, _, σ, k => evalK P E x h σ fun e σ' => match e with
    | .exit id' => bif Nat.beq id' id then k .normal σ' else k (.exit id') σ'
    | e => k e σ'
  | .loop x, h, _, σ, k => match h with
    | .over d => d σ k
    | .run n => roundsD (fun σ k => evalK P E x (.run n) σ k) n σ k
    | _ => none
  | _, _, _, _, _ => none

/-- the hints are right -/
def HOK (P : Program) (p : Nat) : Code → HT → Prop
  | .seq a b, h => match h with
    | .join X ha hb => X.OK p ∧ HOK P p a ha ∧ HOK P p b hb
    | .over d => SoundD P p (.seq a b) d
    | h => HOK P p a h.l ∧ HOK P p b h.r
  | .cond _ t e, h => HOK P p t h.l ∧ HOK P p e h.r
  | .block _ x, h => HOK P p x h
  | .loop x, h => match h with
    | .over d => SoundD P p (.loop x) d
    | .run n => HOK P p x (.run n)
    | _ => True
  | _, _ => True

theorem hok_run (P : Program) (p n : Nat) : ∀ x : Code, HOK P p x (.run n)
  | .seq a b => ⟨hok_run P p n a, hok_run P p n b⟩
  | .cond _ t e => ⟨hok_run P p n t, hok_run P p n e⟩
  | .block _ x => hok_run P p n x
  | .loop x => hok_run P p n x
  | .region _ _ _ | .skip | .label _ | .ret | .exit _ | .rangeFunc _ _ _ _ | .scope _ | .goto _ | .refuse _ => trivial

theorem hok_no (P : Program) (p : Nat) : ∀ x : Code, HOK P p x .no
  | .seq a b => ⟨hok_no P p a, hok_no P p b⟩
  | .cond _ t e => ⟨hok_no P p t, hok_no P p e⟩
  | .block _ x => hok_no P p x
  | .loop _ => trivial
  | .region _ _ _ | .skip | .label _ | .ret | .exit _ | .rangeFunc _ _ _ _ | .scope _ | .goto _ | .refuse _ => trivial

theorem eval_spec {P : Program} {p : Nat} {E : List Ent} (hE : EnvOK P E) : ∀ (x : Code) (h : HT) {R : Type} {σ : TS} {k : Exit → TS → Option R} {r : R}, HOK P p x h → evalK P E x h σ k = some r → TAW P p x σ (fun e σ' => k e σ' = some r) := by
  intro x
  induction x with
  | skip => intro h R σ k r _ hh; simp only [evalK] at hh; exact TAW.skip hh
  | label l => intro h R σ k r _ hh; simp only [evalK] at hh; exact TAW.label hh
  | ret => intro h R σ k r _ hh; simp only [evalK] at hh; exact TAW.ret hh
  | exit id => intro h R σ k r _ hh; simp only [evalK] at hh; exact TAW.exit hh
  | region id ops draw =>
    intro h R σ k r _ hh
    simp only [evalK] at hh
    cases draw with
    | false => exact (TAW.region hE hh).mono fun e σ' ⟨h1, h2⟩ => by rw [h1]; exact h2
    | true =>
      simp only at hh
      cases hc : P.follows .mixedOrders && plan ops (ops.size + 1) 0 && ops.toList.all (fun o => o.dst.all (fun d => decide (d < σ.n))) with
      | false => rw [hc] at hh; cases hh
      | true =>
        rw [hc] at hh
        simp only [Bool.and_eq_true] at hc
        exact (TAW.draw hE hc.1.1 hc.1.2 hc.2 hh).mono fun e σ' ⟨h1, h2⟩ => by rw [h1]; exact h2
  | seq a b iha ihb =>
    intro h R σ k r hok hh
    have plain : ∀ ha hb : HT, HOK P p a ha → HOK P p b hb → (evalK P E a ha σ fun e σ' => match e with | .normal => evalK P E b hb σ' k | e => k e σ') = some r → TAW P p (.seq a b) σ (fun e σ' => k e σ' = some r) := by
      intro ha hb h1 h2 hh
      refine TAW.seq ((iha ha h1 hh).mono fun e σ' he => ?_)
      cases e <;> first | exact he | skip
      exact ihb hb h2 he
    cases h with
    | no => simp only [evalK] at hh; exact plain _ _ hok.1 hok.2 hh
    | run n => simp only [evalK] at hh; exact plain _ _ hok.1 hok.2 hh
    | two ha hb => simp only [evalK] at hh; exact plain _ _ hok.1 hok.2 hh
    | over d => simp only [evalK] at hh; exact hok.taw R σ k r hh
    | join X ha hb =>
      simp only [evalK] at hh
      obtain ⟨hX, h1, h2⟩ := hok
      rw [Option.bind_eq_some_iff] at hh
      obtain ⟨x, hx, hh⟩ := hh
      rw [hX.open'] at hh
      have h3 := iha ha h1 hx
      refine TAW.seq ?_
      intro c a' w Q' hr hw hK
      refine h3 c a' w Q' hr hw fun e c' a2 w' σ' he hw' hr' hxt hd => ?_
      obtain ⟨x', g1, g2, g3⟩ := hX.close X.T e σ' some x hw' he
      cases g1
      obtain ⟨c2, hr2, hx2⟩ := g3.2 w' c' a2 hr'
      refine hK e c2 a2 w' (X.at' x).2 ?_ g3.1 hr2 (hx2 _ _ hxt) hd
      rw [g2] at hh
      cases e <;> first | exact hh | skip
      exact ihb hb h2 hh
  | cond x t e iht ihe =>
    intro h R σ k r hok hh
    simp only [evalK] at hh
    split at hh
    · rename_i b hb
      refine TAW.cond hb ?_
      cases b with
      | true => exact iht _ hok.1 hh
      | false => exact ihe _ hok.2 hh
    · cases hh
  | block id x ih =>
    intro h R σ k r hok hh
    simp only [evalK] at hh
    refine TAW.block ((ih h hok hh).mono fun e σ' he => ?_)
    cases e with
    | exit id' =>
      simp only [tinBlk]
      simp only at he
      cases hb : Nat.beq id' id with
      | true => rw [hb] at he; exact he
      | false => rw [hb] at he; exact he
    | _ => exact he
  | loop x ih =>
    intro h R σ k r hok hh
    cases h with
    | over d => simp only [evalK] at hh; exact hok.taw R σ k r hh
    | run n =>
      simp only [evalK] at hh
      refine TLoop.loop ?_
      have key : ∀ (m : Nat) (σ : TS), roundsD (fun σ k => evalK P E x (.run n) σ k) m σ k = some r → TLoop P p x σ (fun e σ' => k e σ' = some r) := by
        intro m
        induction m with
        | zero => intro σ h; cases h
        | succ m ihm =>
          intro σ h
          simp only [roundsD] at h
          refine TLoop.step ((ih (.run n) hok h).mono fun e σ' he => ?_)
          cases e <;> first | exact he | skip
          intro c a w Q' hr hw hK
          refine ihm _ he c a w Q' ?_ (keep_wf hw _) hK
          rw [flat_keep]
          exact hr.keep _
      exact key n σ hh
    | _ => simp [evalK] at hh
  | _ => intro h R σ k r hok hh; simp [evalK] at hh

theorem eval_wf' {P : Program} {p : Nat} {E : List Ent} (hE : EnvOK P E) : ∀ (x : Code) (h : HT) {R : Type} {σ : TS} {k : Exit → TS → Option R} {r : R}, HOK P p x h → σ.wf → evalK P E x h σ k = some r → ∃ e σ', σ'.wf ∧ k e σ' = some r := by
  intro x
  induction x with
  | skip => intro h R σ k r _ hw hh; simp only [evalK] at hh; exact ⟨_, σ, hw, hh⟩
  | label l => intro h R σ k r _ hw hh; simp only [evalK] at hh; exact ⟨_, σ, hw, hh⟩
  | ret => intro h R σ k r _ hw hh; simp only [evalK] at hh; exact ⟨_, σ, hw, hh⟩
  | exit id => intro h R σ k r _ hw hh; simp only [evalK] at hh; exact ⟨_, σ, hw, hh⟩
  | region id ops draw =>
    intro h R σ k r _ hw hh
    simp only [evalK] at hh
    cases draw with
    | false => obtain ⟨σ', h1, h2⟩ := ops_wf hE _ hw hh; exact ⟨_, σ', h1, h2⟩
    | true =>
      simp only at hh
      cases hc : P.follows .mixedOrders && plan ops (ops.size + 1) 0 && ops.toList.all (fun o => o.dst.all (fun d => decide (d < σ.n))) with
      | false => rw [hc] at hh; cases hh
      | true =>
        rw [hc] at hh
        obtain ⟨σ', h1, h2⟩ := draws_wf hE _ _ hw hh
        exact ⟨_, σ', h1, h2⟩
  | seq a b iha ihb =>
    intro h R σ k r hok hw hh
    have plain : ∀ ha hb : HT, HOK P p a ha → HOK P p b hb → (evalK P E a ha σ fun e σ' => match e with | .normal => evalK P E b hb σ' k | e => k e σ') = some r → ∃ e σ', σ'.wf ∧ k e σ' = some r := by
      intro ha hb h1 h2 hh
      obtain ⟨e, σ', hw', he⟩ := iha ha h1 hw hh
      cases e <;> first | exact ⟨_, σ', hw', he⟩ | skip
      exact ihb hb h2 hw' he
    cases h with
    | no => simp only [evalK] at hh; exact plain _ _ hok.1 hok.2 hh
    | run n => simp only [evalK] at hh; exact plain _ _ hok.1 hok.2 hh
    | two ha hb => simp only [evalK] at hh; exact plain _ _ hok.1 hok.2 hh
    | over d => simp only [evalK] at hh; exact hok.wf R σ k r hw hh
    | join X ha hb =>
      simp only [evalK] at hh
      obtain ⟨hX, h1, h2⟩ := hok
      rw [Option.bind_eq_some_iff] at hh
      obtain ⟨x, hx, hh⟩ := hh
      rw [hX.open'] at hh
      obtain ⟨e, σ', hw', he⟩ := iha ha h1 hw hx
      obtain ⟨x', g1, g2, g3⟩ := hX.close X.T e σ' some x hw' he
      cases g1
      rw [g2] at hh
      cases e <;> first | exact ⟨_, _, g3.1, hh⟩ | skip
      exact ihb hb h2 g3.1 hh
  | cond x t e iht ihe =>
    intro h R σ k r hok hw hh
    simp only [evalK] at hh
    split at hh
    · rename_i b hb
      cases b with
      | true => exact iht _ hok.1 hw hh
      | false => exact ihe _ hok.2 hw hh
    · cases hh
  | block id x ih =>
    intro h R σ k r hok hw hh
    simp only [evalK] at hh
    obtain ⟨e, σ', hw', he⟩ := ih h hok hw hh
    cases e with
    | exit id' =>
      simp only at he
      cases hb : Nat.beq id' id with
      | true => rw [hb] at he; exact ⟨_, σ', hw', he⟩
      | false => rw [hb] at he; exact ⟨_, σ', hw', he⟩
    | _ => exact ⟨_, σ', hw', he⟩
  | loop x ih =>
    intro h R σ k r hok hw hh
    cases h with
    | over d => simp only [evalK] at hh; exact hok.wf R σ k r hw hh
    | run n =>
      simp only [evalK] at hh
      have key : ∀ (m : Nat) (σ : TS), σ.wf → roundsD (fun σ k => evalK P E x (.run n) σ k) m σ k = some r → ∃ e σ', σ'.wf ∧ k e σ' = some r := by
        intro m
        induction m with
        | zero => intro σ _ h; cases h
        | succ m ihm =>
          intro σ hw h
          simp only [roundsD] at h
          obtain ⟨e, σ', hw', he⟩ := ih (.run n) hok hw h
          cases e <;> first | exact ⟨_, σ', hw', he⟩ | skip
          exact ihm _ (keep_wf hw' _) he
      exact key n σ hw hh
    | _ => simp [evalK] at hh
  | _ => intro h R σ k r hok hw hh; simp [evalK] at hh

/-- what is to be shown of hints -/
inductive Obl : Type 1 where
  | den (x : Code) (d : {R : Type} → TS → (Exit → TS → Option R) → Option R)
  | xs (X : XS)

def Obl.OK (P : Program) (p : Nat) : Obl → Prop
  | .den x d => SoundD P p x d
  | .xs X => X.OK p

def obl : Code → HT → List Obl
  | .seq a b, h => match h with
    | .join X ha hb => .xs X :: (obl a ha ++ obl b hb)
    | .over d => [.den (.seq a b) d]
    | .no => []
    | .run _ => []
    | .two ha hb => obl a ha ++ obl b hb
  | .cond _ t e, h => match h with
    | .no => []
    | .run _ => []
    | h => obl t h.l ++ obl e h.r
  | .block _ x, h => match h with
    | .no => []
    | .run _ => []
    | h => obl x h
  | .loop x, h => match h with
    | .over d => [.den (.loop x) d]
    | _ => []
  | _, _ => []

def AllObl (P : Program) (p : Nat) : List Obl → Prop
  | [] => True
  | o :: l => o.OK P p ∧ AllObl P p l

theorem allObl_iff {P : Program} {p : Nat} : ∀ {l : List Obl}, AllObl P p l ↔ ∀ o, o ∈ l → o.OK P p
  | [] => by simp [AllObl]
  | o :: l => by simp [AllObl, allObl_iff (l := l)]

theorem hok_obl {P : Program} {p : Nat} : ∀ (x : Code) (h : HT), (∀ o, o ∈ obl x h → o.OK P p) → HOK P p x h := by
  intro x
  induction x with
  | seq a b iha ihb =>
    intro h ho
    cases h with
    | no => exact ⟨hok_no P p a, hok_no P p b⟩
    | run n => exact ⟨hok_run P p n a, hok_run P p n b⟩
    | two ha hb => exact ⟨iha _ fun o h => ho o (List.mem_append_left _ h), ihb _ fun o h => ho o (List.mem_append_right _ h)⟩
    | over d => exact ho _ (List.mem_singleton.2 rfl)
    | join X ha hb => exact ⟨ho (.xs X) (List.mem_cons_self ..), iha _ fun o h => ho o (List.mem_cons_of_mem _ (List.mem_append_left _ h)), ihb _ fun o h => ho o (List.mem_cons_of_mem _ (List.mem_append_right _ h))⟩
  | cond x t e iht ihe =>
    intro h ho
    cases h with
    | no => exact ⟨hok_no P p t, hok_no P p e⟩
    | run n => exact ⟨hok_run P p n t, hok_run P p n e⟩
    | _ => exact ⟨iht _ fun o h => ho o (List.mem_append_left _ h), ihe _ fun o h => ho o (List.mem_append_right _ h)⟩
  | block id x ih =>
    intro h ho
    cases h with
    | no => exact hok_no P p x
    | run n => exact hok_run P p n x
    | _ => exact ih _ ho
  | loop x ih =>
    intro h ho
    cases h with
    | over d => exact ho _ (List.mem_singleton.2 rfl)
    | run n => exact hok_run P p n x
    | _ => trivial
  | _ => intro h _; trivial

theorem hok_of {P : Program} {p : Nat} {x : Code} {h : HT} (l : List Obl) (hl : obl x h = l) (ho : AllObl P p l) : HOK P p x h := hok_obl x h (by rw [hl]; exact allObl_iff.1 ho)

/-! ### loops, as typed functions -/
def loopD (S : XE) (X : XS) (f : S.T → Option X.T) : {R : Type} → TS → (Exit → TS → Option R) → Option R := fun σ k => S.close σ fun s => (f s).bind fun x => X.open' x k

/-- one round -/
def roundK (P : Program) (E : List Ent) (x : Code) (h : HT) (S : XE) (X : XS) (s : S.T) : Option (S.T ⊕ X.T) :=
  evalK P E x h (S.st s) fun e σ' => match e with
    | .normal => S.close σ' fun s' => some (.inl s')
    | e => X.close e σ' fun x => some (.inr x)

theorem loop_sound {P : Program} {p : Nat} {E : List Ent} (hE : EnvOK P E) {x : Code} {h : HT} {S : XE} {X : XS} (hok : HOK P p x h) (hS : S.OK p) (hX : X.OK p) (g : S.T → Option (S.T ⊕ X.T)) (hg : ∀ s, roundK P E x h S X s = g s) :
    SoundD P p (.loop x) (loopD S X (loopC g)) := by
  refine ⟨?taw, ?wf⟩
  case wf =>
    intro R σ k r hw hh
    simp only [loopD] at hh
    obtain ⟨s, h1, h2⟩ := hS R σ _ r hw hh
    rw [Option.bind_eq_some_iff] at h1
    obtain ⟨xx, h3, h4⟩ := h1
    obtain ⟨n, hn⟩ := loopC_iff.1 h3
    have key : ∀ (n : Nat) (s : S.T) (xx : X.T), (S.st s).wf → iter g n s = some xx → (X.at' xx).2.wf := by
      intro n
      induction n with
      | zero => intro s xx _ h; cases h
      | succ n ih =>
        intro s xx hws hi
        simp only [iter] at hi
        rw [Option.bind_eq_some_iff] at hi
        obtain ⟨y, hy, hi⟩ := hi
        rw [← hg] at hy
        obtain ⟨e, σ', hw', he⟩ := eval_wf' hE x h hok hws hy
        have fin : (X.close e σ' fun x => some (Sum.inr x)) = some y → (X.at' xx).2.wf := fun hc => by
          obtain ⟨x', g1, g2, g3⟩ := hX.close _ e σ' _ y hw' hc
          cases g1
          cases hi
          exact g3.1
        cases e with
        | normal =>
          obtain ⟨s', g1, g2⟩ := hS _ σ' _ y hw' he
          cases g1
          exact ih s' xx g2.1 hi
        | exit id => exact fin he
        | goto l => exact fin he
        | ret => exact fin he
        | panic ch => exact fin he
        | outgrown => exact fin he
    rw [hX.open'] at h4
    exact ⟨_, _, key n s xx h2.1 hn, h4⟩
  intro R σ k r hh
  simp only [loopD] at hh
  have key : ∀ (n : Nat) (s : S.T) (xx : X.T), iter g n s = some xx → TLoop P p x (S.st s) (fun e σ' => k e σ' = some r) ∨ X.open' xx k ≠ some r := by
    intro n
    induction n with
    | zero => intro s xx h; cases h
    | succ n ih =>
      intro s xx hi
      by_cases hop : X.open' xx k = some r
      · refine .inl (TLoop.step ?_)
        simp only [iter] at hi
        rw [Option.bind_eq_some_iff] at hi
        obtain ⟨y, hy, hi⟩ := hi
        rw [← hg] at hy
        have h1 := eval_spec hE x h hok hy
        intro c a w Q' hr hw hK
        refine h1 c a w Q' hr hw fun e c' a2 w' σ' he hw' hr' hxt hd => ?_
        have fin : ∀ e, e ≠ .normal → (X.close e σ' fun x => some (Sum.inr x)) = some y → Q' e a2 w' := by
          intro e hne hc
          obtain ⟨x', g1, g2, g3⟩ := hX.close _ e σ' _ y hw' hc
          cases g1
          cases hi
          obtain ⟨c2, hr2, hx2⟩ := g3.2 w' c' a2 hr'
          refine hK e c2 a2 w' (X.at' xx).2 ?_ g3.1 hr2 (hx2 _ _ hxt) hd
          rw [hX.open', g2] at hop
          cases e <;> first | exact hop | exact absurd rfl hne
        cases e with
        | normal =>
          obtain ⟨s', g1, g2⟩ := hS _ σ' _ y hw' he
          cases g1
          refine hK .normal c' a2 w' σ' ?_ hw' hr' hxt hd
          rcases ih s' xx hi with h2 | h2
          · exact TLoop.wk g2 h2
          · exact absurd hop h2
        | exit id => exact fin _ (by simp) he
        | goto l => exact fin _ (by simp) he
        | ret => exact fin _ (by simp) he
        | panic ch => exact fin _ (by simp) he
        | outgrown => exact fin _ (by simp) he
      · exact .inr hop
  intro c a w Q' hr hw hK
  obtain ⟨s, h1, h2⟩ := hS R σ _ r hw hh
  rw [Option.bind_eq_some_iff] at h1
  obtain ⟨xx, h3, h4⟩ := h1
  obtain ⟨n, hn⟩ := loopC_iff.1 h3
  rcases key n s xx hn with h5 | h5
  · exact TAW.wk h2 (TLoop.loop h5) c a w Q' hr hw hK
  · exact absurd h4 h5

end Go.Tm
