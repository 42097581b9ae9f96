/- An abstract calculus over the model's weakest preconditions, part 4: the operations that only compute, or read. -/
import Derived.Test.YtfjikgkcleefiaaDoorAb3
namespace Go.Ab

theorem wp_value {P : Program} {o : Oper} {a : Act} {w w' : World} {K : Act → World → Prop} {Q : Exit → Act → World → Prop} {v : Value}
    (h : (execOp a.eval o).run P w = .ok (.value v) w') (hK : K (a.put o.dst v) w') : o.wp P a w K Q := by
  unfold Oper.wp; rw [h]; exact hK

theorem wp_skip' {P : Program} {o : Oper} {a : Act} {w w' : World} {K : Act → World → Prop} {Q : Exit → Act → World → Prop}
    (h : (execOp a.eval o).run P w = .ok .skip w') (hK : K (a.put o.dst undef) w') : o.wp P a w K Q := by
  unfold Oper.wp; rw [h]; exact hK

/-- What is computed without the world. -/
theorem q_run {P : Program} {o : Oper} {σ : AS} {q : PV}
    (h : ∀ w c (a : Act), RelC w c σ a → ∃ v, (execOp a.eval o).run P w = .ok (.value v) w ∧ VR w c q v) : QStep P o σ q := by
  intro c a w K Q hr hK
  obtain ⟨v, h1, h2⟩ := h w c a hr
  exact wp_value h1 (hK v w h2 hr.1 (Ext.refl _ _))

theorem VR_val_iff {w : World} {c : Cx} {v u : Value} : VR w c (.val v) u ↔ u = v ∧ plain v = true := by simp only [VR]

theorem eval_val {w : World} {c : Cx} {σ : AS} {a : Act} (h : SlotsR w c σ a.tmps) {x : Operand} {v : Value} (e : σ.eval x = .val v) : a.eval x = v := by
  have := h.eval x
  rw [e, VR_val_iff] at this
  exact this.1

theorem q_move {P : Program} {o : Oper} {σ : AS} {x : Operand} {q : PV} (ho : o.op = .move x) (hx : σ.eval x = q) : QStep P o σ q :=
  q_run fun w c a hr => ⟨a.eval x, by simp [execOp, ho], hx ▸ hr.2.eval x⟩

theorem q_assign {P : Program} {o : Oper} {σ : AS} {x : Operand} {q : PV} (ho : o.op = .assign x) (hx : σ.eval x = q) : QStep P o σ q :=
  q_run fun w c a hr => ⟨a.eval x, by simp [execOp, ho], hx ▸ hr.2.eval x⟩

theorem q_pick {P : Program} {o : Oper} {σ : AS} {x y z : Operand} {b : Bool} {q : PV} (ho : o.op = .pick x y z) (hx : σ.eval x = .val (.bool b))
    (hq : σ.eval (if b then y else z) = q) : QStep P o σ q :=
  q_run fun w c a hr => ⟨a.eval (if b then y else z), by
    have := eval_val hr.2 hx
    cases b <;> simp [execOp, ho, this, asBool], hq ▸ hr.2.eval _⟩

/-- '==' and the like between whole numbers of one kind; '+', '-' and the like. -/
def binInt (op : BinOp) (k : IntKind) (a b : Int) : Option Value :=
  match op with
  | .add => some (.int k (k.wrap (a + b)))
  | .sub => some (.int k (k.wrap (a - b)))
  | .mul => some (.int k (k.wrap (a * b)))
  | .eql => some (.bool (a == b))
  | .neq => some (.bool (a != b))
  | .lss => some (.bool (decide (a < b)))
  | .leq => some (.bool (decide (a ≤ b)))
  | .gtr => some (.bool (decide (a > b)))
  | .geq => some (.bool (decide (a ≥ b)))
  | .and => some (.int k (k.wrap (BitVec.ofInt k.bits a &&& BitVec.ofInt k.bits b).toNat))
  | .or => some (.int k (k.wrap (BitVec.ofInt k.bits a ||| BitVec.ofInt k.bits b).toNat))
  | .xor => some (.int k (k.wrap (BitVec.ofInt k.bits a ^^^ BitVec.ofInt k.bits b).toNat))
  | .andNot => some (.int k (k.wrap (BitVec.ofInt k.bits a &&& ~~~BitVec.ofInt k.bits b).toNat))
  | _ => none

theorem run_eqGuard {P : Program} {w : World} {op : BinOp} {t : TypeId} {x y : Operand} {a b : Value} (ha : ∀ cs, a ≠ .agg cs) (hn : a ≠ .nilIface) :
    (eqGuard op t x y a b).run P w = .ok () w := by
  unfold eqGuard
  cases a with
  | agg cs => exact absurd rfl (ha cs)
  | nilIface => exact absurd rfl hn
  | _ => cases op <;> rfl

theorem binInt_wf {op : BinOp} {k : IntKind} {a b : Int} {v : Value} (h : binInt op k a b = some v) : plain v = true := by
  cases op <;> simp [binInt] at h <;> subst h <;> rfl

theorem q_bin {P : Program} {o : Oper} {σ : AS} {op : BinOp} {t yt : TypeId} {x y : Operand} {k : IntKind} {a b : Int} {v : Value} (ho : o.op = .binOp op t x y yt)
    (hx : σ.eval x = .val (.int k a)) (hy : σ.eval y = .val (.int k b)) (hv : binInt op k a b = some v) : QStep P o σ (.val v) :=
  q_run fun w c act hr => ⟨v, by
    have e1 := eval_val hr.2 hx
    have e2 := eval_val hr.2 hy
    simp only [execOp, ho, e1, e2, Sem.run_bind, run_eqGuard (P := P) (w := w) (op := op) (t := t) (x := x) (y := y) (a := .int k a) (b := .int k b) (by simp) (by simp), Result.andThen_ok]
    cases op <;> simp [binInt] at hv <;> subst hv <;> simp [binOp, Op.intArith, Op.intCmp, Op.intBits], VR_val (binInt_wf hv)⟩

theorem q_quo {P : Program} {o : Oper} {σ : AS} {t yt : TypeId} {x y : Operand} {k : IntKind} {a b : Int} (ho : o.op = .binOp .quo t x y yt)
    (hx : σ.eval x = .val (.int k a)) (hy : σ.eval y = .val (.int k b)) (hb : b ≠ 0) : QStep P o σ (.val (.int k (k.wrap (a.tdiv b)))) :=
  q_run fun w c act hr => ⟨_, by
    have e1 := eval_val hr.2 hx
    have e2 := eval_val hr.2 hy
    simp only [execOp, ho, e1, e2, Sem.run_bind, run_eqGuard (P := P) (w := w) (op := .quo) (t := t) (x := x) (y := y) (a := .int k a) (b := .int k b) (by simp) (by simp), Result.andThen_ok]
    simp [binOp, Op.intDiv, hb], VR_val rfl⟩

theorem q_rem {P : Program} {o : Oper} {σ : AS} {t yt : TypeId} {x y : Operand} {k : IntKind} {a b : Int} (ho : o.op = .binOp .rem t x y yt)
    (hx : σ.eval x = .val (.int k a)) (hy : σ.eval y = .val (.int k b)) (hb : b ≠ 0) : QStep P o σ (.val (.int k (a.tmod b))) :=
  q_run fun w c act hr => ⟨_, by
    have e1 := eval_val hr.2 hx
    have e2 := eval_val hr.2 hy
    simp only [execOp, ho, e1, e2, Sem.run_bind, run_eqGuard (P := P) (w := w) (op := .rem) (t := t) (x := x) (y := y) (a := .int k a) (b := .int k b) (by simp) (by simp), Result.andThen_ok]
    simp [binOp, Op.intDiv, hb], VR_val rfl⟩

theorem q_shl {P : Program} {o : Oper} {σ : AS} {t yt : TypeId} {x y : Operand} {k yk : IntKind} {a b : Int} (ho : o.op = .binOp .shl t x y yt)
    (hx : σ.eval x = .val (.int k a)) (hy : σ.eval y = .val (.int yk b)) (hb : ¬ b < 0) : QStep P o σ (.val (.int k (k.wrap (a * 2 ^ min b.toNat k.bits)))) :=
  q_run fun w c act hr => ⟨_, by
    have e1 := eval_val hr.2 hx
    have e2 := eval_val hr.2 hy
    simp only [execOp, ho, e1, e2, Sem.run_bind, run_eqGuard (P := P) (w := w) (op := .shl) (t := t) (x := x) (y := y) (a := .int k a) (b := .int yk b) (by simp) (by simp), Result.andThen_ok]
    simp [binOp, Op.shift, hb], VR_val rfl⟩

theorem q_shr {P : Program} {o : Oper} {σ : AS} {t yt : TypeId} {x y : Operand} {k yk : IntKind} {a b : Int} (ho : o.op = .binOp .shr t x y yt)
    (hx : σ.eval x = .val (.int k a)) (hy : σ.eval y = .val (.int yk b)) (hb : ¬ b < 0) : QStep P o σ (.val (.int k (a.fdiv (2 ^ min b.toNat k.bits)))) :=
  q_run fun w c act hr => ⟨_, by
    have e1 := eval_val hr.2 hx
    have e2 := eval_val hr.2 hy
    simp only [execOp, ho, e1, e2, Sem.run_bind, run_eqGuard (P := P) (w := w) (op := .shr) (t := t) (x := x) (y := y) (a := .int k a) (b := .int yk b) (by simp) (by simp), Result.andThen_ok]
    simp [binOp, Op.shift, hb], VR_val rfl⟩

def binStr (op : BinOp) (x y : ByteArray) : Option Value :=
  match op with
  | .eql => some (.bool (x.toList == y.toList))
  | .neq => some (.bool (!(x.toList == y.toList)))
  | .lss => some (.bool (Op.bytesLess x.toList y.toList))
  | .leq => some (.bool (Op.bytesLess x.toList y.toList || x.toList == y.toList))
  | .gtr => some (.bool (!(Op.bytesLess x.toList y.toList || x.toList == y.toList)))
  | .geq => some (.bool (!Op.bytesLess x.toList y.toList))
  | _ => none

theorem binStr_wf {op : BinOp} {a b : ByteArray} {v : Value} (h : binStr op a b = some v) : plain v = true := by
  cases op <;> simp [binStr] at h <;> subst h <;> rfl

theorem q_str {P : Program} {o : Oper} {σ : AS} {op : BinOp} {t yt : TypeId} {x y : Operand} {a b : ByteArray} {v : Value} (ho : o.op = .binOp op t x y yt)
    (hx : σ.eval x = .val (.string a)) (hy : σ.eval y = .val (.string b)) (hv : binStr op a b = some v) : QStep P o σ (.val v) :=
  q_run fun w c act hr => ⟨v, by
    have e1 := eval_val hr.2 hx
    have e2 := eval_val hr.2 hy
    simp only [execOp, ho, e1, e2, Sem.run_bind, run_eqGuard (P := P) (w := w) (op := op) (t := t) (x := x) (y := y) (a := .string a) (b := .string b) (by simp) (by simp), Result.andThen_ok]
    cases op <;> simp [binStr] at hv <;> subst hv <;> simp [binOp, Op.stringOp], VR_val (binStr_wf hv)⟩

theorem q_cat {P : Program} {o : Oper} {σ : AS} {t yt : TypeId} {x y : Operand} {a b : ByteArray} (ho : o.op = .binOp .add t x y yt)
    (hx : σ.eval x = .val (.string a)) (hy : σ.eval y = .val (.string b)) (hs : a.size + b.size ≤ 9223372036854775807) : QStep P o σ (.val (.string (a ++ b))) :=
  q_run fun w c act hr => ⟨_, by
    have e1 := eval_val hr.2 hx
    have e2 := eval_val hr.2 hy
    have hm : ¬ (((a.size + b.size : Nat) : Int) > IntKind.i64.max) := by
      have : IntKind.i64.max = 9223372036854775807 := by decide
      omega
    simp only [execOp, ho, e1, e2, Sem.run_bind, run_eqGuard (P := P) (w := w) (op := .add) (t := t) (x := x) (y := y) (a := .string a) (b := .string b) (by simp) (by simp), Result.andThen_ok]
    simp only [binOp, Op.stringOp]
    rw [if_neg hm]; rfl, VR_val rfl⟩

theorem run_underlying {P : Program} {w : World} {t : TypeId} {d : TypeDesc} (h : P.underlying t = some d) : (underlying t).run P w = .ok d w := by
  simp [underlying, h]

theorem equalIn_bool {P : Program} {w : World} {t : TypeId} (n : Nat) (a b : Bool) (ht : P.underlying t = some .bool) :
    (Op.equalIn (n + 1) t (.bool a) (.bool b)).run P w = .ok (a == b) w := by
  unfold Op.equalIn
  rw [Sem.run_bind, run_underlying ht]
  rfl

theorem run_equal {P : Program} {w w' : World} {t : TypeId} {a b : Value} {r : Bool} (h : (Op.equalIn (9999 + 1) t a b).run P w = .ok r w') :
    (Op.equal t a b).run P w = .ok r w' := h

theorem binOp_eql {t : TypeId} {a b : Bool} : binOp .eql t (.bool a) (.bool b) = (do pure (.bool (← Op.equal t (.bool a) (.bool b)))) := rfl
theorem binOp_neq {t : TypeId} {a b : Bool} : binOp .neq t (.bool a) (.bool b) = (do pure (.bool (!(← Op.equal t (.bool a) (.bool b))))) := rfl

theorem q_eqBool {P : Program} {o : Oper} {σ : AS} {t yt : TypeId} {x y : Operand} {a b : Bool} (ho : o.op = .binOp .eql t x y yt) (ht : P.underlying t = some .bool)
    (hx : σ.eval x = .val (.bool a)) (hy : σ.eval y = .val (.bool b)) : QStep P o σ (.val (.bool (a == b))) :=
  q_run fun w c act hr => ⟨_, by
    have e1 := eval_val hr.2 hx
    have e2 := eval_val hr.2 hy
    simp only [execOp, ho, e1, e2, Sem.run_bind, run_eqGuard (P := P) (w := w) (op := .eql) (t := t) (x := x) (y := y) (a := .bool a) (b := .bool b) (by simp) (by simp), Result.andThen_ok]
    rw [binOp_eql, Sem.run_bind, run_equal (equalIn_bool 9999 a b ht)]; rfl, VR_val rfl⟩

theorem q_neBool {P : Program} {o : Oper} {σ : AS} {t yt : TypeId} {x y : Operand} {a b : Bool} (ho : o.op = .binOp .neq t x y yt) (ht : P.underlying t = some .bool)
    (hx : σ.eval x = .val (.bool a)) (hy : σ.eval y = .val (.bool b)) : QStep P o σ (.val (.bool (!(a == b)))) :=
  q_run fun w c act hr => ⟨_, by
    have e1 := eval_val hr.2 hx
    have e2 := eval_val hr.2 hy
    simp only [execOp, ho, e1, e2, Sem.run_bind, run_eqGuard (P := P) (w := w) (op := .neq) (t := t) (x := x) (y := y) (a := .bool a) (b := .bool b) (by simp) (by simp), Result.andThen_ok]
    rw [binOp_neq, Sem.run_bind, run_equal (equalIn_bool 9999 a b ht)]; rfl, VR_val rfl⟩

theorem q_not {P : Program} {o : Oper} {σ : AS} {t : TypeId} {x : Operand} {a : Bool} (ho : o.op = .unOp .not t x)
    (hx : σ.eval x = .val (.bool a)) : QStep P o σ (.val (.bool (!a))) :=
  q_run fun w c act hr => ⟨_, by
    have e1 := eval_val hr.2 hx
    simp [execOp, ho, e1, Op.unary], VR_val rfl⟩

theorem q_neg {P : Program} {o : Oper} {σ : AS} {t : TypeId} {x : Operand} {k : IntKind} {a : Int} (ho : o.op = .unOp .neg t x)
    (hx : σ.eval x = .val (.int k a)) : QStep P o σ (.val (.int k (k.wrap (0 - a)))) :=
  q_run fun w c act hr => ⟨_, by
    have e1 := eval_val hr.2 hx
    simp [execOp, ho, e1, Op.unary, Op.intArith], VR_val rfl⟩

theorem q_conv {P : Program} {o : Oper} {σ : AS} {s t : TypeId} {x : Operand} {k k' : IntKind} {a : Int} {d : TypeDesc} (ho : o.op = .convert s t x)
    (hs : P.underlying s = some d) (ht : P.underlying t = some (.int k')) (hx : σ.eval x = .val (.int k a)) : QStep P o σ (.val (.int k' (k'.wrap a))) :=
  q_run fun w c act hr => ⟨_, by
    have e1 := eval_val hr.2 hx
    simp only [execOp, ho, e1, convert, Sem.run_bind, run_underlying hs, run_underlying ht, Result.andThen_ok]
    cases d <;> simp [Conv.intToInt], VR_val rfl⟩

theorem q_convStr {P : Program} {o : Oper} {σ : AS} {s t : TypeId} {x : Operand} {a : ByteArray} (ho : o.op = .convert s t x)
    (hs : P.underlying s = some .string) (ht : P.underlying t = some .string) (hx : σ.eval x = .val (.string a)) : QStep P o σ (.val (.string a)) :=
  q_run fun w c act hr => ⟨_, by
    have e1 := eval_val hr.2 hx
    simp only [execOp, ho, e1, convert, Sem.run_bind, run_underlying hs, run_underlying ht, Result.andThen_ok]
    simp, VR_val rfl⟩

/-! ### types -/
def tyAgg (P : Program) (t : TypeId) : Option Bool :=
  match P.underlying t with
  | some (.struct _) | some (.array _ _) => some true
  | some _ => some false
  | none => none

def tySz (P : Program) (t : TypeId) : Option Nat := (P.info? t).map (·.size)

theorem run_isAgg {P : Program} {w : World} {t : TypeId} {b : Bool} (h : tyAgg P t = some b) : (isAgg t).run P w = .ok b w := by
  unfold tyAgg at h
  unfold isAgg
  cases hd : P.underlying t with
  | none => rw [hd] at h; cases h
  | some d =>
    rw [hd] at h
    simp only [Sem.run_bind, run_underlying hd, Result.andThen_ok]
    cases d <;> simp at h <;> subst h <;> rfl

theorem run_sizeOf {P : Program} {w : World} {t : TypeId} {n : Nat} (h : tySz P t = some n) : (sizeOf t).run P w = .ok n w := by
  unfold tySz at h
  unfold sizeOf typeInfo
  cases hi : P.info? t with
  | none => rw [hi] at h; cases h
  | some i => rw [hi] at h; simp at h; subst h; simp [hi]

theorem VRs_len {w : World} {c : Cx} {cs : List PV} {vs : Array Value} {g : Nat → Option Value}
    (h : VRs w c cs g) (hg : ∀ i, i < cs.length → g i = vs[i]?) : VRs w c cs (fun i => vs[i]?) :=
  VRs_mk fun i p hp => by
    obtain ⟨v, h1, h2⟩ := VRs_get h hp
    exact ⟨v, by rw [← hg i (List.getElem?_eq_some_iff.1 hp).1]; exact h1, h2⟩

/-- Cells that are there are read. -/
theorem read_cells {P : Program} {w : World} {c : Cx} {a : Addr} (cs : List PV) (h : VRs w c cs (fun i => w.cell? (a.add i))) :
    ∃ vs : Array Value, (loadCells a cs.length).run P w = .ok vs w ∧ vs.size = cs.length ∧ VRs w c cs (fun i => vs[i]?) := by
  have hsome : ∀ i, i < cs.length → ∃ v, w.cell? (a.add i) = some v := fun i hi => by
    obtain ⟨v, h1, _⟩ := VRs_get h (List.getElem?_eq_getElem hi)
    exact ⟨v, h1⟩
  refine ⟨((List.range cs.length).map (fun i => (w.cell? (a.add i)).getD undef)).toArray, run_loadCells w a cs.length _ (fun i hi => ?_), by simp, VRs_mk fun i p hp => ?_⟩
  · obtain ⟨v, h1⟩ := hsome i hi; simp [h1]
  · have hi := (List.getElem?_eq_some_iff.1 hp).1
    obtain ⟨v, h1, h2⟩ := VRs_get h hp
    exact ⟨v, by simp [hi, h1], h2⟩

/-- What a load yields. -/
def Loads (P : Program) (H : List AObj) (t : TypeId) (p q : PV) : Prop :=
  ∀ w c ts v, Good w c H ts → VR w c p v → ∃ a u, v = .pointer (some a) ∧ (loadVar t a).run P w = .ok u w ∧ VR w c q u

theorem loads_row {P : Program} {H : List AObj} {t : TypeId} {b off n : Nat} {cs qs : List PV} {e : TypeId} (ha : tyAgg P t = some true) (hn : tySz P t = some n)
    (hb : H[b]? = some (.row cs e)) (hq : (cs.drop off).take n = qs) (hlen : qs.length = n) : Loads P H t (.ptr b off) (.agg qs) := by
  intro w c ts v g hv
  simp only [VR] at hv
  obtain ⟨k, hk, rfl⟩ := hv
  obtain ⟨k', vs, fr, h1, h2, hf, h3, hl, h4⟩ := g.obj b _ hb
  rw [hk] at h1; cases h1
  have hcells : VRs w c qs (fun i => w.cell? (Addr.add ⟨k, off, none⟩ i)) := VRs_mk fun i p hp => by
    rw [addr_add, cell_row h2]
    rw [← hq] at hp
    have : cs[off + i]? = some p := by
      rw [List.getElem?_take] at hp
      split at hp
      · rw [List.getElem?_drop] at hp; exact hp
      · cases hp
    exact VRs_get h4 this
  obtain ⟨us, hrun, hs, hr⟩ := read_cells (P := P) qs hcells
  refine ⟨_, .agg us, rfl, ?_, ?_⟩
  · unfold loadVar
    simp only [Sem.run_bind, run_isAgg ha, Result.andThen_ok, if_true, run_sizeOf hn]
    rw [← hlen, hrun]; rfl
  · simp only [VR]; exact ⟨us, rfl, hs, fun q hq' => hl q (List.mem_of_mem_drop (List.mem_of_mem_take (hq ▸ hq'))), hr⟩

theorem loads_cell {P : Program} {H : List AObj} {t : TypeId} {b off : Nat} {cs : List PV} {q : PV} {e : TypeId} (ha : tyAgg P t = some false)
    (hb : H[b]? = some (.row cs e)) (hq : cs[off]? = some q) : Loads P H t (.ptr b off) q := by
  intro w c ts v g hv
  simp only [VR] at hv
  obtain ⟨k, hk, rfl⟩ := hv
  obtain ⟨k', vs, fr, h1, h2, hf, h3, hl, h4⟩ := g.obj b _ hb
  rw [hk] at h1; cases h1
  obtain ⟨u, hu, hr⟩ := VRs_get h4 hq
  refine ⟨_, u, rfl, ?_, hr⟩
  unfold loadVar
  simp only [Sem.run_bind, run_isAgg ha, Result.andThen_ok, Bool.false_eq_true, if_false, run_load, cell_row h2, hu]

theorem fz_cells {w : World} {c : Cx} {a : Addr} {cs : List PV} (hf : Foot w c a cs.length) (h : VRs w c cs (fun i => w.cell? ⟨a.block, a.off + i, none⟩)) :
    VRs w c cs (fun i => w.cell? (a.add i)) := by
  refine VRs_mk fun i p hp => ?_
  obtain ⟨v, h1, h2⟩ := VRs_get h hp
  have hi := (List.getElem?_eq_some_iff.1 hp).1
  rcases hf with hf | ⟨hs, _⟩
  · omega
  · have : a.add i = ⟨a.block, a.off + i, none⟩ := by
      cases a with
      | mk b o s => simp only at hs; subst hs; exact addr_add b o i
    rw [this]; exact ⟨v, h1, h2⟩

theorem loads_fz {P : Program} {H : List AObj} {t : TypeId} {n : Nat} {cs qs : List PV} (ha : tyAgg P t = some true) (hn : tySz P t = some n)
    (hq : cs.take n = qs) (hlen : qs.length = n) : Loads P H t (.fz cs) (.agg qs) := by
  intro w c ts v g hv
  simp only [VR] at hv
  obtain ⟨a, rfl, hf, hl, hc⟩ := hv
  have hcells : VRs w c qs (fun i => w.cell? (a.add i)) := VRs_mk fun i p hp => by
    have hc' := fz_cells hf hc
    rw [← hq, List.getElem?_take] at hp
    split at hp
    · exact VRs_get hc' hp
    · cases hp
  obtain ⟨us, hrun, hs, hr⟩ := read_cells (P := P) qs hcells
  refine ⟨_, .agg us, rfl, ?_, ?_⟩
  · unfold loadVar
    simp only [Sem.run_bind, run_isAgg ha, Result.andThen_ok, if_true, run_sizeOf hn]
    rw [← hlen, hrun]; rfl
  · simp only [VR]; exact ⟨us, rfl, hs, fun q hq' => hl q (List.mem_of_mem_take (hq ▸ hq')), hr⟩

theorem loads_fzcell {P : Program} {H : List AObj} {t : TypeId} {cs : List PV} {q : PV} (ha : tyAgg P t = some false)
    (hq : cs[0]? = some q) : Loads P H t (.fz cs) q := by
  intro w c ts v g hv
  simp only [VR] at hv
  obtain ⟨a, rfl, hf, hl, hc⟩ := hv
  obtain ⟨u, hu, hr⟩ := VRs_get (fz_cells hf hc) hq
  refine ⟨_, u, rfl, ?_, hr⟩
  have hu' : w.cell? a = some u := hu
  unfold loadVar
  simp only [Sem.run_bind, run_isAgg ha, Result.andThen_ok, Bool.false_eq_true, if_false, run_load, hu']

theorem q_load {P : Program} {o : Oper} {σ : AS} {t : TypeId} {x : Operand} {p q : PV} (ho : o.op = .load t x) (hx : σ.eval x = p) (h : Loads P σ.H t p q) : QStep P o σ q :=
  q_run fun w c act hr => by
    obtain ⟨a, u, h1, h2, h3⟩ := h w c _ _ hr.1 (hx ▸ hr.2.eval x)
    exact ⟨u, by simp [execOp, ho, Instr.loadAt, h1, Instr.sureAddr, h2], h3⟩

/-! ### addresses -/
theorem run_fieldPlace {P : Program} {w : World} {a : Addr} {f : Field} {n : Nat} (h : tySz P f.type = some n) (hn : n ≠ 0) :
    (fieldPlace a f).run P w = .ok (a.add f.offset) w := by
  unfold fieldPlace
  simp only [Sem.run_bind, run_sizeOf h, Result.andThen_ok, if_neg hn]
  rfl

/-- a field's place in a struct type: its offset -/
def fldOff (P : Program) (t : TypeId) (i : Nat) : Option Nat :=
  match P.underlying t with
  | some (.struct fs) => match fs[i]? with
    | some f => match tySz P f.type with
      | some (_ + 1) => some f.offset
      | _ => none
    | none => none
  | _ => none

theorem run_fieldAt {P : Program} {w : World} {t : TypeId} {i off : Nat} {a : Addr} (h : fldOff P t i = some off) :
    (Instr.fieldAt t (.pointer (some a)) i).run P w = .ok (.pointer (some (a.add off))) w := by
  unfold fldOff at h
  split at h
  · rename_i fs hu
    split at h
    · rename_i f hf
      split at h
      · rename_i n hs
        cases h
        simp only [Instr.fieldAt, Sem.run_bind, run_underlying hu, Result.andThen_ok, hf, Instr.sureAddr, Sem.run_pure, run_fieldPlace hs (Nat.succ_ne_zero n)]
      · cases h
    · cases h
  · cases h

theorem q_field {P : Program} {o : Oper} {σ : AS} {t : TypeId} {x : Operand} {i b off fo : Nat} (ho : o.op = .fieldAddr t x i) (hf : fldOff P t i = some fo)
    (hx : σ.eval x = .ptr b off) : QStep P o σ (.ptr b (off + fo)) :=
  q_run fun w c act hr => by
    have hv := hr.2.eval x
    rw [hx] at hv
    simp only [VR] at hv
    obtain ⟨k, hk, e⟩ := hv
    refine ⟨.pointer (some ⟨k, off + fo, none⟩), ?_, ?_⟩
    · simp only [execOp, ho, e, Sem.run_bind, run_fieldAt hf, Result.andThen_ok, addr_add]; rfl
    · simp only [VR]; exact ⟨k, hk, rfl⟩

theorem VRs_drop {w : World} {c : Cx} {cs : List PV} {f : Nat → Option Value} (h : VRs w c cs f) (n : Nat) : VRs w c (cs.drop n) (fun i => f (n + i)) :=
  VRs_mk fun i p hp => by rw [List.getElem?_drop] at hp; exact VRs_get h hp

theorem VRs_take {w : World} {c : Cx} {cs : List PV} {f : Nat → Option Value} (h : VRs w c cs f) (n : Nat) : VRs w c (cs.take n) f :=
  VRs_mk fun i p hp => by
    rw [List.getElem?_take] at hp
    split at hp
    · exact VRs_get h hp
    · cases hp

theorem Foot.le {w : World} {c : Cx} {a : Addr} {n m : Nat} {H : List AObj} {ts : List Bool} (g : Good w c H ts) (h : Foot w c a n)
    (d : Nat) (hd : d + m ≤ n) : Foot w c (a.add d) m := by
  rcases h with h | ⟨hs, hb, hm, ht, ho⟩
  · exact .inl (by omega)
  · have e : a.add d = ⟨a.block, a.off + d, none⟩ := by
      cases a with
      | mk b o s => simp only at hs; subst hs; exact addr_add b o d
    rw [e]
    exact .inr ⟨rfl, hb, hm, fun i k h => by have := ht i k h; show a.off + d + m ≤ k; omega, g.okm _ _ _ ho (by show a.off + d + m ≤ a.off + n; omega)⟩

end Go.Ab
