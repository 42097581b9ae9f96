/- The typed machine, part 6: things compared, built, converted, measured. -/
import Derived.Test.YtfjikgkcleefiaaDoorTm5
set_option linter.unusedSimpArgs false
set_option linter.unusedVariables false
namespace Go.Tm
open Go.Ab

/-! ### types and their codes -/
def fsAgree (f : TypeId → U → Bool) : List Field → Us → Nat → Bool
  | [x], .one u, off => Nat.beq x.offset off && f x.type u
  | x :: y :: xs, .cons u us, off => Nat.beq x.offset off && f x.type u && fsAgree f (y :: xs) us (off + u.size)
  | _, _, _ => false

/-- a type is as a code says, part by part -/
def agree (P : Program) : Nat → TypeId → U → Bool
  | 0, _, _ => false
  | n + 1, t, u => Nat.beq (P.cellsOf t) u.size &&
    match P.underlying t, u with
    | some .bool, .bool => true
    | some (.int k), .int k' => kindBeq k k'
    | some .string, .str => true
    | some (.array m e), .arr m' v => Nat.beq m m' && agree P n e v
    | some (.slice e), .sl v => agree P n e v
    | some (.struct fs), .st us => fsAgree (agree P n) fs.toList us 0
    | _, _ => false

def codeFs (f : TypeId → Option U) : List Field → Option Us
  | [] => none
  | [x] => (f x.type).map .one
  | x :: y :: xs => match f x.type, codeFs f (y :: xs) with
    | some u, some us => some (.cons u us)
    | _, _ => none

def codeOf (P : Program) : Nat → TypeId → Option U
  | 0, _ => none
  | n + 1, t =>
    match P.underlying t with
    | some .bool => some .bool
    | some (.int k) => some (.int k)
    | some .string => some .str
    | some (.array m e) => (codeOf P n e).map (.arr m)
    | some (.slice e) => (codeOf P n e).map .sl
    | some (.struct fs) => (codeFs (codeOf P n) fs.toList).map .st
    | _ => none

/-! ### things compared -/
mutual
def U.cmp : U → Bool
  | .int _ | .bool | .str => true
  | .arr _ u => u.cmp
  | .st us => us.cmp
  | _ => false
def Us.cmp : Us → Bool
  | .one u => u.cmp
  | .cons u us => u.cmp && us.cmp
end

def eqL {α : Type} (f : α → α → Bool) : List α → List α → Bool
  | [], [] => true
  | x :: l, y :: m => f x y && eqL f l m
  | _, _ => false

mutual
def eqU : (u : U) → u.T → u.T → Bool
  | .int _, a, b => eqI a b
  | .bool, a, b => decide (a = b)
  | .str, a, b => eqS a b
  | .arr _ u, l, m => eqL (fun x y => eqU u x y) l m
  | .st us, x, y => eqUs us x y
  | _, _, _ => false
def eqUs : (us : Us) → us.T → us.T → Bool
  | .one u, x, y => eqU u x y
  | .cons u us, x, y => eqU u x.1 y.1 && eqUs us x.2 y.2
end

theorem eqL_iff {α : Type} {f : α → α → Bool} (h : ∀ x y, f x y = true ↔ x = y) : ∀ {l m : List α}, eqL f l m = true ↔ l = m
  | [], [] => by simp [eqL]
  | [], _ :: _ => by simp [eqL]
  | _ :: _, [] => by simp [eqL]
  | x :: l, y :: m => by simp only [eqL, Bool.and_eq_true, h, eqL_iff h, List.cons.injEq]

mutual
theorem eqU_iff : ∀ {u : U} {x y : u.T}, u.cmp = true → (eqU u x y = true ↔ x = y)
  | .int _, _, _, _ => by simp [eqU]
  | .bool, _, _, _ => by simp [eqU]
  | .str, _, _, _ => by simp [eqU]
  | .arr _ u, l, m, h => by
    simp only [U.cmp] at h
    simp only [eqU]
    exact eqL_iff fun x y => eqU_iff h
  | .st us, x, y, h => by
    simp only [U.cmp] at h
    simp only [eqU]
    exact eqUs_iff h
  | .sl _, _, _, h => by simp [U.cmp] at h
  | .leaf, _, _, h => by simp [U.cmp] at h
theorem eqUs_iff : ∀ {us : Us} {x y : us.T}, us.cmp = true → (eqUs us x y = true ↔ x = y)
  | .one u, _, _, h => by
    simp only [Us.cmp] at h
    simp only [eqUs]
    exact eqU_iff h
  | .cons u us, x, y, h => by
    simp only [Us.cmp, Bool.and_eq_true] at h
    simp only [eqUs, Bool.and_eq_true, eqU_iff h.1, eqUs_iff h.2]
    exact ⟨fun ⟨a, b⟩ => Prod.ext a b, fun e => by rw [e]; exact ⟨rfl, rfl⟩⟩
end

mutual
def valsU : (u : U) → u.T → List Value
  | .int k, n => [.int k n]
  | .bool, b => [.bool b]
  | .str, s => [.string (ba s)]
  | .arr _ u, l => List.flatMap (fun x => valsU u x) l
  | .st us, x => valsUs us x
  | _, _ => []
def valsUs : (us : Us) → us.T → List Value
  | .one u, x => valsU u x
  | .cons u us, x => valsU u x.1 ++ valsUs us x.2
end

theorem flatMap_map' {α : Type} {f : α → List PV} {g : α → List Value} : ∀ {l : List α}, (∀ x, x ∈ l → f x = (g x).map PV.val) → l.flatMap f = (l.flatMap g).map PV.val
  | [], _ => rfl
  | x :: l, h => by
    rw [List.flatMap_cons, List.flatMap_cons, List.map_append, h x (by simp), flatMap_map' fun y hy => h y (by simp [hy])]

mutual
theorem cell_vals : ∀ (u : U) (x : u.T), u.cmp = true → cellU u x = (valsU u x).map PV.val
  | .int _, _, _ => by simp [cellU, valsU]
  | .bool, _, _ => by simp [cellU, valsU]
  | .str, _, _ => by simp [cellU, valsU]
  | .arr _ u, l, h => by
    simp only [U.cmp] at h
    simp only [cellU, valsU]
    exact flatMap_map' fun x _ => cell_vals u x h
  | .st us, x, h => by
    simp only [U.cmp] at h
    simp only [cellU, valsU]
    exact cells_vals us x h
  | .sl _, _, h => by simp [U.cmp] at h
  | .leaf, _, h => by simp [U.cmp] at h
theorem cells_vals : ∀ (us : Us) (x : us.T), us.cmp = true → cellUs us x = (valsUs us x).map PV.val
  | .one u, x, h => by
    simp only [Us.cmp] at h
    simp only [cellUs, valsUs]
    exact cell_vals u x h
  | .cons u us, x, h => by
    simp only [Us.cmp, Bool.and_eq_true] at h
    simp only [cellUs, valsUs, List.map_append]
    rw [cell_vals u x.1 h.1, cells_vals us x.2 h.2]
end

theorem vals_len (u : U) (x : u.T) (h : u.cmp = true) (hw : wfU u x) : (valsU u x).length = u.size := by
  have := cellU_len u x hw
  rw [cell_vals u x h] at this; simpa using this

theorem flat_inj {α : Type} {g : α → List Value} {n : Nat} {p : α → Prop} (hn : ∀ x, p x → (g x).length = n) (hi : ∀ x y, p x → p y → g x = g y → x = y) : ∀ {l m : List α}, (∀ x, x ∈ l → p x) → (∀ x, x ∈ m → p x) → l.length = m.length → l.flatMap g = m.flatMap g → l = m
  | [], [], _, _, _, _ => rfl
  | [], _ :: _, _, _, h, _ => by simp at h
  | _ :: _, [], _, _, h, _ => by simp at h
  | x :: l, y :: m, hl, hm, h, e => by
    rw [List.flatMap_cons, List.flatMap_cons] at e
    have hx := hn x (hl x (by simp))
    have hy := hn y (hm y (by simp))
    obtain ⟨e1, e2⟩ := List.append_inj e (by omega)
    rw [hi x y (hl x (by simp)) (hm y (by simp)) e1, flat_inj hn hi (fun z hz => hl z (by simp [hz])) (fun z hz => hm z (by simp [hz])) (by simpa using h) e2]

mutual
theorem vals_inj : ∀ (u : U) (x y : u.T), u.cmp = true → wfU u x → wfU u y → valsU u x = valsU u y → x = y
  | .int _, _, _, _, _, _, e => by simpa [valsU] using e
  | .bool, _, _, _, _, _, e => by simpa [valsU] using e
  | .str, a, b, _, ha, hb, e => by
    simp only [valsU, List.cons.injEq, Value.string.injEq, and_true] at e
    simp only [wfU] at ha hb
    have := congrArg ByteArray.toList e
    rw [ba_toList, ba_toList] at this
    exact bytes_inj ha hb this
  | .arr _ u, l, m, h, hl, hm, e => by
    simp only [U.cmp] at h
    simp only [wfU] at hl hm
    simp only [valsU] at e
    exact flat_inj (p := wfU u) (fun x hx => vals_len u x h hx) (fun x y hx hy => vals_inj u x y h hx hy) hl.2 hm.2 (by rw [hl.1, hm.1]) e
  | .st us, x, y, h, hx, hy, e => by
    simp only [U.cmp] at h
    simp only [wfU] at hx hy
    simp only [valsU] at e
    exact valss_inj us x y h hx hy e
  | .sl _, _, _, h, _, _, _ => by simp [U.cmp] at h
  | .leaf, _, _, h, _, _, _ => by simp [U.cmp] at h
theorem valss_inj : ∀ (us : Us) (x y : us.T), us.cmp = true → wfUs us x → wfUs us y → valsUs us x = valsUs us y → x = y
  | .one u, x, y, h, hx, hy, e => by
    simp only [Us.cmp] at h
    simp only [wfUs] at hx hy
    simp only [valsUs] at e
    exact vals_inj u x y h hx hy e
  | .cons u us, x, y, h, hx, hy, e => by
    simp only [Us.cmp, Bool.and_eq_true] at h
    simp only [wfUs] at hx hy
    simp only [valsUs] at e
    have h1 := vals_len u x.1 h.1 hx.1
    have h2 := vals_len u y.1 h.1 hy.1
    obtain ⟨e1, e2⟩ := List.append_inj e (by omega)
    exact Prod.ext (vals_inj u x.1 y.1 h.1 hx.1 hy.1 e1) (valss_inj us x.2 y.2 h.2 hx.2 hy.2 e2)
end

theorem vals_row {u : U} (h : u.cmp = true) : ∀ {l : List u.T} {i : Nat}, (∀ y, y ∈ l → wfU u y) → i < l.length → ∃ x, x ∈ l ∧ ((l.flatMap fun x => valsU u x).drop (i * u.size)).take u.size = valsU u x
  | [], _, _, hi => by simp at hi
  | y :: l, 0, hw, _ => by
    have hl := vals_len u y h (hw y (by simp))
    refine ⟨y, by simp, ?_⟩
    rw [List.flatMap_cons, Nat.zero_mul, List.drop_zero, ← hl, List.take_left']; rfl
  | y :: l, i + 1, hw, hi => by
    have hl := vals_len u y h (hw y (by simp))
    obtain ⟨x, h1, h2⟩ := vals_row h (l := l) (i := i) (fun z hz => hw z (by simp [hz])) (by simpa using hi)
    refine ⟨x, by simp [h1], ?_⟩
    have e : (i + 1) * u.size = u.size + i * u.size := by rw [Nat.succ_mul, Nat.add_comm]
    rw [List.flatMap_cons, e]
    conv => lhs; rw [← hl]
    rw [List.drop_length_add_append, hl]; exact h2

theorem vals_rowlen {u : U} (h : u.cmp = true) : ∀ {l : List u.T}, (∀ y, y ∈ l → wfU u y) → (l.flatMap fun x => valsU u x).length = l.length * u.size
  | [], _ => by simp
  | y :: l, hw => by
    rw [List.flatMap_cons, List.length_append, vals_len u y h (hw y (by simp)), vals_rowlen h (fun z hz => hw z (by simp [hz])), List.length_cons, Nat.succ_mul, Nat.add_comm]

theorem shaped_of {P : Program} : ∀ (n : Nat) (t : TypeId) (u : U) (x : u.T), agree P n t u = true → u.cmp = true → wfU u x → Shaped P n t (valsU u x) := by
  intro n
  induction n with
  | zero => intro t u x h; simp [agree] at h
  | succ n ih =>
    intro t u x h hc hw
    simp only [agree, Bool.and_eq_true] at h
    obtain ⟨hcell0, h⟩ := h
    have hcell := Nat.eq_of_beq_eq_true hcell0
    clear hcell0
    simp only [Shaped]
    split at h
    · rename_i hu
      rw [hu]
      exact ⟨x, by simp [valsU]⟩
    · rename_i hu
      rw [hu]
      have := kindBeq_eq h; subst this
      exact ⟨x, by simp [valsU]⟩
    · rename_i hu
      rw [hu]
      exact ⟨ba x, by simp [valsU]⟩
    · rename_i m e m' v hu
      rw [hu]
      simp only [Bool.and_eq_true] at h
      have e1 := Nat.eq_of_beq_eq_true h.1; subst e1
      simp only [U.cmp] at hc
      simp only [wfU] at hw
      have hce : P.cellsOf e = v.size := by
        cases n with
        | zero => simp [agree] at h
        | succ n => have := h.2; simp only [agree, Bool.and_eq_true] at this; exact Nat.eq_of_beq_eq_true this.1
      simp only [valsU]
      refine ⟨by rw [vals_rowlen hc hw.2, hcell, U.size, hw.1], fun i hi => ?_⟩
      rw [hce]
      obtain ⟨y, hy, e2⟩ := vals_row hc hw.2 (by rw [hw.1]; exact hi)
      rw [e2]
      exact ih e v y h.2 hc (hw.2 y hy)
    · simp [U.cmp] at hc
    · rename_i fs us hu
      rw [hu]
      · simp only [U.cmp] at hc
        simp only [wfU] at hw
        simp only [valsU]
        have hlen : (valsUs us x).length = us.size := by
          have := cellUs_len us x hw
          rw [cells_vals us x hc] at this; simpa using this
        refine ⟨by rw [hlen, hcell, U.size], fun f hf => ?_⟩
        -- the fields, one by one
        have key : ∀ (fs : List Field) (us : Us) (x : us.T) (off : Nat) (pre : List Value), fsAgree (agree P n) fs us off = true → us.cmp = true → wfUs us x → pre.length = off → ∀ f, f ∈ fs →
            Shaped P n f.type (((pre ++ valsUs us x).drop f.offset).take (P.cellsOf f.type)) := by
          intro fs
          induction fs with
          | nil => intro us x off pre h; cases us <;> simp [fsAgree] at h
          | cons g gs ihf =>
            intro us x off pre h hc hw hp f hf
            cases gs with
            | nil =>
              cases us with
              | cons _ _ => simp [fsAgree] at h
              | one v =>
                simp only [fsAgree, Bool.and_eq_true] at h
                simp only [List.mem_singleton] at hf; subst hf
                have ho := Nat.eq_of_beq_eq_true h.1
                simp only [Us.cmp] at hc
                simp only [wfUs] at hw
                have hce : P.cellsOf f.type = v.size := by
                  cases n with
                  | zero => simp [agree] at h
                  | succ n => have := h.2; simp only [agree, Bool.and_eq_true] at this; exact Nat.eq_of_beq_eq_true this.1
                have hl := vals_len v x hc hw
                simp only [valsUs]
                rw [ho, ← hp, List.drop_left', hce, List.take_of_length_le (by omega)]
                · exact ih _ v x h.2 hc hw
                · rfl
            | cons g2 gs =>
              cases us with
              | one _ => simp [fsAgree] at h
              | cons v us =>
                simp only [fsAgree, Bool.and_eq_true] at h
                simp only [Us.cmp, Bool.and_eq_true] at hc
                simp only [wfUs] at hw
                have hl := vals_len v x.1 hc.1 hw.1
                have ho := Nat.eq_of_beq_eq_true h.1.1
                rcases List.mem_cons.1 hf with rfl | hf
                · have hce : P.cellsOf f.type = v.size := by
                    cases n with
                    | zero => simp [agree] at h
                    | succ n => have := h.1.2; simp only [agree, Bool.and_eq_true] at this; exact Nat.eq_of_beq_eq_true this.1
                  simp only [valsUs]
                  rw [ho, ← hp, List.drop_left', hce, ← hl, List.take_left']
                  · exact ih _ v x.1 h.1.2 hc.1 hw.1
                  · rfl
                  · rfl
                · have := ihf us x.2 (off + v.size) (pre ++ valsU v x.1) h.2 hc.2 hw.2 (by rw [List.length_append, hp, hl]) f hf
                  simp only [valsUs]
                  rw [← List.append_assoc]; exact this
        have := key fs.toList us x 0 [] h hc hw rfl f hf
        simpa using this
    · cases h

mutual
theorem seal_cmp {R : Type} : ∀ (t : TV) (u : U) {k : u.T → Option R} {r : R}, t.wf → u.cmp = true → sealK t u k = some r → ∃ x, k x = some r ∧ wfU u x ∧ t.pv = pvU u x ∧ t.cells = cellU u x
  | .v u' x, u, k, r, hw, hc, h => by
    simp only [sealK] at h
    simp only [TV.wf] at hw
    obtain ⟨y, h1, h2, h3⟩ := seal_v hw h
    refine ⟨y, h1, h2, by simp only [TV.pv, h3], ?_⟩
    simp only [TV.cells, TV.pv, h3, (cells_pvU u y h2).1]
  | .agg ts, .st us, k, r, hw, hc, h => by
    simp only [sealK] at h
    simp only [TV.wf] at hw
    simp only [U.cmp] at hc
    obtain ⟨x, h1, h2, h3⟩ := sealS_cmp ts us hw.2.1 hc h
    refine ⟨x, h1, by simpa only [wfU] using h2, ?_, ?_⟩
    · simp only [TV.pv, pvU, cellU, h3]
    · simp only [TV.cells, TV.pv, cellsOf, cellU]; exact h3
  | .nil, .sl _, _, _, _, hc, _ | .fsl _ _, .sl _, _, _, _, hc, _ => by simp [U.cmp] at hc
  | .nil, .int _, _, _, _, _, h | .nil, .bool, _, _, _, _, h | .nil, .str, _, _, _, _, h | .nil, .arr _ _, _, _, _, _, h | .nil, .st _, _, _, _, _, h | .nil, .leaf, _, _, _, _, h => by simp [sealK] at h
  | .fsl _ _, .int _, _, _, _, _, h | .fsl _ _, .bool, _, _, _, _, h | .fsl _ _, .str, _, _, _, _, h | .fsl _ _, .arr _ _, _, _, _, _, h | .fsl _ _, .st _, _, _, _, _, h | .fsl _ _, .leaf, _, _, _, _, h => by simp [sealK] at h
  | .agg _, .int _, _, _, _, _, h | .agg _, .bool, _, _, _, _, h | .agg _, .str, _, _, _, _, h | .agg _, .arr _ _, _, _, _, _, h | .agg _, .sl _, _, _, _, _, h | .agg _, .leaf, _, _, _, _, h => by simp [sealK] at h
  | .ref _ _, _, _, _, _, _, h | .tup _, _, _, _, _, _, h | .ptr _ _ _, _, _, _, _, _, h | .os _ _ _ _ _ _, _, _, _, _, _, h | .fn _ _, _, _, _, _, _, h | .nilp, _, _, _, _, _, h | .nilf, _, _, _, _, _, h
  | .nili, _, _, _, _, _, h | .nilm, _, _, _, _, _, h
  | .ifc _ _, _, _, _, _, _, h | .dead, _, _, _, _, _, h => by simp [sealK] at h
theorem sealS_cmp {R : Type} : ∀ (ts : List TV) (us : Us) {k : us.T → Option R} {r : R}, TV.wfs ts → us.cmp = true → sealS ts us k = some r → ∃ x, k x = some r ∧ wfUs us x ∧ TV.cellsL ts = cellUs us x
  | [t], .one u, k, r, hw, hc, h => by
    simp only [sealS] at h
    simp only [TV.wfs] at hw
    simp only [Us.cmp] at hc
    obtain ⟨x, h1, h2, _, h3⟩ := seal_cmp t u hw.1 hc h
    refine ⟨x, h1, by simpa only [wfUs] using h2, ?_⟩
    simp only [TV.cellsL, List.append_nil, cellUs]; exact h3
  | t :: ts, .cons u us, k, r, hw, hc, h => by
    simp only [sealS] at h
    simp only [TV.wfs] at hw
    simp only [Us.cmp, Bool.and_eq_true] at hc
    obtain ⟨x, h1, h2, _, h3⟩ := seal_cmp t u hw.1 hc.1 h
    obtain ⟨y, h4, h5, h6⟩ := sealS_cmp ts us hw.2 hc.2 h1
    refine ⟨(x, y), h4, by simp only [wfUs]; exact ⟨h2, h5⟩, ?_⟩
    simp only [TV.cellsL, cellUs]; rw [h6]; congr 1
  | [], us, _, _, _, _, h => by cases us <;> simp [sealS] at h
  | _ :: _ :: _, .one _, _, _, _, _, h => by simp [sealS] at h
end

theorem arr_of_list' {α : Type} {xs : Array α} {l : List α} (h : xs.toList = l) : xs = l.toArray := by rw [← h]

def eqFuel : Nat := 12

/-- what the model asks of a type whose values are compared part by part -/
def cmpTy (P : Program) (t : TypeId) (u : U) : Bool :=
  u.cmp && u.isAgg && agree P eqFuel t u && eqTy P eqFuel t && !(P.eqGuardType P.depth t) && (match tyAgg P t with | some true => true | _ => false)

def eqAK {R : Type} (P : Program) (op : BinOp) (t : TypeId) (a b : TV) (k : TV → Option R) : Option R :=
  match codeOf P eqFuel t with
  | some u => bif cmpTy P t u then sealK a u fun x => sealK b u fun y =>
      (match op with
      | .eql => k (.v .bool (eqU u x y))
      | .neq => k (.v .bool (!(eqU u x y)))
      | _ => none) else none
  | none => none

theorem eqA_spec {R : Type} {P : Program} {o : Oper} {σ : TS} {op : BinOp} {t yt : TypeId} {x y : Operand} {k : TV → Option R} {r : R} (ho : o.op = .binOp op t x y yt) (hw : σ.wf)
    (h : eqAK P op t (σ.eval x) (σ.eval y) k = some r) : ∃ q, k q = some r ∧ TQ P o σ q := by
  have hwx := eval_wf hw x
  have hwy := eval_wf hw y
  unfold eqAK at h
  split at h
  · rename_i u _
    cases hc : cmpTy P t u with
    | false => rw [hc] at h; cases h
    | true =>
      rw [hc] at h
      simp only [cmpTy, Bool.and_eq_true, Bool.not_eq_true'] at hc
      obtain ⟨⟨⟨⟨⟨c1, c2⟩, c3⟩, c4⟩, c5⟩, c6⟩ := hc
      have hag : tyAgg P t = some true := by
        split at c6
        · assumption
        · cases c6
      obtain ⟨a, h1, wa, pa, _⟩ := seal_cmp _ u hwx c1 h
      obtain ⟨b, h2, wb, pb, _⟩ := seal_cmp _ u hwy c1 h1
      have nd : ∀ {z : Operand} {w : u.T}, (σ.eval z).pv = pvU u w → σ.flat.eval z = .agg ((valsU u w).map PV.val) := by
        intro z w e
        rcases eval_flat σ z with hz | hz
        · rw [hz, e, pvU_agg w c2, cell_vals u w c1]
        · rw [hz, pvU_agg w c2] at e; simp [TV.pv] at e
      have ex := nd pa
      have ey := nd pb
      have s1 := shaped_of eqFuel t u a c3 c1 wa
      have s2 := shaped_of eqFuel t u b c3 c1 wb
      have hr : eqU u a b = true ↔ valsU u a = valsU u b := by
        rw [eqU_iff c1]
        exact ⟨fun e => by rw [e], fun e => vals_inj u a b c1 wa wb e⟩
      split at h2
      · exact ⟨_, h2, by simp only [TV.wf, wfU], fun _ => q_eqAgg ho c5 (by decide) c4 hag ex ey s1 s2 hr⟩
      · exact ⟨_, h2, by simp only [TV.wf, wfU], fun _ => q_neAgg ho c5 (by decide) c4 hag ex ey s1 s2 hr⟩
      · cases h2
  · cases h

def binK {R : Type} (P : Program) (op : BinOp) (t : TypeId) (a b : TV) (k : TV → Option R) : Option R :=
  match a, b with
  | .v (.int k1) x, .v (.int k2) y => bif kindBeq k1 k2 then (match op with | .shl => shK .shl k1 x y k | .shr => shK .shr k1 x y k | op => binIK op k1 x y k) else shK op k1 x y k
  | .v .str x, .v .str y => binSK op x y k
  | .v .bool x, .v .bool y => match P.underlying t, op with
    | some .bool, .eql => k (.v .bool (x == y))
    | some .bool, .neq => k (.v .bool (!(x == y)))
    | _, _ => none
  | a, b => eqAK P op t a b k

theorem bin_spec {R : Type} {P : Program} {o : Oper} {σ : TS} {op : BinOp} {t yt : TypeId} {x y : Operand} {k : TV → Option R} {r : R} (ho : o.op = .binOp op t x y yt) (hw : σ.wf)
    (h : binK P op t (σ.eval x) (σ.eval y) k = some r) : ∃ q, k q = some r ∧ TQ P o σ q := by
  have agg := eqA_spec (P := P) (R := R) (k := k) (r := r) ho hw
  unfold binK at h
  generalize hx : σ.eval x = a at h agg
  generalize hy : σ.eval y = b at h agg
  split at h
  · rename_i k1 x' k2 y'
    cases hc : kindBeq k1 k2 with
    | false => rw [hc] at h; exact sh_spec ho hx hy hw h
    | true =>
      rw [hc] at h
      simp only [cond_true] at h
      split at h
      · exact sh_spec ho hx hy hw h
      · exact sh_spec ho hx hy hw h
      · have e := kindBeq_eq hc; subst e
        exact binI_spec ho hx hy hw h
  · exact binS_spec ho hx hy hw h
  · rename_i x' y'
    have ex : σ.flat.eval x = .val (.bool x') := eval_eq hx (by simp)
    have ey : σ.flat.eval y = .val (.bool y') := eval_eq hy (by simp)
    split at h
    · rename_i hu; exact ⟨_, h, by simp only [TV.wf, wfU], fun _ => q_eqBool ho hu ex ey⟩
    · rename_i hu; exact ⟨_, h, by simp only [TV.wf, wfU], fun _ => q_neBool ho hu ex ey⟩
    · cases h
  · exact agg h

/-! ### one thing turned -/
def unK {R : Type} (op : UnOp) (a : TV) (k : TV → Option R) : Option R :=
  match op, a with
  | .not, .v .bool b => k (.v .bool (!b))
  | .neg, .v (.int kd) n => k (.v (.int kd) (kd.wrap (0 - n)))
  | _, _ => none

theorem un_spec {R : Type} {P : Program} {o : Oper} {σ : TS} {op : UnOp} {t : TypeId} {x : Operand} {k : TV → Option R} {r : R} (ho : o.op = .unOp op t x) (h : unK op (σ.eval x) k = some r) :
    ∃ q, k q = some r ∧ TQ P o σ q := by
  unfold unK at h
  generalize hx : σ.eval x = a at h
  split at h
  · exact ⟨_, h, by simp only [TV.wf, wfU], fun _ => q_not ho (eval_eq hx (by simp))⟩
  · exact ⟨_, h, by simp only [TV.wf, wfU]; exact wrap_range _ _, fun _ => q_neg ho (eval_eq hx (by simp))⟩
  · cases h

def convK {R : Type} (P : Program) (s t : TypeId) (a : TV) (k : TV → Option R) : Option R :=
  match P.underlying s, P.underlying t, a with
  | some _, some (.int k'), .v (.int _) n => k (.v (.int k') (k'.wrap n))
  | some .string, some .string, .v .str x => k (.v .str x)
  | _, _, _ => none

theorem conv_spec {R : Type} {P : Program} {o : Oper} {σ : TS} {s t : TypeId} {x : Operand} {k : TV → Option R} {r : R} (ho : o.op = .convert s t x) (hw : σ.wf) (h : convK P s t (σ.eval x) k = some r) :
    ∃ q, k q = some r ∧ TQ P o σ q := by
  have hwx := eval_wf hw x
  unfold convK at h
  generalize hx : σ.eval x = a at h hwx
  split at h
  · rename_i hs ht; exact ⟨_, h, by simp only [TV.wf, wfU]; exact wrap_range _ _, fun _ => q_conv ho hs ht (eval_eq hx (by simp))⟩
  · rename_i hs ht; exact ⟨_, h, hwx, fun _ => q_convStr ho hs ht (eval_eq hx (by simp))⟩
  · cases h

/-! ### how many -/
def lenK {R : Type} (P : Program) (t : TypeId) (a : TV) (k : TV → Option R) : Option R :=
  match P.underlying t, a with
  | some (.slice _), .v (.sl _) l => k (.v (.int .i64) (List.length l))
  | some (.slice _), .fsl _ l => k (.v (.int .i64) l.length)
  | some (.slice _), .nil => k (.v (.int .i64) 0)
  | some .string, .v .str s => k (.v (.int .i64) (List.length s))
  | _, _ => none

/-- lengths are numbers: what is longer is nowhere -/
def shortK {R : Type} (n : Nat) (k : Option R) : Option R := bif Nat.ble n 9223372036854775807 then k else none

def maxI (a b : Int) : Int := if b > a then b else a
def minI (a b : Int) : Int := if b < a then b else a

def biK {R : Type} (P : Program) (b : Builtin) (xs : List TV) (ts : List TypeId) (k : TV → Option R) : Option R :=
  match b, xs, ts with
  | .len, [a], [t] => match P.underlying t, a with
    | some (.slice _), .v (.sl _) l => shortK (List.length l) (k (.v (.int .i64) (List.length l)))
    | some (.slice _), .fsl _ l => shortK (List.length l) (k (.v (.int .i64) (List.length l)))
    | some (.slice _), .nil => k (.v (.int .i64) 0)
    | some .string, .v .str s => shortK (List.length s) (k (.v (.int .i64) (List.length s)))
    | _, _ => none
  | .max, [.v (.int k1) x, .v (.int k2) y], _ => bif kindBeq k1 k2 then k (.v (.int k1) (maxI x y)) else none
  | .min, [.v (.int k1) x, .v (.int k2) y], _ => bif kindBeq k1 k2 then k (.v (.int k1) (minI x y)) else none
  | _, _, _ => none

theorem short_some {R : Type} {n : Nat} {k : Option R} {r : R} (h : shortK n k = some r) : k = some r ∧ n ≤ 9223372036854775807 := by
  unfold shortK at h
  cases hc : Nat.ble n 9223372036854775807 with
  | false => rw [hc] at h; cases h
  | true => rw [hc] at h; exact ⟨h, Nat.le_of_ble_eq_true hc⟩

theorem len_wf {n : Nat} (h : n ≤ 9223372036854775807) : (TV.v (.int .i64) (n : Int)).wf := by
  simp only [TV.wf, wfU]
  exact ⟨by show (-9223372036854775808 : Int) ≤ n; omega, by show (n : Int) ≤ 9223372036854775807; omega⟩

theorem bi_spec {R : Type} {P : Program} {o : Oper} {σ : TS} {b : Builtin} {xs : Array Operand} {ts : Array TypeId} {k : TV → Option R} {r : R} (ho : o.op = .call { callee := .builtin b, args := xs, argTypes := ts }) (hw : σ.wf)
    (h : biK P b (xs.toList.map σ.eval) ts.toList k = some r) : ∃ q, k q = some r ∧ TQ P o σ q := by
  unfold biK at h
  generalize hm : xs.toList.map σ.eval = m at h
  generalize hts : ts.toList = l at h
  have one : ∀ {a}, m = [a] → ∃ x, xs = #[x] ∧ σ.eval x = a := fun {a} e => by
    rw [e] at hm
    obtain ⟨x, l', h1, h2, h3⟩ := List.map_eq_cons_iff.1 hm
    have := List.map_eq_nil_iff.1 h3
    subst this
    exact ⟨x, arr_of_list' h1, h2⟩
  have two : ∀ {a b}, m = [a, b] → ∃ x y, xs = #[x, y] ∧ σ.eval x = a ∧ σ.eval y = b := fun {a b} e => by
    rw [e] at hm
    obtain ⟨x, l', h1, h2, h3⟩ := List.map_eq_cons_iff.1 hm
    obtain ⟨y, l'', g1, g2, g3⟩ := List.map_eq_cons_iff.1 h3
    have := List.map_eq_nil_iff.1 g3
    subst this; subst g1
    exact ⟨x, y, arr_of_list' h1, h2, g2⟩
  split at h
  · rename_i a t
    obtain ⟨x, rfl, hx⟩ := one rfl
    have e := arr_of_list' hts
    subst e
    have hwx := eval_wf hw x
    rw [hx] at hwx
    split at h
    · rename_i u l' hu
      obtain ⟨h, hs⟩ := short_some h
      exact ⟨_, h, len_wf hs, fun _ => q_len_tr ho hu (eval_eq hx (by simp))⟩
    · rename_i u l' hu
      obtain ⟨h, hs⟩ := short_some h
      exact ⟨_, h, len_wf hs, fun _ => q_len_tr ho hu (eval_eq hx (by simp))⟩
    · rename_i hu
      exact ⟨_, h, len_wf (n := 0) (by omega), fun _ => q_len_tr ho hu (eval_eq hx (by simp))⟩
    · rename_i s hu
      obtain ⟨h, hs⟩ := short_some h
      refine ⟨_, h, len_wf hs, ?_⟩
      intro Y
      have := q_len_str (P := P) (σ := { σ.flat with H := σ.flat.H ++ Y }) ho hu (eval_eq hx (by simp))
      rw [ba_size] at this; exact this
    · cases h
  · rename_i k1 x' k2 y'
    obtain ⟨x, y, rfl, hx, hy⟩ := two rfl
    cases hc : kindBeq k1 k2 with
    | false => rw [hc] at h; cases h
    | true =>
      rw [hc] at h
      have e := kindBeq_eq hc; subst e
      have hwx := eval_wf hw x; rw [hx] at hwx; simp only [TV.wf, wfU] at hwx
      have hwy := eval_wf hw y; rw [hy] at hwy; simp only [TV.wf, wfU] at hwy
      exact ⟨_, h, by simp only [TV.wf, wfU, maxI]; split <;> assumption, fun _ => q_max ho (eval_eq hx (by simp)) (eval_eq hy (by simp))⟩
  · rename_i k1 x' k2 y'
    obtain ⟨x, y, rfl, hx, hy⟩ := two rfl
    cases hc : kindBeq k1 k2 with
    | false => rw [hc] at h; cases h
    | true =>
      rw [hc] at h
      have e := kindBeq_eq hc; subst e
      have hwx := eval_wf hw x; rw [hx] at hwx; simp only [TV.wf, wfU] at hwx
      have hwy := eval_wf hw y; rw [hy] at hwy; simp only [TV.wf, wfU] at hwy
      exact ⟨_, h, by simp only [TV.wf, wfU, minI]; split <;> assumption, fun _ => q_min ho (eval_eq hx (by simp)) (eval_eq hy (by simp))⟩
  · cases h

/-! ### of a tuple -/
def extractK {R : Type} (i : Nat) (a : TV) (k : TV → Option R) : Option R :=
  match a with
  | .tup ts => match ts[i]? with
    | some t => k t
    | none => none
  | _ => none

theorem extract_spec {R : Type} {P : Program} {o : Oper} {σ : TS} {x : Operand} {i : Nat} {k : TV → Option R} {r : R} (ho : o.op = .extract x i) (hw : σ.wf) (h : extractK i (σ.eval x) k = some r) :
    ∃ q, k q = some r ∧ TQ P o σ q := by
  have hwx := eval_wf hw x
  unfold extractK at h
  generalize hx : σ.eval x = a at h hwx
  split at h
  · rename_i ts
    split at h
    · rename_i t ht
      simp only [TV.wf] at hwx
      have ex : σ.flat.eval x = .tup (TV.pvs ts) := by rw [eval_eq hx (by simp)]; simp only [TV.pv]
      exact ⟨_, h, wfs_iff.1 hwx t (List.mem_of_getElem? ht), fun _ => q_extract ho ex (by rw [pvs_map, List.getElem?_map, ht]; rfl)⟩
    · cases h
  · cases h

end Go.Tm
