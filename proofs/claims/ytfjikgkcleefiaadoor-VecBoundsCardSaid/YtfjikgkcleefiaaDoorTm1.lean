/- The typed machine, part 1: codes of types, typed data, and the cells that they fill. -/
import Derived.Test.YtfjikgkcleefiaaDoorAb20
import Derived.KernelRfl
set_option linter.unusedSimpArgs false
set_option linter.unusedVariables false
namespace Go.Tm
open Go.Ab

mutual
/-- Codes of types: whole numbers, truths, strings, arrays, slices, structs; a leaf is any other thing of one cell. -/
inductive U where
  | int (k : IntKind)
  | bool
  | str
  | arr (n : Nat) (u : U)
  | sl (u : U)
  | st (us : Us)
  | leaf
inductive Us where
  | one (u : U)
  | cons (u : U) (us : Us)
end

mutual
@[reducible] def U.T : U → Type
  | .int _ => Int
  | .bool => Bool
  | .str => List Int
  | .arr _ u => List u.T
  | .sl u => List u.T
  | .st us => us.T
  | .leaf => Unit
@[reducible] def Us.T : Us → Type
  | .one u => u.T
  | .cons u us => u.T × us.T
end

def kindBeq : IntKind → IntKind → Bool
  | .i8, .i8 | .i16, .i16 | .i32, .i32 | .i64, .i64 | .u8, .u8 | .u16, .u16 | .u32, .u32 | .u64, .u64 => true
  | _, _ => false

theorem kindBeq_eq {a b : IntKind} (h : kindBeq a b = true) : a = b := by cases a <;> cases b <;> first | rfl | cases h

mutual
def U.beq : U → U → Bool
  | .int k, .int k' => kindBeq k k'
  | .bool, .bool => true
  | .str, .str => true
  | .arr n u, .arr m v => Nat.beq n m && u.beq v
  | .sl u, .sl v => u.beq v
  | .st us, .st vs => us.beq vs
  | .leaf, .leaf => true
  | _, _ => false
def Us.beq : Us → Us → Bool
  | .one u, .one v => u.beq v
  | .cons u us, .cons v vs => u.beq v && us.beq vs
  | _, _ => false
end

mutual
theorem U.beq_eq : ∀ {u v : U}, u.beq v = true → u = v
  | .int k, v, h => by cases v <;> simp only [U.beq] at h <;> first | (cases h; done) | skip
                       rw [kindBeq_eq h]
  | .bool, v, h => by cases v <;> simp only [U.beq] at h <;> first | (cases h; done) | rfl
  | .str, v, h => by cases v <;> simp only [U.beq] at h <;> first | (cases h; done) | rfl
  | .leaf, v, h => by cases v <;> simp only [U.beq] at h <;> first | (cases h; done) | rfl
  | .arr n u, v, h => by
    cases v <;> simp only [U.beq] at h <;> first | (cases h; done) | skip
    simp only [Bool.and_eq_true] at h
    rw [Nat.eq_of_beq_eq_true h.1, U.beq_eq h.2]
  | .sl u, v, h => by
    cases v <;> simp only [U.beq] at h <;> first | (cases h; done) | skip
    rw [U.beq_eq h]
  | .st us, v, h => by
    cases v <;> simp only [U.beq] at h <;> first | (cases h; done) | skip
    rw [Us.beq_eq h]
theorem Us.beq_eq : ∀ {u v : Us}, u.beq v = true → u = v
  | .one u, v, h => by
    cases v <;> simp only [Us.beq] at h <;> first | (cases h; done) | skip
    rw [U.beq_eq h]
  | .cons u us, v, h => by
    cases v <;> simp only [Us.beq] at h <;> first | (cases h; done) | skip
    simp only [Bool.and_eq_true] at h
    rw [U.beq_eq h.1, Us.beq_eq h.2]
end

/-- A typed thing, looked upon as of another code, if that is the same. -/
def castK {R : Type} (u v : U) (x : u.T) (k : v.T → Option R) : Option R :=
  match h : u.beq v with
  | true => k (U.beq_eq h ▸ x)
  | false => none

theorem castK_some {R : Type} {u v : U} {x : u.T} {k : v.T → Option R} {r : R} (h : castK u v x k = some r) : ∃ e : u = v, k (e ▸ x) = some r := by
  unfold castK at h
  split at h
  · rename_i e; exact ⟨U.beq_eq e, h⟩
  · cases h

/-! ### sizes, places -/
mutual
def U.size : U → Nat
  | .arr n u => n * u.size
  | .st us => us.size
  | _ => 1
def Us.size : Us → Nat
  | .one u => u.size
  | .cons u us => u.size + us.size
end

def U.isAgg : U → Bool
  | .arr _ _ | .st _ => true
  | _ => false

def Us.at : Us → Nat → Option U
  | .one u, 0 => some u
  | .one _, _ + 1 => none
  | .cons u _, 0 => some u
  | .cons _ us, i + 1 => us.at i

def Us.off : Us → Nat → Nat
  | .one _, _ => 0
  | .cons _ _, 0 => 0
  | .cons u us, i + 1 => u.size + us.off i

def Us.len : Us → Nat
  | .one _ => 1
  | .cons _ us => us.len + 1

inductive Stp where
  | fld (i : Nat)
  | idx (i : Nat)

def U.at : U → List Stp → Option U
  | u, [] => some u
  | .st us, .fld i :: p => match us.at i with
    | some u => u.at p
    | none => none
  | .arr _ u, .idx _ :: p => u.at p
  | _, _ => none

def U.off : U → List Stp → Nat
  | _, [] => 0
  | .st us, .fld i :: p => us.off i + (match us.at i with
    | some u => u.off p
    | none => 0)
  | .arr _ u, .idx i :: p => i * u.size + u.off p
  | _, _ => 0

/-! ### what they hold -/
/-- bytes -/
def ba (l : List Int) : ByteArray := ⟨(l.map fun n => UInt8.ofNat n.toNat).toArray⟩

mutual
def cellU : (u : U) → u.T → List PV
  | .int k, n => [.val (.int k n)]
  | .bool, b => [.val (.bool b)]
  | .str, s => [.val (.string (ba s))]
  | .arr _ u, l => List.flatMap (fun x => cellU u x) l
  | .sl u, l => [.tr (List.length l) (List.flatMap (fun x => cellU u x) l) .no]
  | .st us, x => cellUs us x
  | .leaf, _ => [.dead]
def cellUs : (us : Us) → us.T → List PV
  | .one u, x => cellU u x
  | .cons u us, x => cellU u x.1 ++ cellUs us x.2
end

/-- what fills a slice's memory -/
def rowU (u : U) (l : List u.T) : List PV := l.flatMap fun x => cellU u x

def byteOk (l : List Int) : Prop := ∀ n, n ∈ l → 0 ≤ n ∧ n < 256

mutual
/-- It is right: numbers are of their kind, arrays as long as they say. -/
def wfU : (u : U) → u.T → Prop
  | .int k, n => k.min ≤ n ∧ n ≤ k.max
  | .bool, _ => True
  | .str, s => byteOk s
  | .arr n u, l => List.length l = n ∧ ∀ x, x ∈ l → wfU u x
  | .sl u, l => ∀ x, x ∈ l → wfU u x
  | .st us, x => wfUs us x
  | .leaf, _ => False
def wfUs : (us : Us) → us.T → Prop
  | .one u, x => wfU u x
  | .cons u us, x => wfU u x.1 ∧ wfUs us x.2
end

def pvU : (u : U) → u.T → PV
  | .int k, n => .val (.int k n)
  | .bool, b => .val (.bool b)
  | .str, s => .val (.string (ba s))
  | .arr n u, l => .agg (cellU (.arr n u) l)
  | .sl u, l => .tr (List.length l) (List.flatMap (fun x => cellU u x) l) .no
  | .st us, x => .agg (cellU (.st us) x)
  | .leaf, _ => .dead

theorem flatMap_length {α : Type} {f : α → List PV} {n : Nat} : ∀ {l : List α}, (∀ x, x ∈ l → (f x).length = n) → (l.flatMap f).length = l.length * n
  | [], _ => by simp
  | x :: l, h => by
    rw [List.flatMap_cons, List.length_append, h x (by simp), flatMap_length (fun y hy => h y (by simp [hy])), List.length_cons, Nat.succ_mul, Nat.add_comm]

mutual
theorem cellU_len : ∀ (u : U) (x : u.T), wfU u x → (cellU u x).length = u.size
  | .int _, _, _ => by simp [cellU, U.size]
  | .bool, _, _ => by simp [cellU, U.size]
  | .str, _, _ => by simp [cellU, U.size]
  | .leaf, _, h => by simp [wfU] at h
  | .sl _, _, _ => by simp [cellU, U.size]
  | .st us, x, h => by
    simp only [cellU, U.size]
    simp only [wfU] at h
    exact cellUs_len us x h
  | .arr n u, l, h => by
    simp only [cellU, U.size]
    simp only [wfU] at h
    rw [← h.1]
    exact flatMap_length fun x hx => cellU_len u x (h.2 x hx)
theorem cellUs_len : ∀ (us : Us) (x : us.T), wfUs us x → (cellUs us x).length = us.size
  | .one u, x, h => by
    simp only [cellUs, Us.size]
    simp only [wfUs] at h
    exact cellU_len u x h
  | .cons u us, x, h => by
    simp only [cellUs, Us.size, List.length_append]
    simp only [wfUs] at h
    rw [cellU_len u x.1 h.1, cellUs_len us x.2 h.2]
end

theorem rowU_len {u : U} {l : List u.T} (h : ∀ x, x ∈ l → wfU u x) : (rowU u l).length = l.length * u.size := flatMap_length fun x hx => cellU_len u x (h x hx)

mutual
theorem leafs_cellU : ∀ (u : U) (x : u.T), wfU u x → Leafs (cellU u x)
  | .int _, _, _ => by intro p hp; simp [cellU] at hp; subst hp; rfl
  | .bool, _, _ => by intro p hp; simp [cellU] at hp; subst hp; rfl
  | .str, _, _ => by intro p hp; simp [cellU] at hp; subst hp; rfl
  | .leaf, _, h => by simp [wfU] at h
  | .sl _, _, _ => by intro p hp; simp [cellU] at hp; subst hp; rfl
  | .st us, x, h => by
    simp only [cellU]
    simp only [wfU] at h
    exact leafs_cellUs us x h
  | .arr n u, l, h => by
    intro p hp
    simp only [cellU, List.mem_flatMap] at hp
    simp only [wfU] at h
    obtain ⟨y, hy, hp⟩ := hp
    exact leafs_cellU u y (h.2 y hy) p hp
theorem leafs_cellUs : ∀ (us : Us) (x : us.T), wfUs us x → Leafs (cellUs us x)
  | .one u, x, h => by
    simp only [cellUs]
    simp only [wfUs] at h
    exact leafs_cellU u x h
  | .cons u us, x, h => by
    simp only [wfUs] at h
    intro p hp
    simp only [cellUs, List.mem_append] at hp
    exact hp.elim (leafs_cellU u x.1 h.1 p) (leafs_cellUs us x.2 h.2 p)
end

theorem leafs_rowU {u : U} {l : List u.T} (h : ∀ x, x ∈ l → wfU u x) : Leafs (rowU u l) := by
  intro p hp
  simp only [rowU, List.mem_flatMap] at hp
  obtain ⟨y, hy, hp⟩ := hp
  exact leafs_cellU u y (h y hy) p hp

/-- A value's own cells. -/
theorem cells_pvU : ∀ (u : U) (x : u.T), wfU u x → cellsOf (pvU u x) = cellU u x ∧ stor (pvU u x) = true
  | .int _, _, _ | .bool, _, _ | .str, _, _ | .sl _, _, _ | .arr _ _, _, _ | .st _, _, _ => ⟨by simp [pvU, cellsOf, cellU], rfl⟩
  | .leaf, _, h => by simp [wfU] at h

theorem pvU_agg : ∀ {u : U} (x : u.T), u.isAgg = true → pvU u x = .agg (cellU u x)
  | .arr _ _, _, _ | .st _, _, _ => rfl
  | .int _, _, h | .bool, _, h | .str, _, h | .sl _, _, h | .leaf, _, h => by cases h

theorem pvU_cell : ∀ {u : U} (x : u.T), u.isAgg = false → cellU u x = [pvU u x]
  | .arr _ _, _, h | .st _, _, h => by cases h
  | .int _, _, _ | .bool, _, _ | .str, _, _ | .sl _, _, _ | .leaf, _, _ => by simp [pvU, cellU]

theorem splice_append (A B q : List PV) (n : Nat) : splice (A ++ B) (A.length + n) q = A ++ splice B n q := by
  unfold splice
  rw [List.take_length_add_append, Nat.add_assoc, List.drop_length_add_append]
  simp

/-! ### parts of a struct -/
def Us.prj : (us : Us) → us.T → (i : Nat) → Option (Σ u : U, u.T)
  | .one u, x, 0 => some ⟨u, x⟩
  | .one _, _, _ + 1 => none
  | .cons u _, x, 0 => some ⟨u, x.1⟩
  | .cons _ us, x, i + 1 => us.prj x.2 i

/-- A struct of which one part is another one. -/
def Us.updK {R : Type} : (us : Us) → us.T → (i : Nat) → (v : U) → v.T → (us.T → Option R) → Option R
  | .one u, _, 0, v, y, k => castK v u y k
  | .one _, _, _ + 1, _, _, _ => none
  | .cons u _, x, 0, v, y, k => castK v u y fun z => k (z, x.2)
  | .cons _ us, x, i + 1, v, y, k => us.updK x.2 i v y fun z => k (x.1, z)

theorem prj_spec : ∀ (us : Us) (x : us.T) (i : Nat) {u : U} {y : u.T}, wfUs us x → us.prj x i = some ⟨u, y⟩ →
    us.at i = some u ∧ wfU u y ∧ ((cellUs us x).drop (us.off i)).take u.size = cellU u y ∧ us.off i + u.size ≤ us.size
  | .one v, x, 0, u, y, h, e => by
    simp only [Us.prj, Option.some.injEq, Sigma.mk.injEq] at e
    obtain ⟨rfl, e⟩ := e
    have := eq_of_heq e; subst this
    simp only [wfUs] at h
    refine ⟨rfl, h, ?_, by simp [Us.off, Us.size]⟩
    simp only [Us.off, cellUs, List.drop_zero]
    rw [List.take_of_length_le (by rw [cellU_len _ _ h]; exact Nat.le_refl _)]
  | .one _, _, _ + 1, _, _, _, e => by simp [Us.prj] at e
  | .cons v us, x, 0, u, y, h, e => by
    simp only [Us.prj, Option.some.injEq, Sigma.mk.injEq] at e
    obtain ⟨rfl, e⟩ := e
    have := eq_of_heq e; subst this
    simp only [wfUs] at h
    refine ⟨rfl, h.1, ?_, by simp [Us.off, Us.size]⟩
    simp only [Us.off, cellUs, List.drop_zero]
    rw [← cellU_len _ _ h.1, List.take_left']
    rfl
  | .cons v us, x, i + 1, u, y, h, e => by
    simp only [Us.prj] at e
    simp only [wfUs] at h
    obtain ⟨h1, h2, h3, h4⟩ := prj_spec us x.2 i h.2 e
    refine ⟨h1, h2, ?_, by simp only [Us.off, Us.size]; omega⟩
    simp only [Us.off, cellUs]
    rw [← cellU_len _ _ h.1, List.drop_append, List.drop_of_length_le (by omega), Nat.add_sub_cancel_left]
    simpa using h3

theorem updK_spec {R : Type} : ∀ (us : Us) (x : us.T) (i : Nat) {v : U} {y : v.T} {k : us.T → Option R} {r : R}, wfUs us x → wfU v y → us.updK x i v y k = some r →
    ∃ z, k z = some r ∧ us.at i = some v ∧ wfUs us z ∧ cellUs us z = splice (cellUs us x) (us.off i) (cellU v y)
  | .one u, x, 0, v, y, k, r, h, hy, e => by
    simp only [Us.updK] at e
    obtain ⟨rfl, e⟩ := castK_some e
    simp only [wfUs] at h
    refine ⟨y, e, rfl, by simpa only [wfUs] using hy, ?_⟩
    simp only [cellUs, Us.off, splice, List.take_zero, List.nil_append, Nat.zero_add]
    rw [List.drop_of_length_le (by rw [cellU_len _ _ h, cellU_len _ _ hy]; exact Nat.le_refl _)]; simp
  | .one _, _, _ + 1, _, _, _, _, _, _, e => by simp [Us.updK] at e
  | .cons u us, x, 0, v, y, k, r, h, hy, e => by
    simp only [Us.updK] at e
    obtain ⟨rfl, e⟩ := castK_some e
    simp only [wfUs] at h
    refine ⟨_, e, rfl, by simp only [wfUs]; exact ⟨hy, h.2⟩, ?_⟩
    simp only [cellUs, Us.off, splice, List.take_zero, List.nil_append, Nat.zero_add]
    rw [List.drop_append, List.drop_of_length_le (by rw [cellU_len _ _ h.1, cellU_len _ _ hy]; exact Nat.le_refl _), cellU_len _ _ hy, cellU_len _ _ h.1]; simp
  | .cons u us, x, i + 1, v, y, k, r, h, hy, e => by
    simp only [Us.updK] at e
    simp only [wfUs] at h
    obtain ⟨z, h1, h2, h3, h4⟩ := updK_spec us x.2 i h.2 hy e
    refine ⟨_, h1, h2, by simp only [wfUs]; exact ⟨h.1, h3⟩, ?_⟩
    simp only [cellUs, Us.off, h4]
    rw [← cellU_len _ _ h.1, splice_append]

/-! ### parts of a row -/
theorem row_split {u : U} : ∀ {l : List u.T} {i : Nat} {x : u.T}, (∀ y, y ∈ l → wfU u y) → l[i]? = some x →
    ((rowU u l).drop (i * u.size)).take u.size = cellU u x ∧ i * u.size + u.size ≤ (rowU u l).length
  | [], _, _, _, h => by simp at h
  | y :: l, 0, x, hw, h => by
    simp at h; subst h
    have hl := cellU_len u y (hw y (by simp))
    simp only [rowU, List.flatMap_cons, Nat.zero_mul, List.drop_zero]
    exact ⟨by rw [← hl, List.take_left']; rfl, by simp; omega⟩
  | y :: l, i + 1, x, hw, h => by
    have hl := cellU_len u y (hw y (by simp))
    obtain ⟨h1, h2⟩ := row_split (l := l) (i := i) (fun z hz => hw z (by simp [hz])) (by simpa using h)
    simp only [rowU, List.flatMap_cons] at h1 h2 ⊢
    refine ⟨?_, by simp only [List.length_append]; rw [Nat.succ_mul]; omega⟩
    rw [List.drop_append, List.drop_of_length_le (by rw [hl, Nat.succ_mul]; omega), hl]
    have : (i + 1) * u.size - u.size = i * u.size := by rw [Nat.succ_mul]; omega
    rw [this]; simpa using h1

theorem row_set {u : U} : ∀ {l : List u.T} {i : Nat} {x : u.T}, (∀ y, y ∈ l → wfU u y) → wfU u x → i < l.length →
    rowU u (l.set i x) = splice (rowU u l) (i * u.size) (cellU u x)
  | [], _, _, _, _, h => by simp at h
  | y :: l, 0, x, hw, hx, h => by
    have hl := cellU_len u y (hw y (by simp))
    have hl2 := cellU_len u x hx
    simp only [rowU, List.set_cons_zero, List.flatMap_cons, Nat.zero_mul, splice, List.take_zero, List.nil_append, Nat.zero_add]
    rw [List.drop_append, List.drop_of_length_le (by omega), hl2, hl]; simp
  | y :: l, i + 1, x, hw, hx, h => by
    have hl := cellU_len u y (hw y (by simp))
    have ih := row_set (l := l) (i := i) (x := x) (fun z hz => hw z (by simp [hz])) hx (by simpa using h)
    simp only [rowU, List.set_cons_succ, List.flatMap_cons] at ih ⊢
    rw [ih]
    have e : (i + 1) * u.size = u.size + i * u.size := by rw [Nat.succ_mul, Nat.add_comm]
    rw [e, ← hl, splice_append]

theorem rowU_append {u : U} (l m : List u.T) : rowU u (l ++ m) = rowU u l ++ rowU u m := by simp [rowU]

theorem rowU_drop {u : U} : ∀ {l : List u.T} {i : Nat}, (∀ y, y ∈ l → wfU u y) → i ≤ l.length → (rowU u l).drop (i * u.size) = rowU u (l.drop i)
  | l, 0, _, _ => by simp
  | [], i + 1, _, h => by simp at h
  | y :: l, i + 1, hw, h => by
    have hl := cellU_len u y (hw y (by simp))
    have ih := rowU_drop (l := l) (i := i) (fun z hz => hw z (by simp [hz])) (by simpa using h)
    simp only [rowU, List.drop_succ_cons, List.flatMap_cons] at ih ⊢
    rw [List.drop_append, List.drop_of_length_le (by rw [hl, Nat.succ_mul]; omega), hl]
    have : (i + 1) * u.size - u.size = i * u.size := by rw [Nat.succ_mul]; omega
    rw [this, ih]; simp

theorem rowU_take {u : U} : ∀ {l : List u.T} {i : Nat}, (∀ y, y ∈ l → wfU u y) → i ≤ l.length → (rowU u l).take (i * u.size) = rowU u (l.take i)
  | l, 0, _, _ => by simp [rowU]
  | [], i + 1, _, h => by simp at h
  | y :: l, i + 1, hw, h => by
    have hl := cellU_len u y (hw y (by simp))
    have ih := rowU_take (l := l) (i := i) (fun z hz => hw z (by simp [hz])) (by simpa using h)
    simp only [rowU, List.take_succ_cons, List.flatMap_cons] at ih ⊢
    rw [List.take_append, List.take_of_length_le (by rw [hl, Nat.succ_mul]; omega), hl]
    have : (i + 1) * u.size - u.size = i * u.size := by rw [Nat.succ_mul]; omega
    rw [this, ih]

end Go.Tm
