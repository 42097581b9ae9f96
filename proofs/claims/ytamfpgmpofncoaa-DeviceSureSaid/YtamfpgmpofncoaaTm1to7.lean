import Derived.Test.YtamfpgmpofncoaaAb27toP
import Derived.KernelRfl
open Nat renaming eq_of_beq_eq_true → kA, beq → kC, succ_mul → kK, le_refl → kV, le_of_ble_eq_true → kZ, zero_add → kb, ble → kg, add_comm → km, zero_mul → kv, blt → lA
open Bool renaming and_eq_true → kB, not_eq_true' → kc, eq_iff_iff → kx
open List renaming mem_of_getElem? → kD, flatMap_cons → kE, drop_of_length_le → kF, getElem?_eq_some_iff → kH, length → kI, nil_append → kJ, length_append → kL, getElem?_eq_getElem → kM, mem_of_mem_drop → kN, mem_of_mem_take → kO, mem_or_eq_of_mem_set → kP, cons_append → kQ, drop_append → kR, map_cons → kS, set_cons_zero → kT, take_of_length_le → kU, mem_map → kW, take_zero → kY, drop_length_add_append → k0, append_nil → k8, eq_of_mem_replicate → k9, mem_singleton → ka, mem_cons → ke, map_eq_cons_iff → kh, mem_append → ki, take_left' → kj, drop_zero → ko, all_eq_true → kr, flatMap → kt, length_take → ku, replicate → kz
open Option renaming bind_eq_some_iff → kG, map_some → ky
open Go.Result renaming andThen_ok → kq
open Go.Sem renaming run_bind → kw
set_option linter.unusedSimpArgs false
set_option linter.unusedVariables false
namespace Go.Tm
open Go.Ab
mutual
inductive U where
 | int (k : IntKind)
 | bool
 | str
 | arr (n : Nat) (u : U)
 | sl (u : U)
 | st (us : Us)
 | leaf
inductive Us where
 | one (u : U)
 | cons (u : U) (us : Us)
end
mutual
@[reducible] def U.T : U -> Type
 | .int _ => Int
 | .bool => Bool
 | .str => List Int
 | .arr _ u => List u.T
 | .sl u => List u.T
 | .st us => us.T
 | .leaf => Unit
@[reducible] def Us.T : Us -> Type
 | .one u => u.T
 | .cons u us => u.T × us.T
end
def vK : IntKind -> IntKind -> Bool
 | .i8, .i8 | .i16, .i16 | .i32, .i32 | .i64, .i64 | .u8, .u8 | .u16, .u16 | .u32, .u32 | .u64, .u64 => true
 | _, _ => false
theorem vh {a b : IntKind} (h : vK a b = true) : a = b := by cases a <;> cases b <;> first | rfl | cases h
mutual
def U.beq : U -> U -> Bool
 | .int k, .int k' => vK k k'
 | .bool, .bool => true
 | .str, .str => true
 | .arr n u, .arr m v => kC n m && u.beq v
 | .sl u, .sl v => u.beq v
 | .st us, .st vs => us.beq vs
 | .leaf, .leaf => true
 | _, _ => false
def Us.beq : Us -> Us -> Bool
 | .one u, .one v => u.beq v
 | .cons u us, .cons v vs => u.beq v && us.beq vs
 | _, _ => false
end
mutual
theorem U.beq_eq : ∀ {u v : U}, u.beq v = true -> u = v
 | .int k, v, h => by
  cases v <;> simp only [U.beq] at h <;> first | (cases h; done) | skip
  rw [vh h]
 | .bool, v, h => by cases v <;> simp only [U.beq] at h <;> first | (cases h; done) | rfl
 | .str, v, h => by cases v <;> simp only [U.beq] at h <;> first | (cases h; done) | rfl
 | .leaf, v, h => by cases v <;> simp only [U.beq] at h <;> first | (cases h; done) | rfl
 | .arr n u, v, h => by
  cases v <;> simp only [U.beq] at h <;> first | (cases h; done) | skip
  simp only [kB] at h;rw [kA h.1, U.beq_eq h.2]
 | .sl u, v, h => by
  cases v <;> simp only [U.beq] at h <;> first | (cases h; done) | skip
  rw [U.beq_eq h]
 | .st us, v, h => by
  cases v <;> simp only [U.beq] at h <;> first | (cases h; done) | skip
  rw [Us.beq_eq h]
theorem Us.beq_eq : ∀ {u v : Us}, u.beq v = true -> u = v
 | .one u, v, h => by
  cases v <;> simp only [Us.beq] at h <;> first | (cases h; done) | skip
  rw [U.beq_eq h]
 | .cons u us, v, h => by
  cases v <;> simp only [Us.beq] at h <;> first | (cases h; done) | skip
  simp only [kB] at h;rw [U.beq_eq h.1, Us.beq_eq h.2]
end
variable {R : Type}
def xV (u v : U) (x : u.T) (k : v.T -> Option R) : Option R :=
 match h : u.beq v with
 | true => k (U.beq_eq h ▸ x)
 | false => none
variable {r : R}
theorem yg {u v : U} {x : u.T} {k : v.T -> Option R} (h : xV u v x k = some r) : ∃ e : u = v, k (e ▸ x) = some r := by
 unfold xV at h;split at h
 ·rename_i e; exact ⟨U.beq_eq e, h⟩
 ·cases h
mutual
def U.size : U -> Nat
 | .arr n u => n * u.size
 | .st us => us.size
 | _ => 1
def Us.size : Us -> Nat
 | .one u => u.size
 | .cons u us => u.size + us.size
end
def U.isAgg : U -> Bool
 | .arr _ _ | .st _ => true
 | _ => false
def Us.at : Us -> Nat -> Option U
 | .one u, 0 => some u
 | .one _, _ + 1 => none
 | .cons u _, 0 => some u
 | .cons _ us, i + 1 => us.at i
def Us.off : Us -> Nat -> Nat
 | .one _, _ => 0
 | .cons _ _, 0 => 0
 | .cons u us, i + 1 => u.size + us.off i
def Us.len : Us -> Nat
 | .one _ => 1
 | .cons _ us => us.len + 1
inductive Stp where
 | fld (i : Nat)
 | idx (i : Nat)
def U.at : U -> List Stp -> Option U
 | u, [] => some u
 | .st us, .fld i :: p => match us.at i with
  | some u => u.at p
  | none => none
 | .arr _ u, .idx _ :: p => u.at p
 | _, _ => none
def U.off : U -> List Stp -> Nat
 | _, [] => 0
 | .st us, .fld i :: p => us.off i + (match us.at i with
  | some u => u.off p
  | none => 0)
 | .arr _ u, .idx i :: p => i * u.size + u.off p
 | _, _ => 0
def ba (l : List Int) : ByteArray := ⟨(l.map fun n => UInt8.ofNat n.toNat).toArray⟩
mutual
def zc : (u : U) -> u.T -> List PV
 | .int k, n => [.val (.int k n)]
 | .bool, b => [.val (.bool b)]
 | .str, s => [.val (.string (ba s))]
 | .arr _ u, l => kt (fun x => zc u x) l
 | .sl u, l => [.tr (kI l) (kt (fun x => zc u x) l) .no]
 | .st us, x => zI us x
 | .leaf, _ => [.dead]
def zI : (us : Us) -> us.T -> List PV
 | .one u, x => zc u x
 | .cons u us, x => zc u x.1 ++ zI us x.2
end
def zj (u : U) (l : List u.T) : List PV := l.flatMap fun x => zc u x
def z05 (l : List Int) : Prop := ∀ n, n ∈ l -> 0 <= n /\ n < 256
mutual
def wfU : (u : U) -> u.T -> Prop
 | .int k, n => k.min <= n /\ n <= k.max
 | .bool, _ => True
 | .str, s => z05 s
 | .arr n u, l => kI l = n /\ ∀ x, x ∈ l -> wfU u x
 | .sl u, l => ∀ x, x ∈ l -> wfU u x
 | .st us, x => yV us x
 | .leaf, _ => False
def yV : (us : Us) -> us.T -> Prop
 | .one u, x => wfU u x
 | .cons u us, x => wfU u x.1 /\ yV us x.2
end
def pvU : (u : U) -> u.T -> PV
 | .int k, n => .val (.int k n)
 | .bool, b => .val (.bool b)
 | .str, s => .val (.string (ba s))
 | .arr n u, l => .agg (zc (.arr n u) l)
 | .sl u, l => .tr (kI l) (kt (fun x => zc u x) l) .no
 | .st us, x => .agg (zc (.st us) x)
 | .leaf, _ => .dead
theorem z4e {α : Type} {f : α -> List PV} {n : Nat} : ∀ {l : List α}, (∀ x, x ∈ l -> (f x).length = n) -> (l.flatMap f).length = l.length * n
 | [], _ => by simp
 | x :: l, h => by
  rw [kE, kL, h x (by simp), z4e (fun y hy => h y (by simp [hy])), List.length_cons, kK, km]
mutual
theorem zw : ∀ (u : U) (x : u.T), wfU u x -> (zc u x).length = u.size
 | .int _, _, _ => by simp [zc, U.size]
 | .bool, _, _ => by simp [zc, U.size]
 | .str, _, _ => by simp [zc, U.size]
 | .leaf, _, h => by simp [wfU] at h
 | .sl _, _, _ => by simp [zc, U.size]
 | .st us, x, h => by
  simp only [zc, U.size];simp only [wfU] at h;exact z3i us x h
 | .arr n u, l, h => by
  simp only [zc, U.size];simp only [wfU] at h;rw [<- h.1];exact z4e fun x hx => zw u x (h.2 x hx)
theorem z3i : ∀ (us : Us) (x : us.T), yV us x -> (zI us x).length = us.size
 | .one u, x, h => by
  simp only [zI, Us.size];simp only [yV] at h;exact zw u x h
 | .cons u us, x, h => by
  simp only [zI, Us.size, kL];simp only [yV] at h;rw [zw u x.1 h.1, z3i us x.2 h.2]
end
variable {u : U}
theorem xS {l : List u.T} (h : ∀ x, x ∈ l -> wfU u x) : (zj u l).length = l.length * u.size := z4e fun x hx => zw u x (h x hx)
mutual
theorem vA : ∀ (u : U) (x : u.T), wfU u x -> zd (zc u x)
 | .int _, _, _ => by intro p hp; simp [zc] at hp; subst hp; rfl
 | .bool, _, _ => by intro p hp; simp [zc] at hp; subst hp; rfl
 | .str, _, _ => by intro p hp; simp [zc] at hp; subst hp; rfl
 | .leaf, _, h => by simp [wfU] at h
 | .sl _, _, _ => by intro p hp; simp [zc] at hp; subst hp; rfl
 | .st us, x, h => by
  simp only [zc];simp only [wfU] at h;exact z16 us x h
 | .arr n u, l, h => by
  intro p hp;simp only [zc, List.mem_flatMap] at hp;simp only [wfU] at h;obtain ⟨y, hy, hp⟩ := hp;exact vA u y (h.2 y hy) p hp
theorem z16 : ∀ (us : Us) (x : us.T), yV us x -> zd (zI us x)
 | .one u, x, h => by
  simp only [zI];simp only [yV] at h;exact vA u x h
 | .cons u us, x, h => by
  simp only [yV] at h;intro p hp;simp only [zI, ki] at hp;exact hp.elim (vA u x.1 h.1 p) (z16 us x.2 h.2 p)
end
theorem yQ {l : List u.T} (h : ∀ x, x ∈ l -> wfU u x) : zd (zj u l) := by
 intro p hp;simp only [zj, List.mem_flatMap] at hp;obtain ⟨y, hy, hp⟩ := hp;exact vA u y (h y hy) p hp
theorem vf : ∀ (u : U) (x : u.T), wfU u x -> cellsOf (pvU u x) = zc u x /\ z7r (pvU u x) = true
 | .int _, _, _ | .bool, _, _ | .str, _, _ | .sl _, _, _ | .arr _ _, _, _ | .st _, _, _ => ⟨by simp [pvU, cellsOf, zc], rfl⟩
 | .leaf, _, h => by simp [wfU] at h
theorem z6o : ∀ {u : U} (x : u.T), u.isAgg = true -> pvU u x = .agg (zc u x)
 | .arr _ _, _, _ | .st _, _, _ => rfl
 | .int _, _, h | .bool, _, h | .str, _, h | .sl _, _, h | .leaf, _, h => by cases h
theorem z4m : ∀ {u : U} (x : u.T), u.isAgg = false -> zc u x = [pvU u x]
 | .arr _ _, _, h | .st _, _, h => by cases h
 | .int _, _, _ | .bool, _, _ | .str, _, _ | .sl _, _, _ | .leaf, _, _ => by simp [pvU, zc]
theorem z2l (A B q : List PV) (n : Nat) : splice (A ++ B) (A.length + n) q = A ++ splice B n q := by
 unfold splice;rw [List.take_length_add_append, Nat.add_assoc, k0];simp
def Us.prj : (us : Us) -> us.T -> (i : Nat) -> Option (Σ u : U, u.T)
 | .one u, x, 0 => some ⟨u, x⟩
 | .one _, _, _ + 1 => none
 | .cons u _, x, 0 => some ⟨u, x.1⟩
 | .cons _ us, x, i + 1 => us.prj x.2 i
def Us.updK {R : Type} : (us : Us) -> us.T -> (i : Nat) -> (v : U) -> v.T -> (us.T -> Option R) -> Option R
 | .one u, _, 0, v, y, k => xV v u y k
 | .one _, _, _ + 1, _, _, _ => none
 | .cons u _, x, 0, v, y, k => xV v u y fun z => k (z, x.2)
 | .cons _ us, x, i + 1, v, y, k => us.updK x.2 i v y fun z => k (x.1, z)
theorem z7i : ∀ (us : Us) (x : us.T) (i : Nat) {u : U} {y : u.T}, yV us x -> us.prj x i = some ⟨u, y⟩ ->
  us.at i = some u /\ wfU u y /\ ((zI us x).drop (us.off i)).take u.size = zc u y /\ us.off i + u.size <= us.size
 | .one v, x, 0, u, y, h, e => by
  simp only [Us.prj, Option.some.injEq, Sigma.mk.injEq] at e;obtain ⟨rfl, e⟩ := e;have := eq_of_heq e; subst this;simp only [yV] at h;refine ⟨rfl, h, ?_, by simp [Us.off, Us.size]⟩
  simp only [Us.off, zI, ko];rw [kU (by rw [zw _ _ h]; exact kV _)]
 | .one _, _, _ + 1, _, _, _, e => by simp [Us.prj] at e
 | .cons v us, x, 0, u, y, h, e => by
  simp only [Us.prj, Option.some.injEq, Sigma.mk.injEq] at e;obtain ⟨rfl, e⟩ := e;have := eq_of_heq e; subst this;simp only [yV] at h;refine ⟨rfl, h.1, ?_, by simp [Us.off, Us.size]⟩
  simp only [Us.off, zI, ko];rw [<- zw _ _ h.1, kj];rfl
 | .cons v us, x, i + 1, u, y, h, e => by
  simp only [Us.prj] at e;simp only [yV] at h;obtain ⟨h1, h2, h3, h4⟩ := z7i us x.2 i h.2 e;refine ⟨h1, h2, ?_, by simp only [Us.off, Us.size]; omega⟩
  simp only [Us.off, zI];rw [<- zw _ _ h.1, kR, kF (by omega), Nat.add_sub_cancel_left]
  simpa using h3
theorem ziu {R : Type} : ∀ (us : Us) (x : us.T) (i : Nat) {v : U} {y : v.T} {k : us.T -> Option R} {r : R}, yV us x -> wfU v y -> us.updK x i v y k = some r ->
  ∃ z, k z = some r /\ us.at i = some v /\ yV us z /\ zI us z = splice (zI us x) (us.off i) (zc v y)
 | .one u, x, 0, v, y, k, r, h, hy, e => by
  simp only [Us.updK] at e;obtain ⟨rfl, e⟩ := yg e;simp only [yV] at h;refine ⟨y, e, rfl, by simpa only [yV] using hy, ?_⟩
  simp only [zI, Us.off, splice, kY, kJ, kb];rw [kF (by rw [zw _ _ h, zw _ _ hy]; exact kV _)]; simp
 | .one _, _, _ + 1, _, _, _, _, _, _, e => by simp [Us.updK] at e
 | .cons u us, x, 0, v, y, k, r, h, hy, e => by
  simp only [Us.updK] at e;obtain ⟨rfl, e⟩ := yg e;simp only [yV] at h;refine ⟨_, e, rfl, by simp only [yV]; exact ⟨hy, h.2⟩, ?_⟩
  simp only [zI, Us.off, splice, kY, kJ, kb];rw [kR, kF (by rw [zw _ _ h.1, zw _ _ hy]; exact kV _), zw _ _ hy, zw _ _ h.1]; simp
 | .cons u us, x, i + 1, v, y, k, r, h, hy, e => by
  simp only [Us.updK] at e;simp only [yV] at h;obtain ⟨z, h1, h2, h3, h4⟩ := ziu us x.2 i h.2 hy e;refine ⟨_, h1, h2, by simp only [yV]; exact ⟨h.1, h3⟩, ?_⟩
  simp only [zI, Us.off, h4];rw [<- zw _ _ h.1, z2l]
theorem vS {u : U} : ∀ {l : List u.T} {i : Nat} {x : u.T}, (∀ y, y ∈ l -> wfU u y) -> l[i]? = some x ->
  ((zj u l).drop (i * u.size)).take u.size = zc u x /\ i * u.size + u.size <= (zj u l).length
 | [], _, _, _, h => by simp at h
 | y :: l, 0, x, hw, h => by
  simp at h; subst h;have hl := zw u y (hw y (by simp))
  simp only [zj, kE, kv, ko];exact ⟨by rw [<- hl, kj]; rfl, by simp; omega⟩
 | y :: l, i + 1, x, hw, h => by
  have hl := zw u y (hw y (by simp))
  obtain ⟨h1, h2⟩ := vS (l := l) (i := i) (fun z hz => hw z (by simp [hz])) (by simpa using h)
  simp only [zj, kE] at h1 h2 ⊢;refine ⟨?_, by simp only [kL]; rw [kK]; omega⟩
  rw [kR, kF (by rw [hl, kK]; omega), hl]
  have : (i + 1) * u.size - u.size = i * u.size := by rw [kK]; omega
  rw [this]; simpa using h1
theorem zds {u : U} : ∀ {l : List u.T} {i : Nat} {x : u.T}, (∀ y, y ∈ l -> wfU u y) -> wfU u x -> i < l.length ->
  zj u (l.set i x) = splice (zj u l) (i * u.size) (zc u x)
 | [], _, _, _, _, h => by simp at h
 | y :: l, 0, x, hw, hx, h => by
  have hl := zw u y (hw y (by simp))
  have hl2 := zw u x hx;simp only [zj, kT, kE, kv, splice, kY, kJ, kb];rw [kR, kF (by omega), hl2, hl]; simp
 | y :: l, i + 1, x, hw, hx, h => by
  have hl := zw u y (hw y (by simp))
  have ih := zds (l := l) (i := i) (x := x) (fun z hz => hw z (by simp [hz])) hx (by simpa using h)
  simp only [zj, List.set_cons_succ, kE] at ih ⊢;rw [ih];have e : (i + 1) * u.size = u.size + i * u.size := by rw [kK, km]
  rw [e, <- hl, z2l]
theorem z94 (l m : List u.T) : zj u (l ++ m) = zj u l ++ zj u m := by simp [zj]
theorem z5f {u : U} : ∀ {l : List u.T} {i : Nat}, (∀ y, y ∈ l -> wfU u y) -> i <= l.length -> (zj u l).drop (i * u.size) = zj u (l.drop i)
 | l, 0, _, _ => by simp
 | [], i + 1, _, h => by simp at h
 | y :: l, i + 1, hw, h => by
  have hl := zw u y (hw y (by simp))
  have ih := z5f (l := l) (i := i) (fun z hz => hw z (by simp [hz])) (by simpa using h)
  simp only [zj, List.drop_succ_cons, kE] at ih ⊢;rw [kR, kF (by rw [hl, kK]; omega), hl]
  have : (i + 1) * u.size - u.size = i * u.size := by rw [kK]; omega
  rw [this, ih]; simp
theorem z3d {u : U} : ∀ {l : List u.T} {i : Nat}, (∀ y, y ∈ l -> wfU u y) -> i <= l.length -> (zj u l).take (i * u.size) = zj u (l.take i)
 | l, 0, _, _ => by simp [zj]
 | [], i + 1, _, h => by simp at h
 | y :: l, i + 1, hw, h => by
  have hl := zw u y (hw y (by simp))
  have ih := z3d (l := l) (i := i) (fun z hz => hw z (by simp [hz])) (by simpa using h)
  simp only [zj, List.take_succ_cons, kE] at ih ⊢;rw [List.take_append, kU (by rw [hl, kK]; omega), hl]
  have : (i + 1) * u.size - u.size = i * u.size := by rw [kK]; omega
  rw [this, ih]
mutual
def U.canon : U -> U
 | .arr n u => .arr n u.canon
 | .st us => .st us.canon
 | _ => .leaf
def Us.canon : Us -> Us
 | .one u => .one u.canon
 | .cons u us => .cons u.canon us.canon
end
mutual
theorem qQ : ∀ u : U, u.canon.size = u.size
 | .arr n u => by simp only [U.canon, U.size, qQ u]
 | .st us => by simp only [U.canon, U.size, ze5 us]
 | .int _ | .bool | .str | .sl _ | .leaf => rfl
theorem ze5 : ∀ us : Us, us.canon.size = us.size
 | .one u => by simp only [Us.canon, Us.size, qQ u]
 | .cons u us => by simp only [Us.canon, Us.size, qQ u, ze5 us]
end
theorem zen : ∀ (us : Us) (i : Nat), us.canon.at i = (us.at i).map U.canon
 | .one _, 0 => rfl
 | .one _, _ + 1 => rfl
 | .cons _ _, 0 => rfl
 | .cons _ us, i + 1 => by simp only [Us.canon, Us.at, zen us i]
theorem zfk : ∀ (us : Us) (i : Nat), us.canon.off i = us.off i
 | .one _, _ => rfl
 | .cons _ _, 0 => rfl
 | .cons u us, i + 1 => by simp only [Us.canon, Us.off, qQ, zfk us i]
inductive Rt where
 | one (u : U)
 | row (u : U)
def Rt.off : Rt -> List Stp -> Nat
 | .one u, p => u.off p
 | .row u, .idx i :: p => i * u.size + u.off p
 | .row _, _ => 0
def Rt.beq : Rt -> Rt -> Bool
 | .one u, .one v => u.beq v
 | .row u, .row v => u.beq v
 | _, _ => false
theorem Rt.beq_eq : ∀ {r s : Rt}, r.beq s = true -> r = s
 | .one u, .one v, h => by have : u.beq v = true := h; rw [U.beq_eq this]
 | .row u, .row v, h => by have : u.beq v = true := h; rw [U.beq_eq this]
 | .one _, .row _, h => by cases h
 | .row _, .one _, h => by cases h
inductive TV : Type where
 | v (u : U) (x : u.T)
 | rf (t : TV)
 | nil
 | fsl (u : U) (l : List u.T)
 | osf (u : U) (l : List u.T) (lo n : Nat)
 | agg (ts : List TV)
 | tup (ts : List TV)
 | ptr (b : Nat) (r : Rt) (p : List Stp)
 | os (b : Nat) (r : Rt) (p : List Stp) (u : U) (lo len : Nat)
 | one
 | fn (f : FuncId) (caps : List TV)
 | nilp
 | nilf
 | yl (l : Nat)
 | nili
 | nilm
 | mp (b : Nat)
 | ifc (t : TypeId) (x : TV)
 | dead
mutual
def TV.pv : TV -> PV
 | .v u x => pvU u x
 | .rf t => .fz (cellsOf t.pv)
 | .nil => .tr 0 [] .full
 | .fsl u l => .tr (kI l) (zj u l) .full
 | .osf u l lo n => .tr n (((zj u l).drop (lo * u.size)).take (n * u.size)) .no
 | .agg ts => .agg (TV.cellsL ts)
 | .tup ts => .tup (TV.pvs ts)
 | .ptr b r p => .ptr b (r.off p)
 | .os b r p u lo n => .sl b (r.off p + lo * u.size) n u.size
 | .one => .one
 | .fn f caps => .fn f (TV.pvs caps)
 | .nilp => .val (.pointer none)
 | .nilf => .val .nilFunc
 | .yl l => .val (.func (.yield l) #[] #[])
 | .nili => .val .nilIface
 | .nilm => .val (.map none)
 | .mp b => .mp b
 | .ifc t x => .ifc t x.pv
 | .dead => .dead
def TV.cellsL : List TV -> List PV
 | [] => []
 | t :: ts => cellsOf t.pv ++ TV.cellsL ts
def TV.pvs : List TV -> List PV
 | [] => []
 | t :: ts => t.pv :: TV.pvs ts
end
def TV.cells (t : TV) : List PV := cellsOf t.pv
mutual
def TV.wf : TV -> Prop
 | .v u x => wfU u x
 | .rf t => t.wf /\ zd (cellsOf t.pv)
 | .fsl u l => ∀ x, x ∈ l -> wfU u x
 | .osf u l _ _ => ∀ x, x ∈ l -> wfU u x
 | .agg ts => ts ≠ [] /\ TV.wfs ts /\ zd (TV.cellsL ts)
 | .tup ts => TV.wfs ts
 | .fn _ caps => TV.wfs caps
 | .ifc _ x => x.wf
 | _ => True
def TV.wfs : List TV -> Prop
 | [] => True
 | t :: ts => t.wf /\ TV.wfs ts
end
mutual
def TV.lay : TV -> U
 | .v u _ => u.canon
 | .agg ts => .st (TV.layS ts)
 | _ => .leaf
def TV.layS : List TV -> Us
 | [] => .one .leaf
 | [t] => .one t.lay
 | t :: ts => .cons t.lay (TV.layS ts)
end
theorem vj (t s : TV) (ts : List TV) : TV.layS (t :: s :: ts) = .cons t.lay (TV.layS (s :: ts)) := by simp only [TV.layS]
theorem xl : ∀ ts : List TV, TV.pvs ts = ts.map TV.pv
 | [] => rfl
 | t :: ts => by simp only [TV.pvs, kS, xl ts]
theorem xm : ∀ {ts : List TV}, TV.wfs ts ↔ ∀ t, t ∈ ts -> t.wf
 | [] => by simp [TV.wfs]
 | t :: ts => by simp only [TV.wfs, xm (ts := ts)]; simp
mutual
theorem xy : ∀ t : TV, t.wf -> t.cells.length = t.lay.size
 | .v u x, h => by
  simp only [TV.wf] at h;simp only [TV.cells, TV.pv, TV.lay, (vf u x h).1, qQ, zw u x h]
 | .agg ts, h => by
  simp only [TV.wf] at h;simp only [TV.cells, TV.pv, cellsOf, TV.lay, U.size];exact zfm ts h.1 h.2.1
 | .rf _, _ | .nil, _ | .fsl _ _, _ | .osf _ _ _ _, _ | .tup _, _ | .ptr _ _ _, _ | .os _ _ _ _ _ _, _ | .one, _ | .fn _ _, _ | .nilp, _ | .nilf, _ | .yl _, _ | .nili, _ | .nilm, _ | .mp _, _ | .ifc _ _, _ | .dead, _ => rfl
theorem zfm : ∀ ts : List TV, ts ≠ [] -> TV.wfs ts -> (TV.cellsL ts).length = (TV.layS ts).size
 | [], h, _ => absurd rfl h
 | [t], _, h => by
  simp only [TV.wfs] at h;have := xy t h.1;simp only [TV.cells] at this;simp only [TV.cellsL, TV.layS, Us.size, k8, this]
 | t :: s :: ts, _, h => by
  rw [vj];simp only [TV.wfs] at h;have h1 := xy t h.1;have h2 := zfm (s :: ts) (by simp) (by simp only [TV.wfs]; exact h.2)
  simp only [TV.cells] at h1;rw [TV.cellsL, kL, h1, h2, Us.size]
end
def TV.stores : TV -> Bool
 | .tup _ | .dead => false
 | _ => true
theorem z6s : ∀ {t : TV}, t.wf -> t.stores = true -> z7r t.pv = true
 | .v u x, h, _ => (vf u x (by simpa only [TV.wf] using h)).2
 | .agg _, _, _ | .rf _, _, _ | .nil, _, _ | .fsl _ _, _, _ | .osf _ _ _ _, _, _ | .ptr _ _ _, _, _ | .os _ _ _ _ _ _, _, _ | .one, _, _ | .fn _ _, _, _ | .nilp, _, _ | .nilf, _, _ | .yl _, _, _ | .nili, _, _ | .nilm, _, _ | .mp _, _, _ | .ifc _ _, _, _ => rfl
 | .tup _, _, h | .dead, _, h => by cases h
theorem xh : ∀ {t : TV}, t.wf -> t.stores = true -> zd t.cells
 | .v u x, h, _ => by
  simp only [TV.wf] at h;simp only [TV.cells, TV.pv, (vf u x h).1];exact vA u x h
 | .agg ts, h, _ => by simp only [TV.wf] at h; exact h.2.2
 | .rf _, _, _ | .nil, _, _ | .fsl _ _, _, _ | .osf _ _ _ _, _, _ | .ptr _ _ _, _, _ | .os _ _ _ _ _ _, _, _ | .one, _, _ | .fn _ _, _, _ | .nilp, _, _ | .nilf, _, _ | .yl _, _, _ | .nili, _, _ | .nilm, _, _ | .mp _, _, _ | .ifc _ _, _, _ => by
  intro p hp; simp only [TV.cells, TV.pv, cellsOf, ka] at hp; subst hp; rfl
 | .tup _, _, h | .dead, _, h => by cases h
def z23 : Nat -> Nat -> Nat
 | 0, x => x
 | n + 1, x => n + 1 + x
theorem z6i : ∀ (n x : Nat), z23 n x = n + x
 | 0, x => by simp [z23]
 | n + 1, x => rfl
def zb7 {α : Type} (l : List α) (lo n : Nat) : List α := (l.drop lo).take n
def ja {R α : Type} (l : List α) (lo n : Nat) (k : List α -> Option R) : Option R := bif kg (z23 lo n) (kI l) then k (zb7 l lo n) else none
theorem zm5 {R α : Type} {l : List α} {lo n : Nat} {k : List α -> Option R} {r : R} (h : ja l lo n k = some r) : k (zb7 l lo n) = some r /\ lo + n <= l.length /\ (zb7 l lo n).length = n := by
 unfold ja at h;cases hb : kg (z23 lo n) (kI l) with
 | false => rw [hb] at h; cases h
 | true =>
  rw [hb] at h;have := kZ hb;rw [z6i] at this;exact ⟨h, this, by simp only [zb7, ku, List.length_drop]; omega⟩
theorem zlt {α : Type} {l : List α} {lo n : Nat} {x : α} (h : x ∈ zb7 l lo n) : x ∈ l := kN (kO h)
theorem zlu {l : List u.T} {lo n : Nat} (hw : ∀ x, x ∈ l -> wfU u x) (h : lo + n <= l.length) : ((zj u l).drop (lo * u.size)).take (n * u.size) = zj u (zb7 l lo n) := by
 rw [z5f hw (by omega), z3d (fun y hy => hw y (kN hy)) (by rw [List.length_drop]; omega)]; rfl
mutual
def yT {R : Type} : TV -> (u : U) -> (u.T -> Option R) -> Option R
 | .v u' x, u, k => xV u' u x k
 | .nil, .sl _, k => k []
 | .fsl u' l, .sl u, k => xV (.sl u') (.sl u) l k
 | .osf u' l lo n, .sl u, k => ja l lo n fun l' => xV (.sl u') (.sl u) l' k
 | .agg ts, .st us, k => z2k ts us k
 | _, _, _ => none
def z2k {R : Type} : List TV -> (us : Us) -> (us.T -> Option R) -> Option R
 | [t], .one u, k => yT t u k
 | t :: ts, .cons u us, k => yT t u fun x => z2k ts us fun y => k (x, y)
 | _, _, _ => none
end
def Gd (w : World) (c : Cx) : Prop := ∃ H ts, Ab.Good w c H ts
def PLe (p q : PV) : Prop := ∀ w c v, Gd w c -> VR w c p v -> VR w c q v
def CLe (ps qs : List PV) : Prop := ps.length = qs.length /\ ∀ (i : Nat) p q, ps[i]? = some p -> qs[i]? = some q -> PLe p q
theorem PLe.refl (p : PV) : PLe p p := fun _ _ _ _ h => h
theorem PLe.trans {p q r : PV} (h : PLe p q) (g : PLe q r) : PLe p r := fun w c v hg hv => g w c v hg (h w c v hg hv)
theorem CLe.refl (ps : List PV) : CLe ps ps := ⟨rfl, fun i p q h1 h2 => by rw [h1] at h2; cases h2; exact PLe.refl _⟩
theorem CLe.append {a b c d : List PV} (h : CLe a b) (g : CLe c d) : CLe (a ++ c) (b ++ d) := by
 refine ⟨by simp [h.1, g.1], fun i p q hp hq => ?_⟩
 by_cases hi : i < a.length
 ·rw [List.getElem?_append_left hi] at hp;rw [List.getElem?_append_left (by rw [<- h.1]; exact hi)] at hq
  exact h.2 i p q hp hq
 ·rw [List.getElem?_append_right (by omega)] at hp
  rw [List.getElem?_append_right (by rw [<- h.1]; omega), <- h.1] at hq
  exact g.2 _ p q hp hq
theorem jk {w : World} {c : Cx} {ps qs : List PV} {f : Nat -> Option Value} (hg : Gd w c) (h : CLe ps qs) (hv : VRs w c ps f) : VRs w c qs f :=
 zU fun i q hq => by
  have hi : i < ps.length := by rw [h.1]; exact (kH.1 hq).1
  obtain ⟨v, h1, h2⟩ := zo hv (kM hi);exact ⟨v, h1, h.2 i _ q (kM hi) hq w c v hg h2⟩
theorem zdd {ps qs : List PV} (h : CLe ps qs) (hl : zd qs) : PLe (.agg ps) (.agg qs) := by
 intro w c v hg hv;simp only [VR] at hv ⊢;obtain ⟨cv, h1, h2, _, h3⟩ := hv;exact ⟨cv, h1, by rw [<- h.1]; exact h2, hl, jk hg h h3⟩
theorem zbq {len : Nat} {cs : List PV} (t : Tail) : PLe (.tr len cs t) (.tr len cs .no) := by
 intro w c v _ h;simp only [VR] at h ⊢;rcases h with ⟨h3, h4, h5, _⟩ | ⟨ad, cap, h3, h4, h5, _, h6⟩
 ·exact .inl ⟨h3, h4, h5, rfl⟩
 ·exact .inr ⟨ad, cap, h3, h4, h5, trivial, h6⟩
theorem z96 {p q : PV} (h : PLe p q) : CLe [p] [q] := ⟨rfl, fun i a b h1 h2 => by
 cases i with
 | zero => simp at h1 h2; subst h1; subst h2; exact h
 | succ i => simp at h1⟩
theorem zr8 {u' u : U} {x : u'.T} {k : u.T -> Option R} (hw : wfU u' x) (h : xV u' u x k = some r) : ∃ y, k y = some r /\ wfU u y /\ pvU u' x = pvU u y := by
 obtain ⟨rfl, h⟩ := yg h;exact ⟨x, h, hw, rfl⟩
mutual
theorem z8h {R : Type} : ∀ (t : TV) (u : U) {k : u.T -> Option R} {r : R}, t.wf -> yT t u k = some r -> ∃ x, k x = some r /\ wfU u x /\ PLe t.pv (pvU u x) /\ CLe t.cells (zc u x)
 | .v u' x, u, k, r, hw, h => by
  simp only [yT] at h;simp only [TV.wf] at hw;obtain ⟨y, h1, h2, h3⟩ := zr8 hw h;refine ⟨y, h1, h2, by simp only [TV.pv, h3]; exact PLe.refl _, ?_⟩
  simp only [TV.cells, TV.pv, h3, (vf u y h2).1];exact CLe.refl _
 | .nil, .sl u, k, r, hw, h => by
  simp only [yT] at h;refine ⟨[], h, by simp [wfU], ?_, ?_⟩
  ·simp only [TV.pv, pvU, List.length_nil, List.flatMap_nil]; exact zbq _
  ·simp only [TV.cells, TV.pv, cellsOf, zc, List.length_nil, List.flatMap_nil]; exact z96 (zbq _)
 | .fsl u' l, .sl u, k, r, hw, h => by
  simp only [yT] at h;simp only [TV.wf] at hw;obtain ⟨e, h⟩ := yg h;cases e;refine ⟨l, h, by simpa only [wfU] using hw, ?_, ?_⟩
  ·simp only [TV.pv, pvU]; exact zbq _
  ·simp only [TV.cells, TV.pv, cellsOf, zc]; exact z96 (zbq _)
 | .osf u' l lo n, .sl u, k, r, hw, h => by
  simp only [yT] at h;simp only [TV.wf] at hw;obtain ⟨h, hle, e2⟩ := zm5 h;obtain ⟨e, h⟩ := yg h;cases e;have hm : ∀ x, x ∈ zb7 l lo n -> wfU u' x := fun x hx => hw x (zlt hx)
  have e1 := zlu hw hle;refine ⟨_, h, by simpa only [wfU] using hm, ?_, ?_⟩
  ·simp only [TV.pv, pvU, e1, e2]; exact PLe.refl _
  ·simp only [TV.cells, TV.pv, cellsOf, zc, e1, e2]; exact CLe.refl _
 | .agg ts, .st us, k, r, hw, h => by
  simp only [yT] at h;simp only [TV.wf] at hw;obtain ⟨x, h1, h2, h3⟩ := zgl ts us hw.2.1 h;refine ⟨x, h1, by simpa only [wfU] using h2, ?_, ?_⟩
  ·simp only [TV.pv, pvU, zc]; exact zdd h3 (z16 us x h2)
  ·simp only [TV.cells, TV.pv, cellsOf, zc]; exact h3
 | .nil, .int _, _, _, _, h | .nil, .bool, _, _, _, h | .nil, .str, _, _, _, h | .nil, .arr _ _, _, _, _, h | .nil, .st _, _, _, _, h | .nil, .leaf, _, _, _, h => by simp [yT] at h
 | .fsl _ _, .int _, _, _, _, h | .fsl _ _, .bool, _, _, _, h | .fsl _ _, .str, _, _, _, h | .fsl _ _, .arr _ _, _, _, _, h | .fsl _ _, .st _, _, _, _, h | .fsl _ _, .leaf, _, _, _, h => by simp [yT] at h
 | .osf _ _ _ _, .int _, _, _, _, h | .osf _ _ _ _, .bool, _, _, _, h | .osf _ _ _ _, .str, _, _, _, h | .osf _ _ _ _, .arr _ _, _, _, _, h | .osf _ _ _ _, .st _, _, _, _, h | .osf _ _ _ _, .leaf, _, _, _, h => by simp [yT] at h
 | .agg _, .int _, _, _, _, h | .agg _, .bool, _, _, _, h | .agg _, .str, _, _, _, h | .agg _, .arr _ _, _, _, _, h | .agg _, .sl _, _, _, _, h | .agg _, .leaf, _, _, _, h => by simp [yT] at h
 | .rf _, _, _, _, _, h | .tup _, _, _, _, _, h | .ptr _ _ _, _, _, _, _, h | .os _ _ _ _ _ _, _, _, _, _, h | .one, _, _, _, _, h | .fn _ _, _, _, _, _, h | .nilp, _, _, _, _, h | .nilf, _, _, _, _, h | .yl _, _, _, _, _, h | .nili, _, _, _, _, h | .nilm, _, _, _, _, h | .mp _, _, _, _, _, h
 | .ifc _ _, _, _, _, _, h | .dead, _, _, _, _, h => by simp [yT] at h
theorem zgl {R : Type} : ∀ (ts : List TV) (us : Us) {k : us.T -> Option R} {r : R}, TV.wfs ts -> z2k ts us k = some r -> ∃ x, k x = some r /\ yV us x /\ CLe (TV.cellsL ts) (zI us x)
 | [t], .one u, k, r, hw, h => by
  simp only [z2k] at h;simp only [TV.wfs] at hw;obtain ⟨x, h1, h2, _, h3⟩ := z8h t u hw.1 h;refine ⟨x, h1, by simpa only [yV] using h2, ?_⟩
  simp only [TV.cellsL, k8, zI]; exact h3
 | t :: ts, .cons u us, k, r, hw, h => by
  simp only [z2k] at h;simp only [TV.wfs] at hw;obtain ⟨x, h1, h2, _, h3⟩ := z8h t u hw.1 h;obtain ⟨y, h4, h5, h6⟩ := zgl ts us hw.2 h1;refine ⟨(x, y), h4, by simp only [yV]; exact ⟨h2, h5⟩, ?_⟩
  simp only [TV.cellsL, zI]; exact h3.append h6
 | [], us, _, _, _, h => by cases us <;> simp [z2k] at h
 | _ :: _ :: _, .one _, _, _, _, h => by simp [z2k] at h
end
theorem z0b (A q : List PV) (o n : Nat) (B : List PV) (ho : o + B.length <= A.length) (hn : n + q.length <= B.length) (hB : (A.drop o).take B.length = B) :
  splice A o (splice B n q) = splice A (o + n) q := by
 have hA : A = A.take o ++ (B ++ A.drop (o + B.length)) := by
  conv => lhs; rw [<- List.take_append_drop o A]
  congr 1
  conv => lhs; rw [<- List.take_append_drop B.length (A.drop o)]
  rw [hB, List.drop_drop]
 have hlo : (A.take o).length = o := by simp; omega
 have h1 : splice A (o + n) q = A.take o ++ splice (B ++ A.drop (o + B.length)) n q := by
  conv => lhs; rw [hA]
  have := z2l (A.take o) (B ++ A.drop (o + B.length)) q n;rw [hlo] at this; exact this
 rw [h1];unfold splice;have hl : (List.take n B ++ q ++ List.drop (n + q.length) B).length = B.length := by simp; omega
 rw [hl, List.take_append_of_le_length (by omega), List.drop_append_of_le_length (by omega)]
 simp
theorem vH {α : Type} (A : List α) (o m n k : Nat) (h : n + k <= m) : (((A.drop o).take m).drop n).take k = (A.drop (o + n)).take k := by
 rw [List.drop_take, List.take_take, List.drop_drop];congr 1;omega
theorem zZ (t : TV) (ts : List TV) : TV.cellsL (t :: ts) = t.cells ++ TV.cellsL ts := by simp only [TV.cellsL, TV.cells]
theorem z4a (us : Us) (x : us.T) : (TV.v (.st us) x).cells = zI us x := by simp only [TV.cells, TV.pv, pvU, cellsOf, zc]
theorem vO (n : Nat) (u : U) (l : List u.T) : (TV.v (.arr n u) l).cells = zj u l := by simp only [TV.cells, TV.pv, pvU, cellsOf, zc, zj]
theorem jN (ts : List TV) : (TV.agg ts).cells = TV.cellsL ts := by simp only [TV.cells, TV.pv, cellsOf]
theorem xW (u : U) (x : u.T) (h : wfU u x) : (TV.v u x).cells = zc u x := by simp only [TV.cells, TV.pv, (vf u x h).1]
variable {i : Nat}
theorem zg9 {us : Us} {x : us.T} (p : List Stp) (h : us.at i = some u) : (TV.v (.st us) x).lay.off (.fld i :: p) = us.off i + u.canon.off p := by
 simp only [TV.lay, U.canon, U.off, zen, h, ky, zfk]
variable {n : Nat}
theorem zdo {l : List u.T} (i : Nat) (p : List Stp) : (TV.v (.arr n u) l).lay.off (.idx i :: p) = i * u.size + u.canon.off p := by
 simp only [TV.lay, U.canon, U.off, qQ]
theorem zdn {ts : List TV} {t : TV} (p : List Stp) (h : (TV.layS ts).at i = some t.lay) : (TV.agg ts).lay.off (.fld i :: p) = (TV.layS ts).off i + t.lay.off p := by
 simp only [TV.lay, U.off, h]
theorem z6w : ∀ {ts : List TV} {i : Nat} {t : TV}, TV.wfs ts -> ts[i]? = some t ->
  (TV.layS ts).at i = some t.lay /\ ((TV.cellsL ts).drop ((TV.layS ts).off i)).take t.cells.length = t.cells /\ (TV.layS ts).off i + t.cells.length <= (TV.cellsL ts).length
 | [], _, _, _, h => by simp at h
 | [s], 0, t, hw, h => by
  simp at h; subst h;simp [TV.layS, Us.at, Us.off, TV.cellsL, TV.cells]
 | [s], i + 1, t, hw, h => by simp at h
 | s :: s2 :: ts, 0, t, hw, h => by
  simp at h; subst h;rw [vj];simp [Us.at, Us.off, TV.cellsL, TV.cells]
 | s :: s2 :: ts, i + 1, t, hw, h => by
  rw [vj];simp only [TV.wfs] at hw;obtain ⟨h1, h2, h3⟩ := z6w (ts := s2 :: ts) (i := i) (by simp only [TV.wfs]; exact hw.2) (by simpa using h)
  have hl := xy s hw.1;simp only [TV.cells] at hl;refine ⟨by simpa only [Us.at] using h1, ?_, ?_⟩
  ·rw [zZ, Us.off, <- hl]; simp only [TV.cells] at h2 ⊢; rw [k0]; exact h2
  ·rw [zZ, Us.off, <- hl, kL]; simp only [TV.cells] at h3 ⊢; omega
theorem zh4 : ∀ {ts : List TV} {i : Nat} {t t' : TV}, TV.wfs ts -> ts[i]? = some t -> t'.wf -> t'.lay = t.lay ->
  TV.cellsL (ts.set i t') = splice (TV.cellsL ts) ((TV.layS ts).off i) t'.cells /\ TV.layS (ts.set i t') = TV.layS ts /\ TV.wfs (ts.set i t')
 | [], _, _, _, _, h, _, _ => by simp at h
 | [s], 0, t, t', hw, h, hw', e => by
  simp at h; subst h;have h1 := xy s (by simp only [TV.wfs] at hw; exact hw.1)
  have h2 := xy t' hw';simp only [TV.cells] at h1 h2;refine ⟨?_, by simp [TV.layS, e], by simp [TV.wfs, hw']⟩
  simp only [kT, TV.cellsL, k8, TV.layS, Us.off, TV.cells, splice, kY, kJ, kb];rw [kF (by rw [h1, h2, e]; exact kV _)]; simp
 | [s], i + 1, t, t', hw, h, _, _ => by simp at h
 | s :: s2 :: ts, 0, t, t', hw, h, hw', e => by
  simp at h; subst h;simp only [TV.wfs] at hw;have h1 := xy s hw.1;have h2 := xy t' hw';simp only [TV.cells] at h1 h2;refine ⟨?_, by rw [kT, vj, vj, e], by simp only [kT, TV.wfs]; exact ⟨hw', hw.2⟩⟩
  simp only [kT];rw [zZ, vj, zZ s];simp only [Us.off, TV.cells, splice, kY, kJ, kb];rw [kR, kF (by rw [h1, h2, e]; exact kV _), h2, h1, e]; simp
 | s :: s2 :: ts, i + 1, t, t', hw, h, hw', e => by
  simp only [TV.wfs] at hw;obtain ⟨g1, g2, g3⟩ := zh4 (ts := s2 :: ts) (i := i) (by simp only [TV.wfs]; exact hw.2) (by simpa using h) hw' e
  have hl := xy s hw.1;simp only [TV.cells] at hl;simp only [List.set_cons_succ] at g1 g2 g3 ⊢;have hne : ∃ a l, (s2 :: ts).set i t' = a :: l := by
   cases i with
   | zero => exact ⟨_, _, rfl⟩
   | succ i => exact ⟨_, _, rfl⟩
  obtain ⟨a, l, hal⟩ := hne;refine ⟨?_, ?_, by simp only [TV.wfs]; exact ⟨hw.1, g3⟩⟩
  ·rw [zZ, g1, vj, Us.off, zZ s, <- hl]; exact (z2l _ _ _ _).symm
  ·rw [hal, vj, <- hal, g2, vj]
def z2q {R : Type} : TV -> List Stp -> (TV -> Option R) -> Option R
 | t, [], k => k t
 | .v (.st us) x, .fld i :: p, k => match us.prj x i with
  | some ⟨u, y⟩ => z2q (.v u y) p k
  | none => none
 | .v (.arr _ u) l, .idx i :: p, k => ((show List u.T from l)[i]?).bind fun x => z2q (.v u x) p k
 | .agg ts, .fld i :: p, k => match ts[i]? with
  | some t => z2q t p k
  | none => none
 | _, _, _ => none
structure GetOK (t : TV) (p : List Stp) (t' : TV) : Prop where
 wf : t'.wf
 cells : (t.cells.drop (t.lay.off p)).take t'.cells.length = t'.cells
 le : t.lay.off p + t'.cells.length <= t.cells.length
 at' : t.lay.at p = some t'.lay
theorem z4f {R : Type} : ∀ (t : TV) (p : List Stp) {k : TV -> Option R} {r : R}, t.wf -> z2q t p k = some r -> ∃ t', k t' = some r /\ GetOK t p t'
 | t, [], k, r, hw, h => ⟨t, by simpa only [z2q] using h, hw, by simp [U.off], by simp [U.off], by cases t.lay <;> rfl⟩
 | .v (.st us) x, .fld i :: p, k, r, hw, h => by
  simp only [z2q] at h;split at h
  ·rename_i u y hp;simp only [TV.wf, wfU] at hw;obtain ⟨h1, h2, h3, h4⟩ := z7i us x i hw hp;obtain ⟨t', h5, h6⟩ := z4f (.v u y) p (by simpa only [TV.wf] using h2) h
   have hl := zw u y h2;have e6 := h6.cells; have e7 := h6.le;rw [xW u y h2] at e6 e7;have hls := z3i us x hw;refine ⟨t', h5, h6.wf, ?_, ?_, ?_⟩
   ·rw [z4a, zg9 p h1];rw [<- h3, vH _ _ _ _ _ (by rw [<- hl]; exact e7)] at e6
    exact e6
   ·rw [z4a, zg9 p h1];have : u.canon.off p + t'.cells.length <= u.size := by rw [<- hl]; exact e7
    omega
   ·simp only [TV.lay, U.canon, U.at, zen, h1, ky]; exact h6.at'
  ·cases h
 | .v (.arr n u) l, .idx i :: p, k, r, hw, h => by
  simp only [z2q] at h;rw [kG] at h;obtain ⟨x, hx, h⟩ := h;simp only [TV.wf, wfU] at hw;have hwx := hw.2 x (kD hx);obtain ⟨h3, h4⟩ := vS hw.2 hx;obtain ⟨t', h5, h6⟩ := z4f (.v u x) p (by simpa only [TV.wf] using hwx) h
  have hl := zw u x hwx;have e6 := h6.cells; have e7 := h6.le;rw [xW u x hwx] at e6 e7;refine ⟨t', h5, h6.wf, ?_, ?_, ?_⟩
  ·rw [vO, zdo];rw [<- h3, vH _ _ _ _ _ (by rw [<- hl]; exact e7)] at e6
   exact e6
  ·rw [vO, zdo];have : u.canon.off p + t'.cells.length <= u.size := by rw [<- hl]; exact e7
   omega
  ·simp only [TV.lay, U.canon, U.at]; exact h6.at'
 | .agg ts, .fld i :: p, k, r, hw, h => by
  simp only [z2q] at h;split at h
  ·rename_i t ht;simp only [TV.wf] at hw;obtain ⟨h1, h2, h3⟩ := z6w hw.2.1 ht;have hwt := xm.1 hw.2.1 t (kD ht);obtain ⟨t', h5, h6⟩ := z4f t p hwt h;have e6 := h6.cells; have e7 := h6.le;refine ⟨t', h5, h6.wf, ?_, ?_, ?_⟩
   ·rw [jN, zdn p h1];rw [<- h2, vH _ _ _ _ _ e7] at e6;exact e6
   ·rw [jN, zdn p h1]; omega
   ·simp only [TV.lay, U.at, h1]; exact h6.at'
  ·cases h
 | .v (.int _) _, _ :: _, _, _, _, h | .v .bool _, _ :: _, _, _, _, h | .v .str _, _ :: _, _, _, _, h | .v (.sl _) _, _ :: _, _, _, _, h | .v .leaf _, _ :: _, _, _, _, h
 | .v (.st _) _, .idx _ :: _, _, _, _, h | .v (.arr _ _) _, .fld _ :: _, _, _, _, h | .agg _, .idx _ :: _, _, _, _, h
 | .rf _, _ :: _, _, _, _, h | .nil, _ :: _, _, _, _, h | .fsl _ _, _ :: _, _, _, _, h | .osf _ _ _ _, _ :: _, _, _, _, h | .tup _, _ :: _, _, _, _, h | .ptr _ _ _, _ :: _, _, _, _, h | .os _ _ _ _ _ _, _ :: _, _, _, _, h
 | .one, _ :: _, _, _, _, h
 | .fn _ _, _ :: _, _, _, _, h | .nilp, _ :: _, _, _, _, h | .nilf, _ :: _, _, _, _, h | .yl _, _ :: _, _, _, _, h | .nili, _ :: _, _, _, _, h | .nilm, _ :: _, _, _, _, h | .mp _, _ :: _, _, _, _, h | .ifc _ _, _ :: _, _, _, _, h | .dead, _ :: _, _, _, _, h => by
  simp [z2q] at h
def z7l {R : Type} : TV -> List Stp -> TV -> (TV -> Option R) -> Option R
 | t, [], new, k => bif new.stores && new.lay.beq t.lay then k new else none
 | .v (.st us) x, .fld i :: p, new, k => match us.prj x i with
  | some ⟨u, y⟩ => z7l (.v u y) p new fun t' => yT t' u fun z => us.updK x i u z fun x' => k (.v (.st us) x')
  | none => none
 | .v (.arr n u) l, .idx i :: p, new, k => ((show List u.T from l)[i]?).bind fun x => z7l (.v u x) p new fun t' => yT t' u fun z => k (.v (.arr n u) ((show List u.T from l).set i z))
 | .agg ts, .fld i :: p, new, k => match ts[i]? with
  | some t => z7l t p new fun t' => k (.agg (ts.set i t'))
  | none => none
 | _, _, _, _ => none
structure SetOK (t : TV) (p : List Stp) (new t' : TV) : Prop where
 wf : t'.wf
 stores : t'.stores = true
 cells : CLe (splice t.cells (t.lay.off p) new.cells) t'.cells
 le : t.lay.off p + new.cells.length <= t.cells.length
 lay : t'.lay = t.lay
theorem CLe.trans {a b c : List PV} (h : CLe a b) (g : CLe b c) : CLe a c :=
 ⟨h.1.trans g.1, fun i p q hp hq => by
  have hi : i < b.length := by rw [<- h.1]; exact (kH.1 hp).1
  exact PLe.trans (h.2 i p _ hp (kM hi)) (g.2 i _ q (kM hi) hq)⟩
theorem CLe.splice {a b q : List PV} (o : Nat) (h : CLe a b) (ho : o + a.length <= q.length) : CLe (Ab.splice q o a) (Ab.splice q o b) := by
 have hb : o + b.length <= q.length := by rw [<- h.1]; exact ho
 refine ⟨by rw [qB _ _ _ ho, qB _ _ _ hb], fun i p r hp hr => ?_⟩
 rw [z3x _ _ _ _ ho] at hp;rw [z3x _ _ _ _ hb, <- h.1] at hr;split at hp
 ·rename_i hi; rw [if_pos hi] at hr; exact h.2 _ p r hp hr
 ·rename_i hi; rw [if_neg hi, hp] at hr; cases hr; exact PLe.refl _
theorem z2d {t : TV} {k : u.T -> Option R} (hw : t.wf) (h : yT t u k = some r) : ∃ x, k x = some r /\ wfU u x /\ CLe t.cells (zc u x) :=
 let ⟨x, h1, h2, _, h3⟩ := z8h t u hw h
 ⟨x, h1, h2, h3⟩
theorem z7m {R : Type} : ∀ (t : TV) (p : List Stp) {new : TV} {k : TV -> Option R} {r : R}, t.wf -> t.stores = true -> new.wf -> z7l t p new k = some r -> ∃ t', k t' = some r /\ SetOK t p new t'
 | t, [], new, k, r, hw, hs, hn, h => by
  simp only [z7l] at h;cases hc : new.stores && new.lay.beq t.lay with
  | false => rw [hc] at h; cases h
  | true =>
   rw [hc] at h;simp only [kB] at hc;have e := U.beq_eq hc.2;have h1 := xy t hw;have h2 := xy new hn;refine ⟨new, h, hn, hc.1, ?_, by simp only [U.off]; rw [h1, h2, e]; omega, e⟩
   simp only [U.off, splice, kY, kJ, kb];rw [kF (by rw [h1, h2, e]; exact kV _), k8]
   exact CLe.refl _
 | .v (.st us) x, .fld i :: p, new, k, r, hw, hs, hn, h => by
  simp only [z7l] at h;split at h
  ·rename_i u y hp;simp only [TV.wf, wfU] at hw;obtain ⟨h1, h2, h3, h4⟩ := z7i us x i hw hp;have hsy : (TV.v u y).stores = true := rfl;obtain ⟨t', h5, h6⟩ := z7m (.v u y) p (by simpa only [TV.wf] using h2) hsy hn h
   obtain ⟨z, h7, h8, h9⟩ := z2d h6.wf h5;obtain ⟨x', g1, g2, g3, g4⟩ := ziu us x i hw h8 h7;have hl := zw u y h2;have hls := z3i us x hw;have e6 := h6.cells; have e7 := h6.le;rw [xW u y h2] at e6 e7;change CLe (splice (zc u y) (u.canon.off p) new.cells) t'.cells at e6;change u.canon.off p + new.cells.length <= _ at e7;refine ⟨_, g1, by simpa only [TV.wf, wfU] using g3, rfl, ?_, ?_, rfl⟩
   ·rw [z4a, z4a, zg9 p h1, g4];have key : CLe (splice (zI us x) (us.off i) (splice (zc u y) (u.canon.off p) new.cells)) (splice (zI us x) (us.off i) (zc u z)) :=
     CLe.splice _ (e6.trans h9) (by rw [qB _ _ _ e7, hl]; omega)
    rw [z0b _ _ _ _ _ (by rw [hl]; omega) e7 (by rw [hl]; exact h3)] at key
    exact key
   ·rw [z4a, zg9 p h1];have : u.canon.off p + new.cells.length <= u.size := by rw [<- hl]; exact e7
    omega
  ·cases h
 | .v (.arr n u) l, .idx i :: p, new, k, r, hw, hs, hn, h => by
  simp only [z7l] at h;rw [kG] at h;obtain ⟨x, hx, h⟩ := h;simp only [TV.wf, wfU] at hw;have hwx := hw.2 x (kD hx);obtain ⟨h3, h4⟩ := vS hw.2 hx;have hsy : (TV.v u x).stores = true := rfl;obtain ⟨t', h5, h6⟩ := z7m (.v u x) p (by simpa only [TV.wf] using hwx) hsy hn h
  obtain ⟨z, h7, h8, h9⟩ := z2d h6.wf h5;have hl := zw u x hwx;have hil : i < kI l := (kH.1 hx).1;have e6 := h6.cells; have e7 := h6.le;rw [xW u x hwx] at e6 e7;change CLe (splice (zc u x) (u.canon.off p) new.cells) t'.cells at e6;change u.canon.off p + new.cells.length <= _ at e7;have hset := zds hw.2 h8 hil;refine ⟨_, h7, ?_, rfl, ?_, ?_, rfl⟩
  ·simp only [TV.wf, wfU];refine ⟨by rw [List.length_set]; exact hw.1, fun y hy => ?_⟩
   rcases kP hy with hy | hy
   ·exact hw.2 y hy
   ·rw [hy]; exact h8
  ·rw [vO, vO, zdo, hset];have key : CLe (splice (zj u l) (i * u.size) (splice (zc u x) (u.canon.off p) new.cells)) (splice (zj u l) (i * u.size) (zc u z)) :=
    CLe.splice _ (e6.trans h9) (by rw [qB _ _ _ e7, hl]; exact h4)
   rw [z0b _ _ _ _ _ (by rw [hl]; exact h4) e7 (by rw [hl]; exact h3)] at key
   exact key
  ·rw [vO, zdo];have : u.canon.off p + new.cells.length <= u.size := by rw [<- hl]; exact e7
   omega
 | .agg ts, .fld i :: p, new, k, r, hw, hs, hn, h => by
  simp only [z7l] at h;split at h
  ·rename_i t ht;simp only [TV.wf] at hw;obtain ⟨h1, h2, h3⟩ := z6w hw.2.1 ht;have hwt := xm.1 hw.2.1 t (kD ht);have hst : t.stores = true := by
    have hl := hw.2.2;cases t <;> first | rfl | skip
    all_goals
     exfalso;have : ∀ q, q ∈ (TV.cellsL ts).drop ((TV.layS ts).off i) -> leaf q = true := fun q hq => hl q (kN hq)
     simp only [TV.cells, TV.pv, cellsOf] at h2 h3;have hmem := kO (h2 ▸ ka.2 rfl);have := this _ hmem;simp [leaf] at this
   obtain ⟨t', h5, h6⟩ := z7m t p hwt hst hn h;obtain ⟨g1, g2, g3⟩ := zh4 hw.2.1 ht h6.wf h6.lay;have e6 := h6.cells; have e7 := h6.le;refine ⟨_, h5, ?_, rfl, ?_, ?_, ?_⟩
   ·simp only [TV.wf];refine ⟨by simp; exact hw.1, g3, ?_⟩
    rw [g1];intro q hq;simp only [splice, ki] at hq;rcases hq with (hq | hq) | hq
    ·exact hw.2.2 q (kO hq)
    ·exact xh h6.wf h6.stores q hq
    ·exact hw.2.2 q (kN hq)
   ·rw [jN, jN, zdn p h1, g1];have key : CLe (splice (TV.cellsL ts) ((TV.layS ts).off i) (splice t.cells (t.lay.off p) new.cells)) (splice (TV.cellsL ts) ((TV.layS ts).off i) t'.cells) :=
     CLe.splice _ e6 (by rw [qB _ _ _ e7]; exact h3)
    rw [z0b _ _ _ _ _ h3 e7 h2] at key;exact key
   ·rw [jN, zdn p h1]; omega
   ·simp only [TV.lay, g2]
  ·cases h
 | .v (.int _) _, _ :: _, _, _, _, _, _, _, h | .v .bool _, _ :: _, _, _, _, _, _, _, h | .v .str _, _ :: _, _, _, _, _, _, _, h | .v (.sl _) _, _ :: _, _, _, _, _, _, _, h | .v .leaf _, _ :: _, _, _, _, _, _, _, h
 | .v (.st _) _, .idx _ :: _, _, _, _, _, _, _, h | .v (.arr _ _) _, .fld _ :: _, _, _, _, _, _, _, h | .agg _, .idx _ :: _, _, _, _, _, _, _, h
 | .rf _, _ :: _, _, _, _, _, _, _, h | .nil, _ :: _, _, _, _, _, _, _, h | .fsl _ _, _ :: _, _, _, _, _, _, _, h | .osf _ _ _ _, _ :: _, _, _, _, _, _, _, h | .tup _, _ :: _, _, _, _, _, _, _, h | .ptr _ _ _, _ :: _, _, _, _, _, _, _, h
 | .os _ _ _ _ _ _, _ :: _, _, _, _, _, _, _, h
 | .one, _ :: _, _, _, _, _, _, _, h
 | .fn _ _, _ :: _, _, _, _, _, _, _, h | .nilp, _ :: _, _, _, _, _, _, _, h | .nilf, _ :: _, _, _, _, _, _, _, h | .yl _, _ :: _, _, _, _, _, _, _, h | .nili, _ :: _, _, _, _, _, _, _, h | .nilm, _ :: _, _, _, _, _, _, _, h | .mp _, _ :: _, _, _, _, _, _, _, h
 | .ifc _ _, _ :: _, _, _, _, _, _, _, h | .dead, _ :: _, _, _, _, _, _, _, h => by
  simp [z7l] at h
inductive Ob where
 | var (t : TV)
 | row (u : U) (l : List u.T)
def Ob.cells : Ob -> List PV
 | .var t => t.cells
 | .row u l => zj u l
def Ob.wf : Ob -> Prop
 | .var t => t.wf /\ t.stores = true
 | .row u l => ∀ x, x ∈ l -> wfU u x
def Ob.lay : Ob -> Rt
 | .var t => .one t.lay
 | .row u _ => .row u.canon
inductive TOb where
 | ob (e : TypeId) (o : Ob)
 | gone
def TOb.flat : TOb -> AObj
 | .ob e o => .row o.cells e
 | .gone => .gone
def TOb.wf : TOb -> Prop
 | .ob _ o => o.wf
 | .gone => True
structure TS where
 n : Nat
 slots : List (Nat × TV)
 H : List TOb
 p : Nat
def yn : List (Nat × TV) -> Nat -> Option TV
 | [], _ => none
 | (t, p) :: r, s => bif kC t s then some p else yn r s
def TS.get (σ : TS) (t : Nat) : TV := bif lA t σ.n then (yn σ.slots t).getD .dead else .dead
def z9a (s : ByteArray) : List Int := s.data.toList.map fun b => (b.toNat : Int)
def z92 : Value -> TV
 | .bool b => .v .bool b
 | .int k n => bif decide (k.min <= n) && decide (n <= k.max) then .v (.int k) n else .dead
 | .string s => .v .str (z9a s)
 | .pointer none => .nilp
 | .nilFunc => .nilf
 | .nilIface => .nili
 | .map none => .nilm
 | .slice none 0 0 => .nil
 | .func (.func f) ⟨[]⟩ ⟨[]⟩ => .fn f []
 | .tuple ⟨[]⟩ => .tup []
 | _ => .dead
def TS.eval (σ : TS) : Operand -> TV
 | .tmp t => σ.get t
 | .const v => z92 v
 | .global _ => .dead
 | .func f => .fn f []
def TS.put (σ : TS) (d : Option Nat) (p : TV) : TS :=
 match d with
 | some d => { σ with slots := (d, p) :: σ.slots }
 | none => σ
def TS.keep (σ : TS) (l : List Nat) : TS := { σ with slots := l.map fun t => (t, σ.get t) }
def TS.flat (σ : TS) : AS := ⟨σ.n, σ.slots.map fun x => (x.1, x.2.pv), σ.H.map TOb.flat, []⟩
structure TS.wf (σ : TS) : Prop where
 slots : ∀ x, x ∈ σ.slots -> x.2.wf
 H : ∀ o, o ∈ σ.H -> o.wf
def TV.root : TV -> List Nat
 | .ptr b _ _ => [b]
 | .os b _ _ _ _ _ => [b]
 | _ => []
def xf (o : Oper) (σ : TS) : List Nat :=
 match o.op with
 | .load _ x => (σ.eval x).root
 | .slice _ x _ _ _ => (σ.eval x).root
 | .convert _ _ x => (σ.eval x).root
 | .call { callee := .builtin _, args := xs, argTypes := _ } => xs.toList.flatMap fun x => (σ.eval x).root
 | .call _ => List.range σ.H.length
 | _ => []
theorem vC : ∀ (l : List (Nat × TV)) (t : Nat), Ab.look (l.map fun x => (x.1, x.2.pv)) t = (yn l t).map TV.pv
 | [], _ => rfl
 | (s, p) :: l, t => by
  simp only [kS, Ab.look, yn];cases kC s t with
  | true => rfl
  | false => exact vC l t
theorem z2p (σ : TS) (t : Nat) : σ.flat.get t = (σ.get t).pv := by
 simp only [AS.get, TS.get, TS.flat, vC];cases lA t σ.n with
 | false => simp [TV.pv]
 | true => cases yn σ.slots t <;> simp [TV.pv]
theorem z0x (σ : TS) (d : Option Nat) (p : TV) : (σ.put d p).flat = σ.flat.put d p.pv := by
 cases d <;> rfl
theorem zc8 (σ : TS) (l : List Nat) : (σ.keep l).flat = σ.flat.keep l := by
 simp only [TS.keep, AS.keep, TS.flat, List.map_map];congr 1;refine List.map_congr_left fun t _ => ?_
 have := z2p σ t;simp only [TS.flat] at this;simp only [Function.comp, this]
theorem z3b : ∀ {l : List (Nat × TV)} {t : Nat} {p : TV}, yn l t = some p -> ∃ x, x ∈ l /\ x.2 = p
 | [], _, _, h => by simp [yn] at h
 | (s, q) :: l, t, p, h => by
  simp only [yn] at h;cases hb : kC s t with
  | true => rw [hb] at h; simp at h; exact ⟨(s, q), by simp, h⟩
  | false => rw [hb] at h; obtain ⟨x, h1, h2⟩ := z3b (by simpa using h); exact ⟨x, by simp [h1], h2⟩
theorem z4q : TV.dead.wf := by simp only [TV.wf]
variable {σ : TS}
theorem z78 (h : σ.wf) (t : Nat) : (σ.get t).wf := by
 unfold TS.get;cases lA t σ.n with
 | false => exact z4q
 | true =>
  cases hl : yn σ.slots t with
  | none => exact z4q
  | some p => obtain ⟨x, h1, rfl⟩ := z3b hl; exact h.slots x h1
theorem qe (h : σ.wf) (d : Option Nat) {p : TV} (hp : p.wf) : (σ.put d p).wf := by
 cases d with
 | none => exact h
 | some d => exact ⟨fun x hx => by
   simp only [TS.put, ke] at hx;rcases hx with rfl | hx
   ·exact hp
   ·exact h.slots x hx, h.H⟩
theorem zhe (h : σ.wf) (l : List Nat) : (σ.keep l).wf :=
 ⟨fun x hx => by
  simp only [TS.keep, kW] at hx;obtain ⟨t, _, rfl⟩ := hx;exact z78 h t, h.H⟩
theorem zpn (s : ByteArray) : ba (z9a s) = s := by
 unfold ba z9a;rw [List.map_map];have : ((fun n : Int => UInt8.ofNat n.toNat) ∘ fun b : UInt8 => (b.toNat : Int)) = id := by
  funext b; simp
 rw [this, List.map_id]
theorem zix (s : ByteArray) : z05 (z9a s) := by
 intro n hn;simp only [z9a, kW] at hn;obtain ⟨b, _, rfl⟩ := hn;have := b.toNat_lt;omega
theorem zur (v : Value) : (z92 v).wf := by
 unfold z92;split <;> try (simp only [TV.wf, wfU, TV.wfs]; done)
 ·rename_i k n;cases hc : decide (k.min <= n) && decide (n <= k.max) with
  | false => exact z4q
  | true => simp at hc; simpa only [cond_true, TV.wf, wfU] using hc
 ·simp only [TV.wf, wfU]; exact zix _
theorem zu (h : σ.wf) (x : Operand) : (σ.eval x).wf := by
 cases x with
 | tmp t => exact z78 h t
 | const v => exact zur v
 | global g => exact z4q
 | func f => simp only [TS.eval, TV.wf, TV.wfs]
theorem zrm (p : PV) : PLe p .dead := fun _ _ _ _ _ => by simp only [VR]
theorem vR (σ : TS) (x : Operand) : σ.flat.eval x = (σ.eval x).pv \/ σ.eval x = .dead := by
 cases x with
 | tmp t => exact .inl (z2p σ t)
 | global g => exact .inr rfl
 | func f => exact .inl (by simp [AS.eval, TS.eval, TV.pv, TV.pvs])
 | const v =>
  simp only [AS.eval, TS.eval];have key : ofV v = (z92 v).pv \/ z92 v = .dead := by
   unfold ofV;split
   ·exact .inl rfl
   ·rename_i k n;have e : z92 (.int k n) = bif decide (k.min <= n) && decide (n <= k.max) then .v (.int k) n else .dead := rfl
    rw [e];cases decide (k.min <= n) && decide (n <= k.max) with
    | false => exact .inr rfl
    | true => exact .inl rfl
   ·rename_i s;have e : z92 (.string s) = .v .str (z9a s) := rfl;rw [e];exact .inl (by simp only [TV.pv, pvU, zpn])
   ·exact .inl rfl
   ·exact .inl rfl
   ·exact .inl rfl
   ·exact .inl rfl
   ·exact .inl rfl
   ·rename_i f;have e : z92 (.func (.func f) ⟨[]⟩ ⟨[]⟩) = .fn f [] := rfl;rw [e];exact .inl (by simp only [TV.pv, TV.pvs])
   ·have e : z92 (.tuple ⟨[]⟩) = .tup [] := rfl;rw [e];exact .inl (by simp only [TV.pv, TV.pvs])
   ·rename_i h1 h2 h3 h4 h5 h6 h7 h8 h9 h10;refine .inr ?_;unfold z92;split <;> first | rfl | (exfalso; first | exact h1 _ rfl | exact h2 _ _ rfl | exact h3 _ rfl | exact h4 rfl | exact h5 rfl | exact h6 rfl | exact h7 rfl | exact h8 rfl | exact h9 _ rfl | exact h10 rfl)
  exact key
theorem z2o (σ : TS) (x : Operand) : PLe (σ.flat.eval x) (σ.eval x).pv := by
 rcases vR σ x with h | h
 ·rw [h]; exact PLe.refl _
 ·rw [h]; exact zrm _
variable {x : Operand}
theorem zb {t : TV} (h : σ.eval x = t) (hd : t ≠ .dead) : σ.flat.eval x = t.pv := by
 rcases vR σ x with h' | h'
 ·rw [h', h]
 ·exact absurd (h ▸ h') hd
variable {P : Program} {o : Oper}
theorem qle {σ : AS} {p q : PV} (h : QStep P o σ p) (hpq : PLe p q) : QStep P o σ q :=
 fun c a w K Q hr hK => h c a w K Q hr fun v w' hv hg => hK v w' (hpq _ _ _ ⟨_, _, hg⟩ hv) hg
def TQ (P : Program) (o : Oper) (σ : TS) (t : TV) : Prop := t.wf /\ ∀ Y : List AObj, (∀ b, b ∈ xf o σ -> Y[b]? = σ.flat.H[b]?) -> QStep P o { σ.flat with H := Y } t.pv
@[reducible] def eqI (a b : Int) : Bool := decide (a = b)
@[reducible] def neI (a b : Int) : Bool := !decide (a = b)
@[reducible] def ltI (a b : Int) : Bool := decide (a < b)
@[reducible] def leI (a b : Int) : Bool := decide (a <= b)
abbrev W64 (n : Int) : Int := IntKind.i64.wrap n
abbrev zQ (n : Int) : Int := IntKind.u64.wrap n
theorem z1u (k : IntKind) (n : Int) : k.min <= k.wrap n /\ k.wrap n <= k.max := by
 cases k <;> simp only [IntKind.min, IntKind.max, IntKind.wrap, IntKind.bits, IntKind.signed] <;> simp <;> (try split) <;> omega
def znp (op : BinOp) (k : IntKind) (a b : Int) : Int :=
 match op with
 | .and => k.wrap (BitVec.ofInt k.bits a &&& BitVec.ofInt k.bits b).toNat
 | .or => k.wrap (BitVec.ofInt k.bits a ||| BitVec.ofInt k.bits b).toNat
 | .xor => k.wrap (BitVec.ofInt k.bits a ^^^ BitVec.ofInt k.bits b).toNat
 | _ => k.wrap (BitVec.ofInt k.bits a &&& ~~~BitVec.ofInt k.bits b).toNat
def znm (op : BinOp) (k : IntKind) (a b : Int) (κ : TV -> Option R) : Option R :=
 match op with
 | .add => κ (.v (.int k) (k.wrap (a + b)))
 | .sub => κ (.v (.int k) (k.wrap (a - b)))
 | .mul => κ (.v (.int k) (k.wrap (a * b)))
 | .quo => bif eqI b 0 then none else κ (.v (.int k) (k.wrap (a.tdiv b)))
 | .rem => bif eqI b 0 then none else κ (.v (.int k) (a.tmod b))
 | .eql => κ (.v .bool (eqI a b))
 | .neq => κ (.v .bool (neI a b))
 | .lss => κ (.v .bool (ltI a b))
 | .leq => κ (.v .bool (leI a b))
 | .gtr => κ (.v .bool (ltI b a))
 | .geq => κ (.v .bool (leI b a))
 | .and => κ (.v (.int k) (znp .and k a b))
 | .or => κ (.v (.int k) (znp .or k a b))
 | .xor => κ (.v (.int k) (znp .xor k a b))
 | .andNot => κ (.v (.int k) (znp .andNot k a b))
 | _ => none
theorem zpc {k : IntKind} {a b : Int} (h : k.min <= a /\ a <= k.max) : k.min <= a.tmod b /\ a.tmod b <= k.max := by
 have h1 : (a.tmod b).natAbs <= a.natAbs := by rw [Int.natAbs_tmod]; exact Nat.mod_le _ _
 have h2 : 0 <= a -> 0 <= a.tmod b := fun h => Int.tmod_nonneg b h
 have hm : k.min <= 0 /\ 0 <= k.max := by cases k <;> decide
 by_cases h0 : 0 <= a
 ·have := h2 h0; omega
 ·have h3 : (-a).tmod b = -(a.tmod b) := by rw [Int.neg_tmod]
  have h4 : 0 <= (-a).tmod b := Int.tmod_nonneg b (by omega)
  omega
theorem zpr {op : BinOp} {t yt : TypeId} {x y : Operand} {k : IntKind} {a b : Int} {κ : TV -> Option R} (ho : o.op = .binOp op t x y yt)
  (hx : σ.eval x = .v (.int k) a) (hy : σ.eval y = .v (.int k) b) (hw : σ.wf) (h : znm op k a b κ = some r) : ∃ q, κ q = some r /\ TQ P o σ q := by
 have ex : σ.flat.eval x = .val (.int k a) := zb hx (by simp)
 have ey : σ.flat.eval y = .val (.int k b) := zb hy (by simp)
 have wa : k.min <= a /\ a <= k.max := by have := zu hw x; rw [hx] at this; simpa only [TV.wf, wfU] using this
 have num : ∀ n : Int, z55 op k a b = some (.int k (k.wrap n)) -> κ (.v (.int k) (k.wrap n)) = some r -> ∃ q, κ q = some r /\ TQ P o σ q := fun n e hk =>
  ⟨_, hk, by simp only [TV.wf, wfU]; exact z1u k n, fun _ _ => zts ho ex ey e⟩
 have boo : ∀ c : Bool, z55 op k a b = some (.bool c) -> κ (.v .bool c) = some r -> ∃ q, κ q = some r /\ TQ P o σ q := fun c e hk =>
  ⟨_, hk, by simp only [TV.wf, wfU], fun _ _ => zts ho ex ey e⟩
 unfold znm at h;split at h
 ·exact num _ rfl h
 ·exact num _ rfl h
 ·exact num _ rfl h
 ·cases hb : eqI b 0 with
  | true => rw [hb] at h; cases h
  | false => rw [hb] at h; exact ⟨_, h, by simp only [TV.wf, wfU]; exact z1u k _, fun _ _ => zvp ho ex ey (by simpa using hb)⟩
 ·cases hb : eqI b 0 with
  | true => rw [hb] at h; cases h
  | false => rw [hb] at h; exact ⟨_, h, by simp only [TV.wf, wfU]; exact zpc wa, fun _ _ => zvq ho ex ey (by simpa using hb)⟩
 ·exact boo _ (by simp only [z55]; congr 2) h
 ·exact boo _ (by simp only [z55]; congr 2) h
 ·exact boo _ rfl h
 ·exact boo _ rfl h
 ·exact boo _ rfl h
 ·exact boo _ rfl h
 ·exact num _ rfl h
 ·exact num _ rfl h
 ·exact num _ rfl h
 ·exact num _ rfl h
 ·cases h
def shI (op : BinOp) (k : IntKind) (a b : Int) : Int :=
 match op with
 | .shl => k.wrap (a * 2 ^ min b.toNat k.bits)
 | _ => a.fdiv (2 ^ min b.toNat k.bits)
def shK (op : BinOp) (k : IntKind) (a b : Int) (κ : TV -> Option R) : Option R :=
 match op with
 | .shl => bif ltI b 0 then none else κ (.v (.int k) (shI .shl k a b))
 | .shr => bif ltI b 0 then none else κ (.v (.int k) (shI .shr k a b))
 | _ => none
theorem zo1 {k : IntKind} {a : Int} (n : Nat) (h : k.min <= a /\ a <= k.max) : k.min <= a.fdiv (2 ^ n) /\ a.fdiv (2 ^ n) <= k.max := by
 have hp : (0 : Int) < 2 ^ n := by exact_mod_cast Nat.pow_pos (by omega)
 have e : a.fdiv (2 ^ n) = a / (2 ^ n) := Int.fdiv_eq_ediv_of_nonneg _ (by omega)
 rw [e];have hm : k.min <= 0 /\ 0 <= k.max := by cases k <;> decide
 by_cases h0 : 0 <= a
 ·have h1 : a / (2 ^ n) <= a := Int.ediv_le_self _ h0;have h2 : 0 <= a / (2 ^ n) := Int.ediv_nonneg h0 (by omega)
  omega
 ·have h1 : a / (2 ^ n) < 0 := Int.ediv_neg_of_neg_of_pos (by omega) hp
  have h2 : a <= a / (2 ^ n) := by
   rw [Int.le_ediv_iff_mul_le hp];have : (1 : Int) <= 2 ^ n := hp;have := Int.mul_le_mul_of_nonpos_left (show a <= 0 by omega) this
   omega
  omega
theorem zhs {op : BinOp} {t yt : TypeId} {x y : Operand} {k k' : IntKind} {a b : Int} {κ : TV -> Option R} (ho : o.op = .binOp op t x y yt)
  (hx : σ.eval x = .v (.int k) a) (hy : σ.eval y = .v (.int k') b) (hw : σ.wf) (h : shK op k a b κ = some r) : ∃ q, κ q = some r /\ TQ P o σ q := by
 have ex : σ.flat.eval x = .val (.int k a) := zb hx (by simp)
 have ey : σ.flat.eval y = .val (.int k' b) := zb hy (by simp)
 have wa : k.min <= a /\ a <= k.max := by have := zu hw x; rw [hx] at this; simpa only [TV.wf, wfU] using this
 unfold shK at h;split at h
 ·cases hb : ltI b 0 with
  | true => rw [hb] at h; cases h
  | false => rw [hb] at h; exact ⟨_, h, by simp only [TV.wf, wfU]; exact z1u k _, fun _ _ => zvr ho ex ey (by simpa using hb)⟩
 ·cases hb : ltI b 0 with
  | true => rw [hb] at h; cases h
  | false => rw [hb] at h; exact ⟨_, h, by simp only [TV.wf, wfU]; exact zo1 _ wa, fun _ _ => zvs ho ex ey (by simpa using hb)⟩
 ·cases h
@[reducible] def eqS (a b : List Int) : Bool := decide (a = b)
def ltS : List Int -> List Int -> Bool
 | _, [] => false
 | [], _ :: _ => true
 | a :: x, b :: y => ltI a b || (eqI a b && ltS x y)
theorem z2z (l : List Int) : (ba l).toList = l.map fun n => UInt8.ofNat n.toNat := by
 simp [ba, ByteArray.toList_eq]
theorem zk1 {a b : Int} (ha : 0 <= a /\ a < 256) (hb : 0 <= b /\ b < 256) (h : UInt8.ofNat a.toNat = UInt8.ofNat b.toNat) : a = b := by
 have := congrArg UInt8.toNat h;simp at this;omega
theorem zbu : ∀ {a b : List Int}, z05 a -> z05 b -> a.map (fun n => UInt8.ofNat n.toNat) = b.map (fun n => UInt8.ofNat n.toNat) -> a = b
 | [], [], _, _, _ => rfl
 | [], _ :: _, _, _, h => by simp at h
 | _ :: _, [], _, _, h => by simp at h
 | x :: a, y :: b, ha, hb, h => by
  simp only [kS, List.cons.injEq] at h;rw [zk1 (ha x (by simp)) (hb y (by simp)) h.1, zbu (fun n hn => ha n (by simp [hn])) (fun n hn => hb n (by simp [hn])) h.2]
theorem zk2 : ∀ {a b : List Int}, z05 a -> z05 b -> Op.bytesLess (a.map fun n => UInt8.ofNat n.toNat) (b.map fun n => UInt8.ofNat n.toNat) = ltS a b
 | _, [], _, _ => by simp [Op.bytesLess, ltS]
 | [], _ :: _, _, _ => by simp [Op.bytesLess, ltS]
 | x :: a, y :: b, ha, hb => by
  have hx := ha x (by simp)
  have hy := hb y (by simp)
  simp only [kS, Op.bytesLess, ltS, zk2 (a := a) (b := b) (fun n hn => ha n (by simp [hn])) (fun n hn => hb n (by simp [hn]))]
  have e1 : (decide (UInt8.ofNat x.toNat < UInt8.ofNat y.toNat)) = ltI x y := by
   rw [kx]; simp [UInt8.lt_iff_toNat_lt]; omega
  have e2 : (UInt8.ofNat x.toNat == UInt8.ofNat y.toNat) = eqI x y := by
   rw [kx]; simp;exact ⟨fun h => zk1 hx hy h, fun h => by rw [h]⟩
  rw [e1, e2]
theorem zpm (a b : List Int) : ba a ++ ba b = ba (a ++ b) := by
 apply ByteArray.ext;simp [ba]
theorem z2y (a : List Int) : (ba a).size = a.length := by simp [ba, ByteArray.size]
def zuy (a b : List Int) (κ : Unit -> Option R) : Option R := bif kg (a.length + b.length) 9223372036854775807 then κ () else none
def zuz (a b : List Int) (κ : TV -> Option R) : Option R := zuy a b fun _ => κ (.v .str (a ++ b))
def znn (op : BinOp) (a b : List Int) (κ : TV -> Option R) : Option R :=
 match op with
 | .add => zuz a b κ
 | .eql => κ (.v .bool (eqS a b))
 | .neq => κ (.v .bool (!(eqS a b)))
 | .lss => κ (.v .bool (ltS a b))
 | .leq => κ (.v .bool (ltS a b || eqS a b))
 | .gtr => κ (.v .bool (!(ltS a b || eqS a b)))
 | .geq => κ (.v .bool (!(ltS a b)))
 | _ => none
theorem zpv {op : BinOp} {t yt : TypeId} {x y : Operand} {a b : List Int} {κ : TV -> Option R} (ho : o.op = .binOp op t x y yt)
  (hx : σ.eval x = .v .str a) (hy : σ.eval y = .v .str b) (hw : σ.wf) (h : znn op a b κ = some r) : ∃ q, κ q = some r /\ TQ P o σ q := by
 have ex : σ.flat.eval x = .val (.string (ba a)) := zb hx (by simp)
 have ey : σ.flat.eval y = .val (.string (ba b)) := zb hy (by simp)
 have wa : z05 a := by have := zu hw x; rw [hx] at this; simpa only [TV.wf, wfU] using this
 have wb : z05 b := by have := zu hw y; rw [hy] at this; simpa only [TV.wf, wfU] using this
 have heq : ((ba a).toList == (ba b).toList) = eqS a b := by
  rw [kx, z2z, z2z]; simp;exact ⟨fun h => zbu wa wb (by simpa using h), fun h => by rw [h]⟩
 have hlt : Op.bytesLess (ba a).toList (ba b).toList = ltS a b := by rw [z2z, z2z]; exact zk2 wa wb
 have boo : ∀ c : Bool, z0m op (ba a) (ba b) = some (.bool c) -> κ (.v .bool c) = some r -> ∃ q, κ q = some r /\ TQ P o σ q := fun c e hk =>
  ⟨_, hk, by simp only [TV.wf, wfU], fun _ _ => zvt ho ex ey e⟩
 unfold znn at h;split at h
 ·unfold zuz zuy at h;cases hb : kg (a.length + b.length) 9223372036854775807 with
  | false => rw [hb] at h; cases h
  | true =>
   rw [hb] at h;refine ⟨_, h, ?_, ?_⟩
   ·simp only [TV.wf, wfU]; intro n hn; rcases ki.1 hn with hn | hn; exact wa n hn; exact wb n hn
   ·intro Y hY;have := zvi (P := P) (σ := { σ.flat with H := Y }) ho ex ey (by rw [z2y, z2y]; exact kZ hb)
    rw [zpm] at this; exact this
 ·exact boo _ (by simp only [z0m, heq]) h
 ·exact boo _ (by simp only [z0m, heq]) h
 ·exact boo _ (by simp only [z0m, hlt]) h
 ·exact boo _ (by simp only [z0m, hlt, heq]) h
 ·exact boo _ (by simp only [z0m, hlt, heq]) h
 ·exact boo _ (by simp only [z0m, hlt]) h
 ·cases h
def yd (P : Program) (t : TypeId) (u : U) : Bool :=
 match xM P t, ye P t with
 | some true, some n => u.isAgg && kC n u.size
 | some false, some n => !u.isAgg && kC n u.size
 | _, _ => false
variable {t : TypeId}
theorem xB (h : yd P t u = true) : xM P t = some u.isAgg /\ ye P t = some u.size := by
 unfold yd at h;split at h
 ·rename_i n h1 h2;simp only [kB] at h;exact ⟨by rw [h1, h.1], by rw [h2, kA h.2]⟩
 ·rename_i n h1 h2;simp only [kB, kc] at h;exact ⟨by rw [h1, h.1], by rw [h2, kA h.2]⟩
 ·cases h
theorem z8n (u : U) : u.canon.isAgg = u.isAgg := by cases u <;> rfl
theorem zlg {t : TV} (hw : t.wf) (h : t.lay.isAgg = true) : t.pv = .agg t.cells := by
 cases t <;> first | (cases h; done) | skip
 ·rename_i u x;simp only [TV.lay, z8n] at h;simp only [TV.wf] at hw;rw [xW u x hw]; simp only [TV.pv, z6o x h]
 ·simp only [TV.cells, TV.pv, cellsOf]
theorem zhl {t : TV} (hw : t.wf) (h : t.lay.isAgg = false) : t.cells = [t.pv] := by
 cases t <;> first | (cases h; done) | rfl | skip
 rename_i u x;simp only [TV.lay, z8n] at h;simp only [TV.wf] at hw;rw [xW u x hw]; simp only [TV.pv, z4m x h]
def zak : Ob -> List Stp -> (TV -> Option R) -> Option R
 | .var t, p, k => z2q t p k
 | .row u l, .idx i :: p, k => (l[i]?).bind fun x => z2q (.v u x) p k
 | .row _ _, _, _ => none
structure GetO (o : Ob) (p : List Stp) (t' : TV) : Prop where
 wf : t'.wf
 cells : (o.cells.drop (o.lay.off p)).take t'.cells.length = t'.cells
 le : o.lay.off p + t'.cells.length <= o.cells.length
theorem z85 : ∀ (o : Ob) (p : List Stp) {k : TV -> Option R} {r : R}, o.wf -> zak o p k = some r -> ∃ t', k t' = some r /\ GetO o p t'
 | .var t, p, k, r, hw, h => by
  obtain ⟨t', h1, h2⟩ := z4f t p hw.1 (by simpa only [zak] using h)
  exact ⟨t', h1, h2.wf, h2.cells, h2.le⟩
 | .row u l, .idx i :: p, k, r, hw, h => by
  simp only [zak] at h;rw [kG] at h;obtain ⟨x, hx, h⟩ := h;have hwx := hw x (kD hx);obtain ⟨h3, h4⟩ := vS hw hx;obtain ⟨t', h5, h6⟩ := z4f (.v u x) p (by simpa only [TV.wf] using hwx) h
  have hl := zw u x hwx;have e6 := h6.cells; have e7 := h6.le;rw [xW u x hwx] at e6 e7;change List.take _ (List.drop (u.canon.off p) _) = _ at e6;change u.canon.off p + _ <= _ at e7;refine ⟨t', h5, h6.wf, ?_, ?_⟩
  ·simp only [Ob.cells, Ob.lay, Rt.off, qQ];rw [<- h3, vH _ _ _ _ _ (by rw [<- hl]; exact e7)] at e6
   exact e6
  ·simp only [Ob.cells, Ob.lay, Rt.off, qQ]; omega
 | .row _ _, [], _, _, _, h => by simp [zak] at h
 | .row _ _, .fld _ :: _, _, _, _, h => by simp [zak] at h
def zd5 : Ob -> List Stp -> TV -> (Ob -> Option R) -> Option R
 | .var t, p, new, k => z7l t p new fun t' => k (.var t')
 | .row u l, .idx i :: p, new, k => (l[i]?).bind fun x => z7l (.v u x) p new fun t' => yT t' u fun z => k (.row u (l.set i z))
 | .row _ _, _, _, _ => none
structure SetO (o : Ob) (p : List Stp) (new : TV) (o' : Ob) : Prop where
 wf : o'.wf
 cells : CLe (splice o.cells (o.lay.off p) new.cells) o'.cells
 le : o.lay.off p + new.cells.length <= o.cells.length
 lay : o'.lay = o.lay
 leafs : zd o'.cells
theorem zim : ∀ (o : Ob) (p : List Stp) {new : TV} {k : Ob -> Option R} {r : R}, o.wf -> new.wf -> zd5 o p new k = some r -> ∃ o', k o' = some r /\ SetO o p new o'
 | .var t, p, new, k, r, hw, hn, h => by
  obtain ⟨t', h1, h2⟩ := z7m t p hw.1 hw.2 hn (by simpa only [zd5] using h)
  exact ⟨_, h1, ⟨h2.wf, h2.stores⟩, h2.cells, h2.le, by simp only [Ob.lay, h2.lay], xh h2.wf h2.stores⟩
 | .row u l, .idx i :: p, new, k, r, hw, hn, h => by
  simp only [zd5] at h;rw [kG] at h;obtain ⟨x, hx, h⟩ := h;have hwx := hw x (kD hx);obtain ⟨h3, h4⟩ := vS hw hx;obtain ⟨t', h5, h6⟩ := z7m (.v u x) p (by simpa only [TV.wf] using hwx) rfl hn h
  obtain ⟨z, h7, h8, h9⟩ := z2d h6.wf h5;have hl := zw u x hwx;have hil : i < l.length := (kH.1 hx).1;have e6 := h6.cells; have e7 := h6.le;rw [xW u x hwx] at e6 e7;change CLe (splice (zc u x) (u.canon.off p) new.cells) t'.cells at e6;change u.canon.off p + new.cells.length <= _ at e7;have hset := zds hw h8 hil;have hw' : ∀ y, y ∈ l.set i z -> wfU u y := fun y hy => by
   rcases kP hy with hy | hy
   ·exact hw y hy
   ·rw [hy]; exact h8
  refine ⟨_, h7, hw', ?_, ?_, rfl, yQ hw'⟩
  ·simp only [Ob.cells, Ob.lay, Rt.off, qQ, hset];have key : CLe (splice (zj u l) (i * u.size) (splice (zc u x) (u.canon.off p) new.cells)) (splice (zj u l) (i * u.size) (zc u z)) :=
    CLe.splice _ (e6.trans h9) (by rw [qB _ _ _ e7, hl]; exact h4)
   rw [z0b _ _ _ _ _ (by rw [hl]; exact h4) e7 (by rw [hl]; exact h3)] at key
   exact key
  ·simp only [Ob.cells, Ob.lay, Rt.off, qQ];have : u.canon.off p + new.cells.length <= u.size := by rw [<- hl]; exact e7
   omega
 | .row _ _, [], _, _, _, _, _, h => by simp [zd5] at h
 | .row _ _, .fld _ :: _, _, _, _, _, _, h => by simp [zd5] at h
theorem z4v {b : Nat} {e : TypeId} {o : Ob} (h : σ.H[b]? = some (.ob e o)) : σ.flat.H[b]? = some (.row o.cells e) := by
 simp only [TS.flat, List.getElem?_map, h, ky, TOb.flat]
def zg2 (P : Program) (H : List TOb) (t : TypeId) (a : TV) (k : TV -> Option R) : Option R :=
 match a with
 | .rf t' => bif yd P t t'.lay then k t' else none
 | .ptr b r p => match H[b]? with
  | some (.ob _ o) => bif r.beq o.lay then zak o p fun t' => bif yd P t t'.lay then k t' else none else none
  | _ => none
 | _ => none
theorem zia {a : TV} {k : TV -> Option R} (hw : σ.wf) (ha : a.wf) (h : zg2 P σ.H t a k = some r) :
  ∃ q, k q = some r /\ q.wf /\ ∀ Y : List AObj, (∀ b, b ∈ a.root -> Y[b]? = σ.flat.H[b]?) -> za5 P Y t a.pv q.pv := by
 unfold zg2 at h;split at h
 ·rename_i t';simp only [TV.wf] at ha;cases hc : yd P t t'.lay with
  | false => rw [hc] at h; cases h
  | true =>
   rw [hc] at h;obtain ⟨h1, h2⟩ := xB hc;refine ⟨_, h, ha.1, ?_⟩;have hl := xy t' ha.1;cases hg : t'.lay.isAgg with
   | true =>
    rw [hg] at h1;rw [zlg ha.1 hg];exact fun _ _ => zse h1 h2 (kU (Nat.le_of_eq hl)) hl
   | false =>
    rw [hg] at h1;have hce := zhl ha.1 hg;simp only [TV.cells] at hce;exact fun _ _ => zky h1 (by simp only [hce]; rfl)
 ·rename_i b rt p;split at h
  ·rename_i e o hb;cases hc : rt.beq o.lay with
   | false => rw [hc] at h; cases h
   | true =>
    rw [hc] at h;have := Rt.beq_eq hc;subst this;obtain ⟨t', h1, h2⟩ := z85 o p (hw.H _ (kD hb)) h;cases hc2 : yd P t t'.lay with
    | false => rw [hc2] at h1; cases h1
    | true =>
     rw [hc2] at h1;obtain ⟨h3, h4⟩ := xB hc2;refine ⟨t', h1, h2.wf, ?_⟩;have hl := xy t' h2.wf;cases hg : t'.lay.isAgg with
     | true =>
      rw [hg] at h3;rw [zlg h2.wf hg];exact fun Y hY => zqb h3 h4 ((hY b (by simp [TV.root])).trans (z4v hb)) (by rw [<- hl]; exact h2.cells) hl
     | false =>
      rw [hg] at h3;have hce := zhl h2.wf hg;refine fun Y hY => zoe h3 ((hY b (by simp [TV.root])).trans (z4v hb)) ?_
      have := h2.cells;rw [hce] at this;have h5 := congrArg (fun l => l[0]?) this
      simpa using h5
  ·cases h
 ·cases h
def Rt.at : Rt -> List Stp -> Option U
 | .one u, p => u.at p
 | .row u, .idx _ :: p => u.at p
 | .row _, _ => none
theorem off_snoc_fld : ∀ {p : List Stp} {u : U} {us : Us} {v : U} (i : Nat), u.at p = some (.st us) -> us.at i = some v -> u.off (p ++ [.fld i]) = u.off p + us.off i
 | [], u, us, v, i, h, hi => by
  simp only [U.at, Option.some.injEq] at h; subst h;simp only [kJ, U.off, hi]; omega
 | .fld j :: p, u, us, v, i, h, hi => by
  cases u <;> simp only [U.at] at h <;> first | (cases h; done) | skip
  rename_i ws;cases hj : ws.at j with
  | none => rw [hj] at h; cases h
  | some w =>
   rw [hj] at h;simp only [kQ, U.off, hj];rw [off_snoc_fld i h hi]; omega
 | .idx j :: p, u, us, v, i, h, hi => by
  cases u <;> simp only [U.at] at h <;> first | (cases h; done) | skip
  simp only [kQ, U.off];rw [off_snoc_fld i h hi]; omega
theorem off_snoc_idx : ∀ {p : List Stp} {u : U} {n : Nat} {v : U} (i : Nat), u.at p = some (.arr n v) -> u.off (p ++ [.idx i]) = u.off p + i * v.size
 | [], u, n, v, i, h => by
  simp only [U.at, Option.some.injEq] at h; subst h;simp only [kJ, U.off]; omega
 | .fld j :: p, u, n, v, i, h => by
  cases u <;> simp only [U.at] at h <;> first | (cases h; done) | skip
  rename_i ws;cases hj : ws.at j with
  | none => rw [hj] at h; cases h
  | some w =>
   rw [hj] at h;simp only [kQ, U.off, hj];rw [off_snoc_idx i h]; omega
 | .idx j :: p, u, n, v, i, h => by
  cases u <;> simp only [U.at] at h <;> first | (cases h; done) | skip
  simp only [kQ, U.off];rw [off_snoc_idx i h]; omega
theorem Rt.off_snoc_fld {r : Rt} {p : List Stp} {us : Us} {v : U} (i : Nat) (h : r.at p = some (.st us)) (hi : us.at i = some v) : r.off (p ++ [.fld i]) = r.off p + us.off i := by
 cases r with
 | one u => exact Tm.off_snoc_fld i h hi
 | row u =>
  cases p with
  | nil => cases h
  | cons s p =>
   cases s with
   | fld j => cases h
   | idx j => simp only [kQ, Rt.off]; rw [Tm.off_snoc_fld i h hi]; omega
theorem Rt.off_snoc_idx {r : Rt} {p : List Stp} {n : Nat} {v : U} (i : Nat) (h : r.at p = some (.arr n v)) : r.off (p ++ [.idx i]) = r.off p + i * v.size := by
 cases r with
 | one u => exact Tm.off_snoc_idx i h
 | row u =>
  cases p with
  | nil => cases h
  | cons s p =>
   cases s with
   | fld j => cases h
   | idx j => simp only [kQ, Rt.off]; rw [Tm.off_snoc_idx i h]; omega
theorem zjn (cs : List PV) (n : Nat) : PLe (.fz cs) (.fz (cs.take n)) := by
 intro w c v ⟨H, ts, hg⟩ h;simp only [VR] at h ⊢;obtain ⟨a, h1, h2, h3, h4⟩ := h;refine ⟨a, h1, ?_, fun q hq => h3 q (kO hq), za7 h4 n⟩
 rcases h2 with h2 | ⟨g1, g2, g3, g4, g5⟩
 ·exact .inl (by rw [ku]; omega)
 ·have hle : (cs.take n).length <= cs.length := by rw [ku]; omega
  exact .inr ⟨g1, g2, g3, fun i k e => by have := g4 i k e; omega, hg.okm _ _ _ g5 (by omega)⟩
def vv {α : Type} (l : List α) (i : Int) : Option α := bif leI 0 i then l[i.toNat]? else none
theorem z86 {α : Type} {l : List α} {i : Int} {x : α} (h : vv l i = some x) : 0 <= i /\ l[i.toNat]? = some x /\ i < l.length := by
 unfold vv at h;cases hc : leI 0 i with
 | false => rw [hc] at h; cases h
 | true =>
  rw [hc] at h;have h0 : 0 <= i := by simpa using hc
  have := (kH.1 h).1;exact ⟨h0, h, by omega⟩
theorem zoz {x : u.T} (h : wfU u x) : (TV.rf (.v u x)).wf := by
 simp only [TV.wf, TV.pv]; exact ⟨h, by rw [(vf u x h).1]; exact vA u x h⟩
def zah (P : Program) (t : TypeId) (i : Nat) (a : TV) (k : TV -> Option R) : Option R :=
 match zc9 P t i with
 | some fo =>
  match a with
  | .rf (.v (.st us) x) => match us.prj x i with
   | some ⟨u, y⟩ => bif kC fo (us.off i) then k (.rf (.v u y)) else none
   | none => none
  | .rf (.agg ts) => match ts[i]? with
   | some t' => bif kC fo ((TV.layS ts).off i) then k (.rf t') else none
   | none => none
  | .ptr b r p => match r.at p with
   | some (.st us) => match us.at i with
    | some _ => bif kC fo (us.off i) then k (.ptr b r (p ++ [.fld i])) else none
    | none => none
   | _ => none
  | _ => none
 | none => none
theorem zha {k : TV -> Option R} (ho : o.op = .fieldAddr t x i) (hw : σ.wf)
  (h : zah P t i (σ.eval x) k = some r) : ∃ q, k q = some r /\ TQ P o σ q := by
 have hwx := zu hw x;unfold zah at h;generalize hx : σ.eval x = a at h hwx;split at h
 ·rename_i fo hf;split at h
  ·rename_i us xx;split at h
   ·rename_i u y hp;cases hc : kC fo (us.off i) with
    | false => rw [hc] at h; cases h
    | true =>
     rw [hc] at h;have e := kA hc;subst e;simp only [TV.wf, wfU] at hwx;obtain ⟨h1, h2, h3, h4⟩ := z7i us xx i hwx.1 hp;refine ⟨_, h, zoz h2, ?_⟩;have ex : σ.flat.eval x = .fz (zI us xx) := by rw [zb hx (by simp)]; simp only [TV.pv, pvU, cellsOf, zc]
     refine fun _ _ => qle (zgd ho hf ex) ?_
     simp only [TV.pv, (vf u y h2).1];rw [<- h3];exact zjn _ _
   ·cases h
  ·rename_i ts;split at h
   ·rename_i t' ht;cases hc : kC fo ((TV.layS ts).off i) with
    | false => rw [hc] at h; cases h
    | true =>
     rw [hc] at h;have e := kA hc;subst e;simp only [TV.wf, TV.pv, cellsOf] at hwx;obtain ⟨h1, h2, h3⟩ := z6w hwx.1.2.1 ht;have hwt := xm.1 hwx.1.2.1 t' (kD ht);have hlf : zd t'.cells := fun q hq => hwx.2 q (kN (kO (h2 ▸ hq)))
     refine ⟨_, h, by simp only [TV.wf]; exact ⟨hwt, hlf⟩, ?_⟩
     have ex : σ.flat.eval x = .fz (TV.cellsL ts) := by rw [zb hx (by simp)]; simp only [TV.pv, cellsOf]
     refine fun _ _ => qle (zgd ho hf ex) ?_
     simp only [TV.pv];change PLe _ (.fz t'.cells);rw [<- h2];exact zjn _ _
   ·cases h
  ·rename_i b rt p;split at h
   ·rename_i us hat;split at h
    ·rename_i v hi;cases hc : kC fo (us.off i) with
     | false => rw [hc] at h; cases h
     | true =>
      rw [hc] at h;have e := kA hc;subst e;refine ⟨_, h, by simp only [TV.wf], ?_⟩
      have ex : σ.flat.eval x = .ptr b (rt.off p) := by rw [zb hx (by simp)]; simp only [TV.pv]
      intro Y hY;have := zuc (P := P) (σ := { σ.flat with H := Y }) ho hf ex;simp only [TV.pv];rw [Rt.off_snoc_fld i hat hi]; exact this
    ·cases h
   ·cases h
  ·cases h
 ·cases h
def zo0 (r : Rt) (p : List Stp) : Option Nat :=
 match r, p with
 | .row u, [] => some u.size
 | r, p => match r.at p with
  | some (.arr _ u) => some u.size
  | _ => none
theorem zq3 {r : Rt} {p : List Stp} {s : Nat} (h : zo0 r p = some s) (k : Nat) : r.off (p ++ [.idx k]) = r.off p + k * s := by
 unfold zo0 at h;split at h
 ·cases h; simp only [kJ, Rt.off, U.off]; omega
 ·split at h
  ·rename_i n u hat; cases h; exact Rt.off_snoc_idx k hat
  ·cases h
@[reducible] def inI (i : Int) (n : Nat) : Bool := leI 0 i && ltI i n
def zdv (sz : Nat) : Nat -> Us -> Bool
 | 0, _ => false
 | n + 1, .one u => kC n 0 && kC u.size sz
 | n + 1, .cons u us => kC u.size sz && zdv sz n us
theorem zgw {sz : Nat} : ∀ {n : Nat} {us : Us}, zdv sz n us = true -> ∀ j, j < n -> (∃ u, us.at j = some u) /\ us.off j = j * sz
 | 0, _, h, _, _ => by cases h
 | n + 1, .one u, h, j, hj => by
  simp only [zdv, kB] at h;have := kA h.1;have e : j = 0 := by omega
  subst e;exact ⟨⟨u, rfl⟩, by simp [Us.off]⟩
 | n + 1, .cons u us, h, 0, _ => ⟨⟨u, rfl⟩, by simp [Us.off]⟩
 | n + 1, .cons u us, h, j + 1, hj => by
  simp only [zdv, kB] at h;have h2 := zgw h.2 j (by omega)
  refine ⟨h2.1, ?_⟩;simp only [Us.off];rw [h2.2, kA h.1, Nat.add_mul, Nat.one_mul, km]
def zgq {R : Type} (i : Int) (k : Nat -> Option R) : Nat -> Nat -> Option R
 | 0, _ => none
 | n + 1, j => bif eqI i j then k j else zgq i k n (j + 1)
theorem zeh {R : Type} {i : Int} {k : Nat -> Option R} {r : R} : ∀ {n j : Nat}, zgq i k n j = some r -> ∃ m, j <= m /\ m < j + n /\ i = m /\ k m = some r
 | 0, _, h => by cases h
 | n + 1, j, h => by
  simp only [zgq] at h;cases hc : eqI i j with
  | true =>
   rw [hc] at h;exact ⟨j, kV _, by omega, of_decide_eq_true hc, h⟩
  | false =>
   rw [hc] at h;obtain ⟨m, h1, h2, h3⟩ := zeh h;exact ⟨m, by omega, by omega, h3⟩
def zam (P : Program) (t : TypeId) (a q : TV) (k : TV -> Option R) : Option R :=
 match q with
 | .v (.int _) i =>
  match P.underlying t with
  | some (.slice e) =>
   match ye P e with
   | some n =>
    match a with
    | .v (.sl u) l => bif kC n u.size then (vv l i).bind fun x => k (.rf (.v u x)) else none
    | .fsl u l => bif kC n u.size then (vv l i).bind fun x => k (.rf (.v u x)) else none
    | .os b r p u lo m => match zo0 r p with
     | some s => bif kC s u.size && kC n u.size then (bif inI i m then k (.ptr b r (p ++ [.idx (z23 lo i.toNat)])) else none) else none
     | none => none
    | _ => none
   | none => none
  | some (.array n e) =>
   match ye P e with
   | some sz =>
    match a with
    | .ptr b r p => match r.at p with
     | some (.arr m u) => bif kC n m && kC sz u.size then (bif inI i n then k (.ptr b r (p ++ [.idx i.toNat])) else none) else none
     | some (.st us) => bif zdv sz n us then zgq i (fun j => k (.ptr b r (p ++ [.fld j]))) n 0 else none
     | _ => none
    | .rf (.v (.arr m u) l) => bif kC n m && kC sz u.size then (vv l i).bind fun x => k (.rf (.v u x)) else none
    | _ => none
   | none => none
  | _ => none
 | _ => none
theorem zr3 {l : List u.T} {x : u.T} (hw : ∀ y, y ∈ l -> wfU u y) (hx : l[i]? = some x) : PLe (.fz ((zj u l).drop (i * u.size))) (.fz (cellsOf (pvU u x))) := by
 rw [(vf u x (hw x (kD hx))).1];rw [<- (vS hw hx).1]; exact zjn _ _
theorem zhd {x y : Operand} {k : TV -> Option R} (ho : o.op = .indexAddr t x y) (hw : σ.wf)
  (h : zam P t (σ.eval x) (σ.eval y) k = some r) : ∃ q, k q = some r /\ TQ P o σ q := by
 have hwx := zu hw x;unfold zam at h;generalize hx : σ.eval x = a at h hwx;generalize hy : σ.eval y = q at h;have slice : ∀ {u : U} {l : List u.T} {tl : Tail} {e : TypeId} {kk : IntKind} {i : Int} {n : Nat}, P.underlying t = some (.slice e) -> ye P e = some n -> q = .v (.int kk) i -> σ.flat.eval x = .tr l.length (zj u l) tl ->
   (∀ y, y ∈ l -> wfU u y) -> (bif kC n u.size then (vv l i).bind fun x => k (.rf (.v u x)) else none) = some r -> ∃ q, k q = some r /\ TQ P o σ q := by
  intro u l tl e kk i n hu hs hq ex hwl hh;cases hc : kC n u.size with
  | false => rw [hc] at hh; cases hh
  | true =>
   rw [hc] at hh;have e1 := kA hc;subst e1;simp only [cond_true, kG] at hh;obtain ⟨z, hz, hk⟩ := hh;obtain ⟨h0, h1, h2⟩ := z86 hz;refine ⟨_, hk, zoz (hwl z (kD h1)), ?_⟩;have ey : σ.flat.eval y = .val (.int kk i) := by rw [zb (hy.trans hq) (by simp)]; rfl
   exact fun _ _ => qle (zoq ho hu hs ex ey h0 h2) (by simp only [TV.pv]; exact zr3 hwl h1)
 split at h
 ·rename_i kk i;split at h
  ·rename_i e hu;split at h
   ·rename_i n hs;split at h
    ·rename_i u l;simp only [TV.wf, wfU] at hwx;exact slice hu hs rfl (by rw [zb hx (by simp)]; rfl) hwx h
    ·rename_i u l;simp only [TV.wf] at hwx;exact slice hu hs rfl (by rw [zb hx (by simp)]; rfl) hwx h
    ·rename_i b rt p u lo m;split at h
     ·rename_i s hel;cases hc : kC s u.size && kC n u.size with
      | false => rw [hc] at h; cases h
      | true =>
       rw [hc] at h;simp only [kB] at hc;have e1 := kA hc.1;have e2 := kA hc.2;subst e1; subst e2;simp only [cond_true] at h;cases hi : inI i m with
       | false => rw [hi] at h; cases h
       | true =>
        rw [hi] at h;simp only [kB, decide_eq_true_eq] at hi;have ex : σ.flat.eval x = .sl b (rt.off p + lo * u.size) m u.size := by rw [zb hx (by simp)]; simp only [TV.pv]
        have ey : σ.flat.eval y = .val (.int kk i) := by rw [zb hy (by simp)]; rfl
        refine ⟨_, h, by simp only [TV.wf], ?_⟩
        intro Y hY;have := zop (P := P) (σ := { σ.flat with H := Y }) ho hu hs ex ey hi.1 hi.2;simp only [TV.pv];rw [zq3 hel, z6i, Nat.add_mul, <- Nat.add_assoc]; exact this
     ·cases h
    ·cases h
   ·cases h
  ·rename_i n e hu;have ey : σ.flat.eval y = .val (.int kk i) := by rw [zb hy (by simp)]; rfl
   split at h
   ·rename_i sz hs;split at h
    ·rename_i b rt p;split at h
     ·rename_i m u hat;cases hc : kC n m && kC sz u.size with
      | false => rw [hc] at h; cases h
      | true =>
       rw [hc] at h;simp only [kB] at hc;have e1 := kA hc.1;have e2 := kA hc.2;subst e1; subst e2;simp only [cond_true] at h;cases hi : inI i n with
       | false => rw [hi] at h; cases h
       | true =>
        rw [hi] at h;simp only [kB, decide_eq_true_eq] at hi;have ex : σ.flat.eval x = .ptr b (rt.off p) := by rw [zb hx (by simp)]; simp only [TV.pv]
        refine ⟨_, h, by simp only [TV.wf], ?_⟩
        intro Y hY;have := zeb (P := P) (σ := { σ.flat with H := Y }) ho hu hs ex ey hi.1 hi.2;simp only [TV.pv];rw [Rt.off_snoc_idx i.toNat hat]; exact this
     ·rename_i us hat;cases hc : zdv sz n us with
      | false => rw [hc] at h; cases h
      | true =>
       rw [hc] at h;obtain ⟨m, _, h2, h3, h4⟩ := zeh h;obtain ⟨⟨u, h5⟩, h6⟩ := zgw hc m (by omega)
       have ex : σ.flat.eval x = .ptr b (rt.off p) := by rw [zb hx (by simp)]; simp only [TV.pv]
       refine ⟨_, h4, by simp only [TV.wf], ?_⟩
       intro Y hY;have := zeb (P := P) (σ := { σ.flat with H := Y }) ho hu hs ex ey (by omega) (by omega)
       simp only [TV.pv];rw [Rt.off_snoc_fld m hat h5, h6];rw [h3] at this; exact this
     ·cases h
    ·rename_i m u l;cases hc : kC n m && kC sz u.size with
     | false => rw [hc] at h; cases h
     | true =>
      rw [hc] at h;simp only [kB] at hc;have e1 := kA hc.1;have e2 := kA hc.2;subst e1; subst e2;simp only [cond_true, kG] at h;obtain ⟨z, hz, hk⟩ := h;obtain ⟨h0, h1, h2⟩ := z86 hz;simp only [TV.wf, wfU] at hwx;have ex : σ.flat.eval x = .fz (zj u l) := by rw [zb hx (by simp)]; simp only [TV.pv, pvU, cellsOf, zc]; rfl
      refine ⟨_, hk, zoz (hwx.1.2 z (kD h1)), ?_⟩;exact fun _ _ => qle (zoo ho hu hs ex ey h0 (by have := hwx.1.1; omega)) (by simp only [TV.pv]; exact zr3 hwx.1.2 h1)
    ·cases h
   ·cases h
  ·cases h
 ·cases h
def zkj (P : Program) (t : TypeId) (i : Nat) (a : TV) (k : TV -> Option R) : Option R :=
 match P.underlying t with
 | some (.struct fs) =>
  match fs[i]? with
  | some f =>
   match a with
   | .v (.st us) x => match us.prj x i with
    | some ⟨u, y⟩ => bif kC f.offset (us.off i) && yd P f.type u then k (.v u y) else none
    | none => none
   | .agg ts => match ts[i]? with
    | some t' => bif kC f.offset ((TV.layS ts).off i) && yd P f.type t'.lay then k t' else none
    | none => none
   | _ => none
  | none => none
 | _ => none
theorem zhj {t' : TV} {cs : List PV} {off : Nat} (hw : t'.wf) (hf : yd P t t'.lay = true) (hc : (cs.drop off).take t'.cells.length = t'.cells) : zjo P t cs off t'.pv := by
 obtain ⟨h1, h2⟩ := xB hf;have hl := xy t' hw;cases hg : t'.lay.isAgg with
 | true =>
  rw [hg] at h1;rw [zlg hw hg];exact zso h1 h2 (by rw [<- hl]; exact hc) hl
 | false =>
  rw [hg] at h1;have hce := zhl hw hg;refine zqm h1 ?_;rw [hce] at hc;have h5 := congrArg (fun l => l[0]?) hc
  simpa using h5
theorem ze8 : yd P t u.canon = yd P t u := by
 unfold yd; rw [z8n, qQ]
theorem zo2 {k : TV -> Option R} (ho : o.op = .field t x i) (hw : σ.wf)
  (h : zkj P t i (σ.eval x) k = some r) : ∃ q, k q = some r /\ TQ P o σ q := by
 have hwx := zu hw x;unfold zkj at h;generalize hx : σ.eval x = a at h hwx;split at h
 ·rename_i fs hu;split at h
  ·rename_i f hf;split at h
   ·rename_i us xx;split at h
    ·rename_i u y hp;cases hc : kC f.offset (us.off i) && yd P f.type u with
     | false => rw [hc] at h; cases h
     | true =>
      rw [hc] at h;simp only [kB] at hc;have e := kA hc.1;simp only [TV.wf, wfU] at hwx;obtain ⟨h1, h2, h3, h4⟩ := z7i us xx i hwx hp;have hwy : (TV.v u y).wf := by simpa only [TV.wf] using h2
      refine ⟨_, h, hwy, ?_⟩;have ex : σ.flat.eval x = .agg (zI us xx) := by rw [zb hx (by simp)]; simp only [TV.pv, pvU, zc]
      refine fun _ _ => ztt ho hu hf ex (zhj hwy (by simp only [TV.lay, ze8]; exact hc.2) ?_)
      rw [e, xW u y h2, zw u y h2]; exact h3
    ·cases h
   ·rename_i ts;split at h
    ·rename_i t' ht;cases hc : kC f.offset ((TV.layS ts).off i) && yd P f.type t'.lay with
     | false => rw [hc] at h; cases h
     | true =>
      rw [hc] at h;simp only [kB] at hc;have e := kA hc.1;simp only [TV.wf] at hwx;obtain ⟨h1, h2, h3⟩ := z6w hwx.2.1 ht;have hwt := xm.1 hwx.2.1 t' (kD ht);refine ⟨_, h, hwt, ?_⟩;have ex : σ.flat.eval x = .agg (TV.cellsL ts) := by rw [zb hx (by simp)]; simp only [TV.pv]
      exact fun _ _ => ztt ho hu hf ex (zhj hwt hc.2 (by rw [e]; exact h2))
    ·cases h
   ·cases h
  ·cases h
 ·cases h
def zks (P : Program) (t : TypeId) (a q : TV) (k : TV -> Option R) : Option R :=
 match q with
 | .v (.int _) i =>
  match P.underlying t with
  | some (.array n e) =>
   match a with
   | .v (.arr m u) l => bif kC n m && yd P e u then (vv l i).bind fun x => k (.v u x) else none
   | _ => none
  | some .string =>
   match a with
   | .v .str s => (vv s i).bind fun x => k (.v (.int .u8) x)
   | _ => none
  | _ => none
 | _ => none
theorem zoa {x y : Operand} {k : TV -> Option R} (ho : o.op = .index t x y) (hw : σ.wf)
  (h : zks P t (σ.eval x) (σ.eval y) k = some r) : ∃ q, k q = some r /\ TQ P o σ q := by
 have hwx := zu hw x;unfold zks at h;generalize hx : σ.eval x = a at h hwx;generalize hy : σ.eval y = q at h;split at h
 ·rename_i kk i;have ey : σ.flat.eval y = .val (.int kk i) := by rw [zb hy (by simp)]; rfl
  split at h
  ·rename_i n e hu;split at h
   ·rename_i m u l;cases hc : kC n m && yd P e u with
    | false => rw [hc] at h; cases h
    | true =>
     rw [hc] at h;simp only [kB] at hc;have e1 := kA hc.1;subst e1;simp only [cond_true, kG] at h;obtain ⟨z, hz, hk⟩ := h;obtain ⟨h0, h1, h2⟩ := z86 hz;simp only [TV.wf, wfU] at hwx;have hwz := hwx.2 z (kD h1);have hwy : (TV.v u z).wf := by simpa only [TV.wf] using hwz
     obtain ⟨h3, h4⟩ := vS hwx.2 h1;refine ⟨_, hk, hwy, ?_⟩;have ex : σ.flat.eval x = .agg (zj u l) := by rw [zb hx (by simp)]; simp only [TV.pv, pvU, zc]; rfl
     refine fun _ _ => zvj ho hu (xB hc.2).2 ex ey h0 (by have := hwx.1; omega) (zhj hwy (by simp only [TV.lay, ze8]; exact hc.2) ?_)
     rw [xW u z hwz, zw u z hwz]; exact h3
   ·cases h
  ·rename_i hu;split at h
   ·rename_i s;simp only [kG] at h;obtain ⟨z, hz, hk⟩ := h;obtain ⟨h0, h1, h2⟩ := z86 hz;simp only [TV.wf, wfU] at hwx;have hb := hwx z (kD h1);have ex : σ.flat.eval x = .val (.string (ba s)) := by rw [zb hx (by simp)]; rfl
    have hlt : i.toNat < s.length := (kH.1 h1).1;have hg : (ba s)[i.toNat]? = some (UInt8.ofNat z.toNat) := by
     have hsz : i.toNat < (ba s).size := by rw [z2y]; exact hlt
     rw [getElem?_pos (ba s) i.toNat hsz];have e1 : (ba s)[i.toNat] = (ba s).data[i.toNat]'hsz := rfl;have e2 : s[i.toNat] = z := (kH.1 h1).2;rw [e1];simp only [ba, List.getElem_toArray, List.getElem_map, e2]
    refine ⟨_, hk, by simp only [TV.wf, wfU]; exact ⟨by show (0 : Int) <= z; omega, by show z <= 255; omega⟩, ?_⟩
    intro Y hY;have := zsu (P := P) (σ := { σ.flat with H := Y }) ho hu ex ey h0 hg;have e2 : ((UInt8.ofNat z.toNat).toNat : Int) = z := by simp; omega
    rw [e2] at this;exact this
   ·cases h
  ·cases h
 ·cases h
def jd (f : TypeId -> U -> Bool) : List Field -> Us -> Nat -> Bool
 | [x], .one u, off => kC x.offset off && f x.type u
 | x :: y :: xs, .cons u us, off => kC x.offset off && f x.type u && jd f (y :: xs) us (off + u.size)
 | _, _, _ => false
def xg (P : Program) : Nat -> TypeId -> U -> Bool
 | 0, _, _ => false
 | n + 1, t, u => kC (P.cellsOf t) u.size &&
  match P.underlying t, u with
  | some .bool, .bool => true
  | some (.int k), .int k' => vK k k'
  | some .string, .str => true
  | some (.array m e), .arr m' v => kC m m' && xg P n e v
  | some (.slice e), .sl v => xg P n e v
  | some (.struct fs), .st us => jd (xg P n) fs.toList us 0
  | _, _ => false
def zq0 (f : TypeId -> Option U) : List Field -> Option Us
 | [] => none
 | [x] => (f x.type).map .one
 | x :: y :: xs => match f x.type, zq0 f (y :: xs) with
  | some u, some us => some (.cons u us)
  | _, _ => none
def z06 (P : Program) : Nat -> TypeId -> Option U
 | 0, _ => none
 | n + 1, t =>
  match P.underlying t with
  | some .bool => some .bool
  | some (.int k) => some (.int k)
  | some .string => some .str
  | some (.array m e) => (z06 P n e).map (.arr m)
  | some (.slice e) => (z06 P n e).map .sl
  | some (.struct fs) => (zq0 (z06 P n) fs.toList).map .st
  | _ => none
mutual
def U.cmp : U -> Bool
 | .int _ | .bool | .str => true
 | .arr _ u => u.cmp
 | .st us => us.cmp
 | _ => false
def Us.cmp : Us -> Bool
 | .one u => u.cmp
 | .cons u us => u.cmp && us.cmp
end
def eqL {α : Type} (f : α -> α -> Bool) : List α -> List α -> Bool
 | [], [] => true
 | x :: l, y :: m => f x y && eqL f l m
 | _, _ => false
mutual
def eqU : (u : U) -> u.T -> u.T -> Bool
 | .int _, a, b => eqI a b
 | .bool, a, b => decide (a = b)
 | .str, a, b => eqS a b
 | .arr _ u, l, m => eqL (fun x y => eqU u x y) l m
 | .st us, x, y => zke us x y
 | _, _, _ => false
def zke : (us : Us) -> us.T -> us.T -> Bool
 | .one u, x, y => eqU u x y
 | .cons u us, x, y => eqU u x.1 y.1 && zke us x.2 y.2
end
theorem zmw {α : Type} {f : α -> α -> Bool} (h : ∀ x y, f x y = true ↔ x = y) : ∀ {l m : List α}, eqL f l m = true ↔ l = m
 | [], [] => by simp [eqL]
 | [], _ :: _ => by simp [eqL]
 | _ :: _, [] => by simp [eqL]
 | x :: l, y :: m => by simp only [eqL, kB, h, zmw h, List.cons.injEq]
mutual
theorem zdg : ∀ {u : U} {x y : u.T}, u.cmp = true -> (eqU u x y = true ↔ x = y)
 | .int _, _, _, _ => by simp [eqU]
 | .bool, _, _, _ => by simp [eqU]
 | .str, _, _, _ => by simp [eqU]
 | .arr _ u, l, m, h => by
  simp only [U.cmp] at h;simp only [eqU];exact zmw fun x y => zdg h
 | .st us, x, y, h => by
  simp only [U.cmp] at h;simp only [eqU];exact zkf h
 | .sl _, _, _, h => by simp [U.cmp] at h
 | .leaf, _, _, h => by simp [U.cmp] at h
theorem zkf : ∀ {us : Us} {x y : us.T}, us.cmp = true -> (zke us x y = true ↔ x = y)
 | .one u, _, _, h => by
  simp only [Us.cmp] at h;simp only [zke];exact zdg h
 | .cons u us, x, y, h => by
  simp only [Us.cmp, kB] at h;simp only [zke, kB, zdg h.1, zkf h.2];exact ⟨fun ⟨a, b⟩ => Prod.ext a b, fun e => by rw [e]; exact ⟨rfl, rfl⟩⟩
end
mutual
def xu : (u : U) -> u.T -> List Value
 | .int k, n => [.int k n]
 | .bool, b => [.bool b]
 | .str, s => [.string (ba s)]
 | .arr _ u, l => kt (fun x => xu u x) l
 | .st us, x => vr us x
 | _, _ => []
def vr : (us : Us) -> us.T -> List Value
 | .one u, x => xu u x
 | .cons u us, x => xu u x.1 ++ vr us x.2
end
theorem zc7 {α : Type} {f : α -> List PV} {g : α -> List Value} : ∀ {l : List α}, (∀ x, x ∈ l -> f x = (g x).map PV.val) -> l.flatMap f = (l.flatMap g).map PV.val
 | [], _ => rfl
 | x :: l, h => by
  rw [kE, kE, List.map_append, h x (by simp), zc7 fun y hy => h y (by simp [hy])]
mutual
theorem z56 : ∀ (u : U) (x : u.T), u.cmp = true -> zc u x = (xu u x).map PV.val
 | .int _, _, _ => by simp [zc, xu]
 | .bool, _, _ => by simp [zc, xu]
 | .str, _, _ => by simp [zc, xu]
 | .arr _ u, l, h => by
  simp only [U.cmp] at h;simp only [zc, xu];exact zc7 fun x _ => z56 u x h
 | .st us, x, h => by
  simp only [U.cmp] at h;simp only [zc, xu];exact zad us x h
 | .sl _, _, h => by simp [U.cmp] at h
 | .leaf, _, h => by simp [U.cmp] at h
theorem zad : ∀ (us : Us) (x : us.T), us.cmp = true -> zI us x = (vr us x).map PV.val
 | .one u, x, h => by
  simp only [Us.cmp] at h;simp only [zI, vr];exact z56 u x h
 | .cons u us, x, h => by
  simp only [Us.cmp, kB] at h;simp only [zI, vr, List.map_append];rw [z56 u x.1 h.1, zad us x.2 h.2]
end
theorem z1d (u : U) (x : u.T) (h : u.cmp = true) (hw : wfU u x) : (xu u x).length = u.size := by
 have := zw u x hw;rw [z56 u x h] at this; simpa using this
theorem zkk {α : Type} {g : α -> List Value} {n : Nat} {p : α -> Prop} (hn : ∀ x, p x -> (g x).length = n) (hi : ∀ x y, p x -> p y -> g x = g y -> x = y) : ∀ {l m : List α}, (∀ x, x ∈ l -> p x) -> (∀ x, x ∈ m -> p x) -> l.length = m.length -> l.flatMap g = m.flatMap g -> l = m
 | [], [], _, _, _, _ => rfl
 | [], _ :: _, _, _, h, _ => by simp at h
 | _ :: _, [], _, _, h, _ => by simp at h
 | x :: l, y :: m, hl, hm, h, e => by
  rw [kE, kE] at e;have hx := hn x (hl x (by simp))
  have hy := hn y (hm y (by simp))
  obtain ⟨e1, e2⟩ := List.append_inj e (by omega)
  rw [hi x y (hl x (by simp)) (hm y (by simp)) e1, zkk hn hi (fun z hz => hl z (by simp [hz])) (fun z hz => hm z (by simp [hz])) (by simpa using h) e2]
mutual
theorem zba : ∀ (u : U) (x y : u.T), u.cmp = true -> wfU u x -> wfU u y -> xu u x = xu u y -> x = y
 | .int _, _, _, _, _, _, e => by simpa [xu] using e
 | .bool, _, _, _, _, _, e => by simpa [xu] using e
 | .str, a, b, _, ha, hb, e => by
  simp only [xu, List.cons.injEq, Value.string.injEq, and_true] at e;simp only [wfU] at ha hb;have := congrArg ByteArray.toList e;rw [z2z, z2z] at this;exact zbu ha hb this
 | .arr _ u, l, m, h, hl, hm, e => by
  simp only [U.cmp] at h;simp only [wfU] at hl hm;simp only [xu] at e;exact zkk (p := wfU u) (fun x hx => z1d u x h hx) (fun x y hx hy => zba u x y h hx hy) hl.2 hm.2 (by rw [hl.1, hm.1]) e
 | .st us, x, y, h, hx, hy, e => by
  simp only [U.cmp] at h;simp only [wfU] at hx hy;simp only [xu] at e;exact ziv us x y h hx hy e
 | .sl _, _, _, h, _, _, _ => by simp [U.cmp] at h
 | .leaf, _, _, h, _, _, _ => by simp [U.cmp] at h
theorem ziv : ∀ (us : Us) (x y : us.T), us.cmp = true -> yV us x -> yV us y -> vr us x = vr us y -> x = y
 | .one u, x, y, h, hx, hy, e => by
  simp only [Us.cmp] at h;simp only [yV] at hx hy;simp only [vr] at e;exact zba u x y h hx hy e
 | .cons u us, x, y, h, hx, hy, e => by
  simp only [Us.cmp, kB] at h;simp only [yV] at hx hy;simp only [vr] at e;have h1 := z1d u x.1 h.1 hx.1;have h2 := z1d u y.1 h.1 hy.1;obtain ⟨e1, e2⟩ := List.append_inj e (by omega)
  exact Prod.ext (zba u x.1 y.1 h.1 hx.1 hy.1 e1) (ziv us x.2 y.2 h.2 hx.2 hy.2 e2)
end
theorem zm3 {u : U} (h : u.cmp = true) : ∀ {l : List u.T} {i : Nat}, (∀ y, y ∈ l -> wfU u y) -> i < l.length -> ∃ x, x ∈ l /\ ((l.flatMap fun x => xu u x).drop (i * u.size)).take u.size = xu u x
 | [], _, _, hi => by simp at hi
 | y :: l, 0, hw, _ => by
  have hl := z1d u y h (hw y (by simp))
  refine ⟨y, by simp, ?_⟩
  rw [kE, kv, ko, <- hl, kj]; rfl
 | y :: l, i + 1, hw, hi => by
  have hl := z1d u y h (hw y (by simp))
  obtain ⟨x, h1, h2⟩ := zm3 h (l := l) (i := i) (fun z hz => hw z (by simp [hz])) (by simpa using hi)
  refine ⟨x, by simp [h1], ?_⟩
  have e : (i + 1) * u.size = u.size + i * u.size := by rw [kK, km]
  rw [kE, e]
  conv => lhs; rw [<- hl]
  rw [k0, hl]; exact h2
theorem zej {u : U} (h : u.cmp = true) : ∀ {l : List u.T}, (∀ y, y ∈ l -> wfU u y) -> (l.flatMap fun x => xu u x).length = l.length * u.size
 | [], _ => by simp
 | y :: l, hw => by
  rw [kE, kL, z1d u y h (hw y (by simp)), zej h (fun z hz => hw z (by simp [hz])), List.length_cons, kK, km]
theorem zio : ∀ (n : Nat) (t : TypeId) (u : U) (x : u.T), xg P n t u = true -> u.cmp = true -> wfU u x -> xA P n t (xu u x) := by
 intro n
 induction n with
 | zero => intro t u x h; simp [xg] at h
 | succ n ih =>
  intro t u x h hc hw;simp only [xg, kB] at h;obtain ⟨hcell0, h⟩ := h;have hcell := kA hcell0;clear hcell0;simp only [xA];split at h
  ·rename_i hu;rw [hu];exact ⟨x, by simp [xu]⟩
  ·rename_i hu;rw [hu];have := vh h; subst this;exact ⟨x, by simp [xu]⟩
  ·rename_i hu;rw [hu];exact ⟨ba x, by simp [xu]⟩
  ·rename_i m e m' v hu;rw [hu];simp only [kB] at h;have e1 := kA h.1; subst e1;simp only [U.cmp] at hc;simp only [wfU] at hw;have hce : P.cellsOf e = v.size := by
    cases n with
    | zero => simp [xg] at h
    | succ n => have := h.2; simp only [xg, kB] at this; exact kA this.1
   simp only [xu];refine ⟨by rw [zej hc hw.2, hcell, U.size, hw.1], fun i hi => ?_⟩
   rw [hce];obtain ⟨y, hy, e2⟩ := zm3 hc hw.2 (by rw [hw.1]; exact hi)
   rw [e2];exact ih e v y h.2 hc (hw.2 y hy)
  ·simp [U.cmp] at hc
  ·rename_i fs us hu;rw [hu]
   ·simp only [U.cmp] at hc;simp only [wfU] at hw;simp only [xu];have hlen : (vr us x).length = us.size := by
     have := z3i us x hw;rw [zad us x hc] at this; simpa using this
    refine ⟨by rw [hlen, hcell, U.size], fun f hf => ?_⟩
    have key : ∀ (fs : List Field) (us : Us) (x : us.T) (off : Nat) (pre : List Value), jd (xg P n) fs us off = true -> us.cmp = true -> yV us x -> pre.length = off -> ∀ f, f ∈ fs ->
      xA P n f.type (((pre ++ vr us x).drop f.offset).take (P.cellsOf f.type)) := by
     intro fs
     induction fs with
     | nil => intro us x off pre h; cases us <;> simp [jd] at h
     | cons g gs ihf =>
      intro us x off pre h hc hw hp f hf;cases gs with
      | nil =>
       cases us with
       | cons _ _ => simp [jd] at h
       | one v =>
        simp only [jd, kB] at h;simp only [ka] at hf; subst hf;have ho := kA h.1;simp only [Us.cmp] at hc;simp only [yV] at hw;have hce : P.cellsOf f.type = v.size := by
         cases n with
         | zero => simp [xg] at h
         | succ n => have := h.2; simp only [xg, kB] at this; exact kA this.1
        have hl := z1d v x hc hw;simp only [vr];rw [ho, <- hp, List.drop_left', hce, kU (by omega)]
        ·exact ih _ v x h.2 hc hw
        ·rfl
      | cons g2 gs =>
       cases us with
       | one _ => simp [jd] at h
       | cons v us =>
        simp only [jd, kB] at h;simp only [Us.cmp, kB] at hc;simp only [yV] at hw;have hl := z1d v x.1 hc.1 hw.1;have ho := kA h.1.1;rcases ke.1 hf with rfl | hf
        ·have hce : P.cellsOf f.type = v.size := by
          cases n with
          | zero => simp [xg] at h
          | succ n => have := h.1.2; simp only [xg, kB] at this; exact kA this.1
         simp only [vr];rw [ho, <- hp, List.drop_left', hce, <- hl, kj]
         ·exact ih _ v x.1 h.1.2 hc.1 hw.1
         ·rfl
         ·rfl
        ·have := ihf us x.2 (off + v.size) (pre ++ xu v x.1) h.2 hc.2 hw.2 (by rw [kL, hp, hl]) f hf
         simp only [vr];rw [<- List.append_assoc]; exact this
    have := key fs.toList us x 0 [] h hc hw rfl f hf;simpa using this
  ·cases h
mutual
theorem zb3 {R : Type} : ∀ (t : TV) (u : U) {k : u.T -> Option R} {r : R}, t.wf -> u.cmp = true -> yT t u k = some r -> ∃ x, k x = some r /\ wfU u x /\ t.pv = pvU u x /\ t.cells = zc u x
 | .v u' x, u, k, r, hw, hc, h => by
  simp only [yT] at h;simp only [TV.wf] at hw;obtain ⟨y, h1, h2, h3⟩ := zr8 hw h;refine ⟨y, h1, h2, by simp only [TV.pv, h3], ?_⟩
  simp only [TV.cells, TV.pv, h3, (vf u y h2).1]
 | .agg ts, .st us, k, r, hw, hc, h => by
  simp only [yT] at h;simp only [TV.wf] at hw;simp only [U.cmp] at hc;obtain ⟨x, h1, h2, h3⟩ := zik ts us hw.2.1 hc h;refine ⟨x, h1, by simpa only [wfU] using h2, ?_, ?_⟩
  ·simp only [TV.pv, pvU, zc, h3]
  ·simp only [TV.cells, TV.pv, cellsOf, zc]; exact h3
 | .nil, .sl _, _, _, _, hc, _ | .fsl _ _, .sl _, _, _, _, hc, _ | .osf _ _ _ _, .sl _, _, _, _, hc, _ => by simp [U.cmp] at hc
 | .nil, .int _, _, _, _, _, h | .nil, .bool, _, _, _, _, h | .nil, .str, _, _, _, _, h | .nil, .arr _ _, _, _, _, _, h | .nil, .st _, _, _, _, _, h | .nil, .leaf, _, _, _, _, h => by simp [yT] at h
 | .osf _ _ _ _, .int _, _, _, _, _, h | .osf _ _ _ _, .bool, _, _, _, _, h | .osf _ _ _ _, .str, _, _, _, _, h | .osf _ _ _ _, .arr _ _, _, _, _, _, h | .osf _ _ _ _, .st _, _, _, _, _, h | .osf _ _ _ _, .leaf, _, _, _, _, h => by simp [yT] at h
 | .fsl _ _, .int _, _, _, _, _, h | .fsl _ _, .bool, _, _, _, _, h | .fsl _ _, .str, _, _, _, _, h | .fsl _ _, .arr _ _, _, _, _, _, h | .fsl _ _, .st _, _, _, _, _, h | .fsl _ _, .leaf, _, _, _, _, h => by simp [yT] at h
 | .agg _, .int _, _, _, _, _, h | .agg _, .bool, _, _, _, _, h | .agg _, .str, _, _, _, _, h | .agg _, .arr _ _, _, _, _, _, h | .agg _, .sl _, _, _, _, _, h | .agg _, .leaf, _, _, _, _, h => by simp [yT] at h
 | .rf _, _, _, _, _, _, h | .tup _, _, _, _, _, _, h | .ptr _ _ _, _, _, _, _, _, h | .os _ _ _ _ _ _, _, _, _, _, _, h | .one, _, _, _, _, _, h | .fn _ _, _, _, _, _, _, h | .nilp, _, _, _, _, _, h | .nilf, _, _, _, _, _, h | .yl _, _, _, _, _, _, h
 | .nili, _, _, _, _, _, h | .nilm, _, _, _, _, _, h | .mp _, _, _, _, _, _, h
 | .ifc _ _, _, _, _, _, _, h | .dead, _, _, _, _, _, h => by simp [yT] at h
theorem zik {R : Type} : ∀ (ts : List TV) (us : Us) {k : us.T -> Option R} {r : R}, TV.wfs ts -> us.cmp = true -> z2k ts us k = some r -> ∃ x, k x = some r /\ yV us x /\ TV.cellsL ts = zI us x
 | [t], .one u, k, r, hw, hc, h => by
  simp only [z2k] at h;simp only [TV.wfs] at hw;simp only [Us.cmp] at hc;obtain ⟨x, h1, h2, _, h3⟩ := zb3 t u hw.1 hc h;refine ⟨x, h1, by simpa only [yV] using h2, ?_⟩
  simp only [TV.cellsL, k8, zI]; exact h3
 | t :: ts, .cons u us, k, r, hw, hc, h => by
  simp only [z2k] at h;simp only [TV.wfs] at hw;simp only [Us.cmp, kB] at hc;obtain ⟨x, h1, h2, _, h3⟩ := zb3 t u hw.1 hc.1 h;obtain ⟨y, h4, h5, h6⟩ := zik ts us hw.2 hc.2 h1;refine ⟨(x, y), h4, by simp only [yV]; exact ⟨h2, h5⟩, ?_⟩
  simp only [TV.cellsL, zI]; rw [h6]; congr 1
 | [], us, _, _, _, _, h => by cases us <;> simp [z2k] at h
 | _ :: _ :: _, .one _, _, _, _, _, h => by simp [z2k] at h
end
theorem xN {α : Type} {xs : Array α} {l : List α} (h : xs.toList = l) : xs = l.toArray := by rw [<- h]
def vI : Nat := 12
def znv (P : Program) (t : TypeId) (u : U) : Bool :=
 u.cmp && u.isAgg && xg P vI t u && z8v P vI t && !(P.eqGuardType P.depth t) && (match xM P t with | some true => true | _ => false)
def zs1 (P : Program) (op : BinOp) (t : TypeId) (a b : TV) (k : TV -> Option R) : Option R :=
 match z06 P vI t with
 | some u => bif znv P t u then yT a u fun x => yT b u fun y =>
   (match op with
   | .eql => k (.v .bool (eqU u x y))
   | .neq => k (.v .bool (!(eqU u x y)))
   | _ => none) else none
 | none => none
theorem zs2 {op : BinOp} {t yt : TypeId} {x y : Operand} {k : TV -> Option R} (ho : o.op = .binOp op t x y yt) (hw : σ.wf)
  (h : zs1 P op t (σ.eval x) (σ.eval y) k = some r) : ∃ q, k q = some r /\ TQ P o σ q := by
 have hwx := zu hw x;have hwy := zu hw y;unfold zs1 at h;split at h
 ·rename_i u _;cases hc : znv P t u with
  | false => rw [hc] at h; cases h
  | true =>
   rw [hc] at h;simp only [znv, kB, kc] at hc;obtain ⟨⟨⟨⟨⟨c1, c2⟩, c3⟩, c4⟩, c5⟩, c6⟩ := hc;have hag : xM P t = some true := by
    split at c6
    ·assumption
    ·cases c6
   obtain ⟨a, h1, wa, pa, _⟩ := zb3 _ u hwx c1 h;obtain ⟨b, h2, wb, pb, _⟩ := zb3 _ u hwy c1 h1;have nd : ∀ {z : Operand} {w : u.T}, (σ.eval z).pv = pvU u w -> σ.flat.eval z = .agg ((xu u w).map PV.val) := by
    intro z w e;rcases vR σ z with hz | hz
    ·rw [hz, e, z6o w c2, z56 u w c1]
    ·rw [hz, z6o w c2] at e; simp [TV.pv] at e
   have ex := nd pa;have ey := nd pb;have s1 := zio vI t u a c3 c1 wa;have s2 := zio vI t u b c3 c1 wb;have hr : eqU u a b = true ↔ xu u a = xu u b := by
    rw [zdg c1];exact ⟨fun e => by rw [e], fun e => zba u a b c1 wa wb e⟩
   split at h2
   ·exact ⟨_, h2, by simp only [TV.wf, wfU], fun _ _ => zub ho c5 (by decide) c4 hag ex ey s1 s2 hr⟩
   ·exact ⟨_, h2, by simp only [TV.wf, wfU], fun _ _ => zud ho c5 (by decide) c4 hag ex ey s1 s2 hr⟩
   ·cases h2
 ·cases h
def zld : TV -> TV -> Option Bool
 | .ptr _ _ _, .nilp => some false
 | .rf _, .nilp => some false
 | .nilp, .ptr _ _ _ => some false
 | .nilp, .rf _ => some false
 | .nilp, .nilp => some true
 | _, _ => none
theorem zmj {a b : TV} {r : Bool} (h : zld a b = some r) : (z88 a.pv = true /\ b.pv = .val (.pointer none) /\ r = false) \/ (a.pv = .val (.pointer none) /\ z88 b.pv = true /\ r = false) \/ (a.pv = .val (.pointer none) /\ b.pv = .val (.pointer none) /\ r = true) := by
 unfold zld at h;split at h <;> first | (cases h; done) | skip
 all_goals simp only [Option.some.injEq] at h; subst h; simp [TV.pv, z88]
def zs3 (P : Program) (op : BinOp) (t : TypeId) (a b : TV) (k : TV -> Option R) : Option R :=
 match zld a b with
 | some c => match P.underlying t, op with
  | some (.pointer _), .eql => k (.v .bool c)
  | some (.pointer _), .neq => k (.v .bool (!c))
  | _, _ => none
 | none => zs1 P op t a b k
theorem zs4 {op : BinOp} {t yt : TypeId} {x y : Operand} {k : TV -> Option R} (ho : o.op = .binOp op t x y yt) (hw : σ.wf)
  (h : zs3 P op t (σ.eval x) (σ.eval y) k = some r) : ∃ q, k q = some r /\ TQ P o σ q := by
 unfold zs3 at h;split at h
 ·rename_i c hc;have hs := zmj hc;have nd : ∀ z : Operand, (z88 (σ.eval z).pv = true \/ (σ.eval z).pv = .val (.pointer none)) -> σ.flat.eval z = (σ.eval z).pv := by
   intro z hz;rcases vR σ z with e | e
   ·exact e
   ·rw [e] at hz; rcases hz with hz | hz <;> simp [TV.pv, z88] at hz
  have ex : σ.flat.eval x = (σ.eval x).pv := nd x (by rcases hs with h | h | h; exact .inl h.1; exact .inr h.1; exact .inr h.1)
  have ey : σ.flat.eval y = (σ.eval y).pv := nd y (by rcases hs with h | h | h; exact .inr h.2.1; exact .inl h.2.1; exact .inr h.2.1)
  split at h
  ·rename_i e hu;refine ⟨_, h, by simp only [TV.wf, wfU], fun Y hY => ?_⟩
   exact zn8 (P := P) (σ := { σ.flat with H := Y }) ho (.inl rfl) hu ex ey hs
  ·rename_i e hu;refine ⟨_, h, by simp only [TV.wf, wfU], fun Y hY => ?_⟩
   exact zn8 (P := P) (σ := { σ.flat with H := Y }) ho (.inr rfl) hu ex ey hs
  ·cases h
 ·exact zs2 ho hw h
def zrw (P : Program) (op : BinOp) (t : TypeId) (a b : TV) (k : TV -> Option R) : Option R :=
 match a, b with
 | .v (.int k1) x, .v (.int k2) y => bif vK k1 k2 then (match op with | .shl => shK .shl k1 x y k | .shr => shK .shr k1 x y k | op => znm op k1 x y k) else shK op k1 x y k
 | .v .str x, .v .str y => znn op x y k
 | .v .bool x, .v .bool y => match P.underlying t, op with
  | some .bool, .eql => k (.v .bool (x == y))
  | some .bool, .neq => k (.v .bool (!(x == y)))
  | _, _ => none
 | a, b => zs3 P op t a b k
theorem zrx {op : BinOp} {t yt : TypeId} {x y : Operand} {k : TV -> Option R} (ho : o.op = .binOp op t x y yt) (hw : σ.wf)
  (h : zrw P op t (σ.eval x) (σ.eval y) k = some r) : ∃ q, k q = some r /\ TQ P o σ q := by
 have agg := zs4 (P := P) (R := R) (k := k) (r := r) ho hw;unfold zrw at h;generalize hx : σ.eval x = a at h agg;generalize hy : σ.eval y = b at h agg;split at h
 ·rename_i k1 x' k2 y';cases hc : vK k1 k2 with
  | false => rw [hc] at h; exact zhs ho hx hy hw h
  | true =>
   rw [hc] at h;simp only [cond_true] at h;split at h
   ·exact zhs ho hx hy hw h
   ·exact zhs ho hx hy hw h
   ·have e := vh hc; subst e;exact zpr ho hx hy hw h
 ·exact zpv ho hx hy hw h
 ·rename_i x' y';have ex : σ.flat.eval x = .val (.bool x') := zb hx (by simp)
  have ey : σ.flat.eval y = .val (.bool y') := zb hy (by simp)
  split at h
  ·rename_i hu; exact ⟨_, h, by simp only [TV.wf, wfU], fun _ _ => zst ho hu ex ey⟩
  ·rename_i hu; exact ⟨_, h, by simp only [TV.wf, wfU], fun _ _ => zsw ho hu ex ey⟩
  ·cases h
 ·exact agg h
def unK (op : UnOp) (a : TV) (k : TV -> Option R) : Option R :=
 match op, a with
 | .not, .v .bool b => k (.v .bool (!b))
 | .neg, .v (.int kd) n => k (.v (.int kd) (kd.wrap (0 - n)))
 | _, _ => none
theorem zup {op : UnOp} {k : TV -> Option R} (ho : o.op = .unOp op t x) (h : unK op (σ.eval x) k = some r) :
  ∃ q, k q = some r /\ TQ P o σ q := by
 unfold unK at h;generalize hx : σ.eval x = a at h;split at h
 ·exact ⟨_, h, by simp only [TV.wf, wfU], fun _ _ => zvo ho (zb hx (by simp))⟩
 ·exact ⟨_, h, by simp only [TV.wf, wfU]; exact z1u _ _, fun _ _ => zvn ho (zb hx (by simp))⟩
 ·cases h
def zjd (P : Program) (s t : TypeId) (a : TV) (k : TV -> Option R) : Option R :=
 match P.underlying s, P.underlying t, a with
 | some _, some (.int k'), .v (.int _) n => k (.v (.int k') (k'.wrap n))
 | some .string, some .string, .v .str x => k (.v .str x)
 | _, _, _ => none
theorem zi2 {s t : TypeId} {k : TV -> Option R} (ho : o.op = .convert s t x) (hw : σ.wf) (h : zjd P s t (σ.eval x) k = some r) :
  ∃ q, k q = some r /\ TQ P o σ q := by
 have hwx := zu hw x;unfold zjd at h;generalize hx : σ.eval x = a at h hwx;split at h
 ·rename_i hs ht; exact ⟨_, h, by simp only [TV.wf, wfU]; exact z1u _ _, fun _ _ => zv5 ho hs ht (zb hx (by simp))⟩
 ·rename_i hs ht; exact ⟨_, h, hwx, fun _ _ => zqt ho hs ht (zb hx (by simp))⟩
 ·cases h
def zT (n : Nat) (k : Option R) : Option R := bif kg n 9223372036854775807 then k else none
def zhh (a b : Int) : Int := if b > a then b else a
def z2v (a b : Int) : Int := if b < a then b else a
def biK (P : Program) (b : Builtin) (xs : List TV) (ts : List TypeId) (k : TV -> Option R) : Option R :=
 match b, xs, ts with
 | .len, [a], [t] => match P.underlying t, a with
  | some (.slice _), .v (.sl _) l => zT (kI l) (k (.v (.int .i64) (kI l)))
  | some (.slice _), .fsl _ l => zT (kI l) (k (.v (.int .i64) (kI l)))
  | some (.slice _), .nil => k (.v (.int .i64) 0)
  | some (.slice _), .os _ _ _ _ _ n => zT n (k (.v (.int .i64) (n : Int)))
  | some (.slice _), .osf _ _ _ n => zT n (k (.v (.int .i64) (n : Int)))
  | some .string, .v .str s => zT (kI s) (k (.v (.int .i64) (kI s)))
  | _, _ => none
 | .max, [.v (.int k1) x, .v (.int k2) y], _ => bif vK k1 k2 then k (.v (.int k1) (zhh x y)) else none
 | .min, [.v (.int k1) x, .v (.int k2) y], _ => bif vK k1 k2 then k (.v (.int k1) (z2v x y)) else none
 | _, _, _ => none
theorem z3w {k : Option R} (h : zT n k = some r) : k = some r /\ n <= 9223372036854775807 := by
 unfold zT at h;cases hc : kg n 9223372036854775807 with
 | false => rw [hc] at h; cases h
 | true => rw [hc] at h; exact ⟨h, kZ hc⟩
theorem z9u (h : n <= 9223372036854775807) : (TV.v (.int .i64) (n : Int)).wf := by
 simp only [TV.wf, wfU];exact ⟨by show (-9223372036854775808 : Int) <= n; omega, by show (n : Int) <= 9223372036854775807; omega⟩
theorem zty {b : Builtin} {xs : Array Operand} {ts : Array TypeId} {k : TV -> Option R} (ho : o.op = .call { callee := .builtin b, args := xs, argTypes := ts }) (hw : σ.wf)
  (h : biK P b (xs.toList.map σ.eval) ts.toList k = some r) : ∃ q, k q = some r /\ TQ P o σ q := by
 unfold biK at h;generalize hm : xs.toList.map σ.eval = m at h;generalize hts : ts.toList = l at h;have one : ∀ {a}, m = [a] -> ∃ x, xs = #[x] /\ σ.eval x = a := fun {a} e => by
  rw [e] at hm;obtain ⟨x, l', h1, h2, h3⟩ := kh.1 hm;have := List.map_eq_nil_iff.1 h3;subst this;exact ⟨x, xN h1, h2⟩
 have two : ∀ {a b}, m = [a, b] -> ∃ x y, xs = #[x, y] /\ σ.eval x = a /\ σ.eval y = b := fun {a b} e => by
  rw [e] at hm;obtain ⟨x, l', h1, h2, h3⟩ := kh.1 hm;obtain ⟨y, l'', g1, g2, g3⟩ := kh.1 h3;have := List.map_eq_nil_iff.1 g3;subst this; subst g1;exact ⟨x, y, xN h1, h2, g2⟩
 split at h
 ·rename_i a t;obtain ⟨x, rfl, hx⟩ := one rfl;have e := xN hts;subst e;have hwx := zu hw x;rw [hx] at hwx;split at h
  ·rename_i u l' hu;obtain ⟨h, hs⟩ := z3w h;exact ⟨_, h, z9u hs, fun _ _ => zaw ho hu (zb hx (by simp))⟩
  ·rename_i u l' hu;obtain ⟨h, hs⟩ := z3w h;exact ⟨_, h, z9u hs, fun _ _ => zaw ho hu (zb hx (by simp))⟩
  ·rename_i hu;exact ⟨_, h, z9u (n := 0) (by omega), fun _ _ => zaw ho hu (zb hx (by simp))⟩
  ·rename_i hu;obtain ⟨h, hs⟩ := z3w h;exact ⟨_, h, z9u hs, fun _ _ => zsv ho hu (zb hx (by simp))⟩
  ·rename_i hu;obtain ⟨h, hs⟩ := z3w h;exact ⟨_, h, z9u hs, fun _ _ => zaw ho hu (zb hx (by simp))⟩
  ·rename_i s hu;obtain ⟨h, hs⟩ := z3w h;refine ⟨_, h, z9u hs, ?_⟩;intro Y hY;have := zqv (P := P) (σ := { σ.flat with H := Y }) ho hu (zb hx (by simp))
   rw [z2y] at this; exact this
  ·cases h
 ·rename_i k1 x' k2 y';obtain ⟨x, y, rfl, hx, hy⟩ := two rfl;cases hc : vK k1 k2 with
  | false => rw [hc] at h; cases h
  | true =>
   rw [hc] at h;have e := vh hc; subst e;have hwx := zu hw x; rw [hx] at hwx; simp only [TV.wf, wfU] at hwx;have hwy := zu hw y; rw [hy] at hwy; simp only [TV.wf, wfU] at hwy;exact ⟨_, h, by simp only [TV.wf, wfU, zhh]; split <;> assumption, fun _ _ => zvl ho (zb hx (by simp)) (zb hy (by simp))⟩
 ·rename_i k1 x' k2 y';obtain ⟨x, y, rfl, hx, hy⟩ := two rfl;cases hc : vK k1 k2 with
  | false => rw [hc] at h; cases h
  | true =>
   rw [hc] at h;have e := vh hc; subst e;have hwx := zu hw x; rw [hx] at hwx; simp only [TV.wf, wfU] at hwx;have hwy := zu hw y; rw [hy] at hwy; simp only [TV.wf, wfU] at hwy;exact ⟨_, h, by simp only [TV.wf, wfU, z2v]; split <;> assumption, fun _ _ => zvm ho (zb hx (by simp)) (zb hy (by simp))⟩
 ·cases h
def zeq (i : Nat) (a : TV) (k : TV -> Option R) : Option R :=
 match a with
 | .tup ts => match ts[i]? with
  | some t => k t
  | none => none
 | _ => none
theorem zki {k : TV -> Option R} (ho : o.op = .extract x i) (hw : σ.wf) (h : zeq i (σ.eval x) k = some r) :
  ∃ q, k q = some r /\ TQ P o σ q := by
 have hwx := zu hw x;unfold zeq at h;generalize hx : σ.eval x = a at h hwx;split at h
 ·rename_i ts;split at h
  ·rename_i t ht;simp only [TV.wf] at hwx;have ex : σ.flat.eval x = .tup (TV.pvs ts) := by rw [zb hx (by simp)]; simp only [TV.pv]
   exact ⟨_, h, xm.1 hwx t (kD ht), fun _ _ => zqu ho ex (by rw [xl, List.getElem?_map, ht]; rfl)⟩
  ·cases h
 ·cases h
mutual
def qk : (u : U) -> u.T
 | .int _ => (0 : Int)
 | .bool => false
 | .str => ([] : List Int)
 | .arr n u => kz n (qk u)
 | .sl _ => []
 | .st us => zdc us
 | .leaf => ()
def zdc : (us : Us) -> us.T
 | .one u => qk u
 | .cons u us => (qk u, zdc us)
end
mutual
def U.solid : U -> Bool
 | .arr _ u => u.solid
 | .sl u => u.solid
 | .st us => us.solid
 | .leaf => false
 | _ => true
def Us.solid : Us -> Bool
 | .one u => u.solid
 | .cons u us => u.solid && us.solid
end
mutual
theorem z4r : ∀ u : U, u.solid = true -> wfU u (qk u)
 | .int k, _ => by simp only [wfU, qk]; cases k <;> decide
 | .bool, _ => by simp only [wfU]
 | .str, _ => by simp only [wfU, qk]; intro n hn; cases hn
 | .arr n u, h => by
  simp only [U.solid] at h;simp only [wfU, qk];exact ⟨List.length_replicate, fun x hx => by rw [k9 hx]; exact z4r u h⟩
 | .sl u, _ => by simp only [wfU, qk]; intro n hn; cases hn
 | .st us, h => by
  simp only [U.solid] at h;simp only [wfU, qk];exact zm9 us h
 | .leaf, h => by simp [U.solid] at h
theorem zm9 : ∀ us : Us, us.solid = true -> yV us (zdc us)
 | .one u, h => by
  simp only [Us.solid] at h;simp only [yV, zdc];exact z4r u h
 | .cons u us, h => by
  simp only [Us.solid, kB] at h;simp only [yV, zdc];exact ⟨z4r u h.1, zm9 us h.2⟩
end
def zda (f : TypeId -> Option TV) : List Field -> Option (List TV)
 | [] => some []
 | x :: xs => match f x.type, zda f xs with
  | some t, some ts => some (t :: ts)
  | _, _ => none
def zhw (P : Program) (m : Nat) (e : TypeId) : Bool :=
 match P.underlying e with
 | some (.slice _) => kg m 8 && !kC m 0
 | _ => false
def zdb (P : Program) : Nat -> TypeId -> Option TV
 | 0, _ => none
 | n + 1, t =>
  match P.underlying t with
  | some .bool => some (.v .bool false)
  | some (.int k) => some (.v (.int k) 0)
  | some .string => some (.v .str [])
  | some (.slice _) => some .nil
  | some (.pointer _) => some .nilp
  | some (.func ..) => some .nilf
  | some (.interface _) => some .nili
  | some (.map ..) => some .nilm
  | some (.array m e) => bif zhw P m e then some (.agg (kz m .nil)) else match z06 P n e with
   | some u => bif u.solid then some (.v (.arr m u) (kz m (qk u))) else none
   | none => none
  | some (.struct fs) => match zda (zdb P n) fs.toList with
   | some (t :: ts) => some (.agg (t :: ts))
   | _ => none
  | _ => none
theorem z7e : ∀ {ts : List TV}, (∀ t, t ∈ ts -> t.wf /\ t.stores = true) -> zd (TV.cellsL ts)
 | [], _ => fun p hp => by simp [TV.cellsL] at hp
 | t :: ts, h => fun p hp => by
  rw [zZ] at hp;rcases ki.1 hp with hp | hp
  ·exact xh (h t (by simp)).1 (h t (by simp)).2 p hp
  ·exact z7e (fun s hs => h s (by simp [hs])) p hp
theorem zh0 {f : TypeId -> Option TV} : ∀ {fs : List Field} {ts : List TV}, zda f fs = some ts -> ∀ t, t ∈ ts -> ∃ x, f x = some t
 | [], ts, h, t, ht => by simp only [zda, Option.some.injEq] at h; subst h; cases ht
 | x :: xs, ts, h, t, ht => by
  simp only [zda] at h;split at h
  ·rename_i t' ts' h1 h2;cases h;rcases ke.1 ht with rfl | ht
   ·exact ⟨_, h1⟩
   ·exact zh0 h2 t ht
  ·cases h
theorem zm4 {ts : List TV} (h0 : ts ≠ []) (h : ∀ t, t ∈ ts -> t.wf /\ t.stores = true) : (TV.agg ts).wf := by
 simp only [TV.wf];exact ⟨h0, xm.2 fun t ht => (h t ht).1, z7e h⟩
theorem ziw {P : Program} : ∀ (n : Nat) (t : TypeId) {z : TV}, zdb P n t = some z -> z.wf /\ z.stores = true
 | 0, _, _, h => by simp [zdb] at h
 | n + 1, t, z, h => by
  simp only [zdb] at h;split at h
  ·cases h; exact ⟨by simp only [TV.wf, wfU], rfl⟩
  ·rename_i k _; cases h; exact ⟨by simp only [TV.wf, wfU]; cases k <;> decide, rfl⟩
  ·cases h; exact ⟨by (simp only [TV.wf, wfU]; intro n hn; cases hn), rfl⟩
  ·cases h; exact ⟨by simp only [TV.wf], rfl⟩
  ·cases h; exact ⟨by simp only [TV.wf], rfl⟩
  ·cases h; exact ⟨by simp only [TV.wf], rfl⟩
  ·cases h; exact ⟨by simp only [TV.wf], rfl⟩
  ·cases h; exact ⟨by simp only [TV.wf], rfl⟩
  ·rename_i m e _;cases hf : zhw P m e with
   | true =>
    rw [hf] at h; cases h;refine ⟨zm4 (fun e0 => ?_) fun t ht => by rw [k9 ht]; exact ⟨by simp only [TV.wf], rfl⟩, rfl⟩
    unfold zhw at hf;split at hf
    ·simp only [kB, kc] at hf;have e1 : m = 0 := by simpa using congrArg kI e0
     subst e1;simp at hf
    ·cases hf
   | false =>
   rw [hf] at h;simp only [cond_false] at h;split at h
   ·rename_i u _;cases hs : u.solid with
    | false => rw [hs] at h; cases h
    | true =>
     rw [hs] at h; cases h;refine ⟨?_, rfl⟩;simp only [TV.wf, wfU];exact ⟨List.length_replicate, fun x hx => by rw [k9 hx]; exact z4r u hs⟩
   ·cases h
  ·split at h
   ·rename_i t' ts hf;cases h;refine ⟨zm4 (by simp) fun t ht => ?_, rfl⟩
    obtain ⟨x, hx⟩ := zh0 hf t ht;exact ziw n x hx
   ·cases h
  ·cases h
def zsq : PV -> PV -> Bool
 | .val (.bool a), .val (.bool b) => a == b
 | .val (.int k a), .val (.int k' b) => vK k k' && decide (a = b)
 | .val (.string s), .val (.string s') => kC s.size 0 && kC s'.size 0
 | .val (.pointer none), .val (.pointer none) => true
 | .val .nilFunc, .val .nilFunc => true
 | .val .nilIface, .val .nilIface => true
 | .val (.map none), .val (.map none) => true
 | .tr 0 [] .full, .tr 0 [] .full => true
 | .tr 0 [] .full, .tr 0 [] .no => true
 | _, _ => false
theorem zqs {p q : PV} (h : zsq p q = true) : PLe p q := by
 unfold zsq at h;split at h
 ·rw [eq_of_beq h]; exact PLe.refl _
 ·simp only [kB, decide_eq_true_eq] at h;rw [vh h.1, h.2]; exact PLe.refl _
 ·simp only [kB] at h;rename_i s s';have h1 := kA h.1;have h2 := kA h.2;have e : s = s' := ByteArray.ext (by
   have a1 : s.data = #[] := Array.eq_empty_of_size_eq_zero h1;have a2 : s'.data = #[] := Array.eq_empty_of_size_eq_zero h2;rw [a1, a2])
  rw [e]; exact PLe.refl _
 ·exact PLe.refl _
 ·exact PLe.refl _
 ·exact PLe.refl _
 ·exact PLe.refl _
 ·exact PLe.refl _
 ·exact zbq _
 ·cases h
def z1o : List PV -> List PV -> Bool
 | [], [] => true
 | p :: ps, q :: qs => zsq p q && z1o ps qs
 | _, _ => false
theorem CLe.cons {p q : PV} {ps qs : List PV} (h : PLe p q) (g : CLe ps qs) : CLe (p :: ps) (q :: qs) := (z96 h).append g
theorem z3t : ∀ {ps qs : List PV}, z1o ps qs = true -> CLe ps qs
 | [], [], _ => CLe.refl _
 | [], _ :: _, h => by simp [z1o] at h
 | _ :: _, [], h => by simp [z1o] at h
 | p :: ps, q :: qs, h => by
  simp only [z1o, kB] at h;exact CLe.cons (zqs h.1) (z3t h.2)
def zjl (P : Program) (t : TypeId) : Option TV :=
 match qK P t, zdb P vI t with
 | some z, some tv => bif z1o z tv.cells && z.all leaf then some tv else none
 | _, _ => none
theorem zbb {tv : TV} (h : zjl P t = some tv) : tv.wf /\ tv.stores = true /\ ∃ z, qK P t = some z /\ zd z /\ CLe z tv.cells := by
 unfold zjl at h;split at h
 ·rename_i z tv' h1 h2;cases hc : z1o z tv'.cells && z.all leaf with
  | false => rw [hc] at h; cases h
  | true =>
   rw [hc] at h; cases h;simp only [kB] at hc;obtain ⟨h3, h4⟩ := ziw _ _ h2;exact ⟨h3, h4, z, h1, fun p hp => kr.1 hc.2 p hp, z3t hc.1⟩
 ·cases h
def za2 {R : Type} (P : Program) (t : TypeId) : List TV -> List (Nat × TV) -> (List TV -> Option R) -> Option R
 | zs, [], k => k zs
 | zs, (i, p) :: ps, k =>
  match zs[i]?, z1n P t i with
  | some z, some (off, n) => bif p.stores && p.lay.beq z.lay && kC off ((TV.layS zs).off i) && kC n z.lay.size then za2 P t (zs.set i p) ps k else none
  | _, _ => none
def zju {R : Type} (P : Program) (t : TypeId) (m : Nat) (u : U) : List u.T -> List (Nat × TV) -> (List u.T -> Option R) -> Option R
 | l, [], k => k l
 | l, (i, p) :: ps, k =>
  match z1n P t i with
  | some (off, n) => bif p.stores && lA i m && kC off (i * u.size) && kC n u.size then yT p u fun x => zju P t m u (l.set i x) ps k else none
  | _ => none
theorem CLe.splice2 {a b p q : List PV} {o : Nat} (hb : CLe a b) (h : CLe p q) (ho : o + p.length <= a.length) : CLe (Ab.splice a o p) (Ab.splice b o q) := by
 have ho2 : o + q.length <= b.length := by rw [<- h.1, <- hb.1]; exact ho
 refine ⟨by rw [qB _ _ _ ho, qB _ _ _ ho2, hb.1], fun i x y hx hy => ?_⟩
 rw [z3x _ _ _ _ ho] at hx;rw [z3x _ _ _ _ ho2, <- h.1] at hy;split at hx
 ·rename_i hi; rw [if_pos hi] at hy; exact h.2 _ x y hx hy
 ·rename_i hi; rw [if_neg hi] at hy; exact hb.2 _ x y hx hy
theorem zei {R : Type} {P : Program} {t : TypeId} : ∀ {ps : List (Nat × TV)} {zs : List TV} {k : List TV -> Option R} {r : R} {z : List PV}, TV.wfs zs -> (∀ s, s ∈ zs -> s.stores = true) -> zs ≠ [] -> (∀ p, p ∈ ps -> p.2.wf) ->
  CLe z (TV.cellsL zs) -> za2 P t zs ps k = some r ->
  ∃ zs' r', k zs' = some r /\ (∀ s, s ∈ zs' -> s.wf /\ s.stores = true) /\ zs' ≠ [] /\ z5j (z1n P t) z (ps.map fun x => (x.1, x.2.pv)) r' /\ CLe r' (TV.cellsL zs')
 | [], zs, k, r, z, hw, hs, hn, hp, hz, h => ⟨zs, z, by simpa only [za2] using h, fun s hm => ⟨xm.1 hw s hm, hs s hm⟩, hn, rfl, hz⟩
 | (i, p) :: ps, zs, k, r, z, hw, hs, hn, hp, hz, h => by
  simp only [za2] at h;split at h
  ·rename_i zz off n hzi hpl;cases hc : p.stores && p.lay.beq zz.lay && kC off ((TV.layS zs).off i) && kC n zz.lay.size with
   | false => rw [hc] at h; cases h
   | true =>
    rw [hc] at h;simp only [kB] at hc;obtain ⟨⟨⟨c1, c2⟩, c3⟩, c4⟩ := hc;have e2 := U.beq_eq c2;have e3 := kA c3;have e4 := kA c4;have hpw := hp (i, p) (by simp)
    obtain ⟨g1, g2, g3⟩ := zh4 hw hzi hpw e2;obtain ⟨a1, a2, a3⟩ := z6w hw hzi;have hlz := xy zz (xm.1 hw zz (kD hzi));have hlp := xy p hpw;have hb : off + p.cells.length <= z.length := by rw [e3, hlp, e2, <- hlz, hz.1]; exact a3
    have hz' : CLe (splice z off p.cells) (TV.cellsL (zs.set i p)) := by
     rw [g1, <- e3]; exact CLe.splice2 hz (CLe.refl _) hb
    obtain ⟨zs', r', f1, f2, f3, f4, f5⟩ := zei (ps := ps) g3 (fun s hm => by
      rcases kP hm with hm | hm
      ·exact hs s hm
      ·rw [hm]; exact c1) (by simp; exact hn) (fun q hq => hp q (by simp [hq])) hz' h
    refine ⟨zs', r', f1, f2, f3, ⟨off, n, hpl, z6s hpw c1, ?_, ?_, f4⟩, f5⟩
    ·rw [e4, <- e2, <- hlp]; rfl
    ·have : n = p.cells.length := by rw [hlp, e4, e2]
     rw [this]; exact hb
  ·cases h
theorem zjv {R : Type} {P : Program} {t : TypeId} {m : Nat} {u : U} : ∀ {ps : List (Nat × TV)} {l : List u.T} {k : List u.T -> Option R} {r : R} {z : List PV}, l.length = m -> (∀ x, x ∈ l -> wfU u x) -> (∀ p, p ∈ ps -> p.2.wf) ->
  CLe z (zj u l) -> zju P t m u l ps k = some r ->
  ∃ l' r', k l' = some r /\ l'.length = m /\ (∀ x, x ∈ l' -> wfU u x) /\ z5j (z1n P t) z (ps.map fun x => (x.1, x.2.pv)) r' /\ CLe r' (zj u l')
 | [], l, k, r, z, hm, hw, hp, hz, h => ⟨l, z, by simpa only [zju] using h, hm, hw, rfl, hz⟩
 | (i, p) :: ps, l, k, r, z, hm, hw, hp, hz, h => by
  simp only [zju] at h;split at h
  ·rename_i off n hpl;cases hc : p.stores && lA i m && kC off (i * u.size) && kC n u.size with
   | false => rw [hc] at h; cases h
   | true =>
    rw [hc] at h;simp only [kB] at hc;obtain ⟨⟨⟨c1, c2⟩, c3⟩, c4⟩ := hc;have e2 : i < m := Nat.blt_eq.mp c2;have e3 := kA c3;have e4 := kA c4;have hpw := hp (i, p) (by simp)
    obtain ⟨x, h1, h2, h3⟩ := z2d hpw h;have hlx := zw u x h2;have hil : i < l.length := by rw [hm]; exact e2
    have hrow := (vS hw (kM hil)).2;have hb : off + p.cells.length <= z.length := by rw [e3, h3.1, hlx, hz.1]; exact hrow
    have hset := zds hw h2 hil;have hz' : CLe (splice z off p.cells) (zj u (l.set i x)) := by
     rw [hset, <- e3]; exact CLe.splice2 hz h3 hb
    obtain ⟨l', r', f1, f2, f3, f4, f5⟩ := zjv (ps := ps) (l := l.set i x) (by simp [hm]) (fun y hy => by
      rcases kP hy with hy | hy
      ·exact hw y hy
      ·rw [hy]; exact h2) (fun q hq => hp q (by simp [hq])) hz' h1
    have hn : n = p.cells.length := by rw [h3.1, hlx, e4]
    exact ⟨l', r', f1, f2, f3, ⟨off, n, hpl, z6s hpw c1, hn.symm, by rw [hn]; exact hb, f4⟩, f5⟩
  ·cases h
def zjz (P : Program) (t : TypeId) (ps : List (Nat × TV)) (k : TV -> Option R) : Option R :=
 match zjl P t with
 | some (.agg zs) => bif z9j P t && ps.all (fun x => x.2.stores) then za2 P t zs ps fun zs' => k (.agg zs') else none
 | some (.v (.arr m u) l) => bif z9j P t && ps.all (fun x => x.2.stores) then zju P t m u l ps fun l' => k (.v (.arr m u) l') else none
 | _ => none
theorem z7h {σ : TS} : ∀ {parts : List (Nat × Operand)}, (parts.map fun x => (x.1, σ.eval x.2)).all (fun x => x.2.stores) = true ->
  parts.map (fun x => (x.1, σ.flat.eval x.2)) = (parts.map fun x => (x.1, σ.eval x.2)).map fun x => (x.1, x.2.pv)
 | [], _ => rfl
 | x :: l, h => by
  simp only [kS, List.all_cons, kB] at h;simp only [kS, z7h h.2];congr 2;rcases vR σ x.2 with e | e
  ·exact e
  ·rw [e] at h; simp [TV.stores] at h
theorem znr {parts : Array (Nat × Operand)} {k : TV -> Option R} (ho : o.op = .build t parts) (hw : σ.wf)
  (h : zjz P t (parts.toList.map fun x => (x.1, σ.eval x.2)) k = some r) : ∃ q, k q = some r /\ TQ P o σ q := by
 have hpw : ∀ p, p ∈ (parts.toList.map fun x => (x.1, σ.eval x.2)) -> p.2.wf := fun p hp => by
  simp only [kW] at hp;obtain ⟨x, _, rfl⟩ := hp;exact zu hw x.2
 unfold zjz at h;split at h
 ·rename_i zs hz;obtain ⟨z1, z2, z, z3, z4, z5⟩ := zbb hz;cases hc : z9j P t && (parts.toList.map fun x => (x.1, σ.eval x.2)).all (fun x => x.2.stores) with
  | false => rw [hc] at h; cases h
  | true =>
   rw [hc] at h;simp only [kB] at hc;simp only [TV.wf] at z1;have hst : ∀ s, s ∈ zs -> s.stores = true := by
    intro s hs;cases hss : s.stores with
    | true => rfl
    | false =>
     exfalso;obtain ⟨i, hi⟩ := List.mem_iff_getElem?.1 hs;obtain ⟨_, h2, h3⟩ := z6w z1.2.1 hi;have hleaf : ∀ q, q ∈ s.cells -> leaf q = true := fun q hq => z1.2.2 q (kN (kO (h2 ▸ hq)))
     cases s <;> first | (cases hss; done) | skip
     all_goals
      have := hleaf _ (by simp only [TV.cells, TV.pv, cellsOf]; exact ka.2 rfl)
      simp [leaf] at this
   rw [jN] at z5;obtain ⟨zs', r', f1, f2, f3, f4, f5⟩ := zei z1.2.1 hst z1.1 hpw z5 h;have hwf := zm4 f3 f2;refine ⟨_, f1, hwf, ?_⟩;intro Y hY;have := zn7 (σ := { σ.flat with H := Y }) ho z3 z4 hc.1 (z7h hc.2) f4;exact qle this (by simp only [TV.pv]; exact zdd f5 (z7e f2))
 ·rename_i m u l hz;obtain ⟨z1, z2, z, z3, z4, z5⟩ := zbb hz;cases hc : z9j P t && (parts.toList.map fun x => (x.1, σ.eval x.2)).all (fun x => x.2.stores) with
  | false => rw [hc] at h; cases h
  | true =>
   rw [hc] at h;simp only [kB] at hc;simp only [TV.wf, wfU] at z1;rw [vO] at z5;obtain ⟨l', r', f1, f2, f3, f4, f5⟩ := zjv z1.1 z1.2 hpw z5 h;refine ⟨_, f1, by simp only [TV.wf, wfU]; exact ⟨f2, f3⟩, ?_⟩
   intro Y hY;have := zn7 (σ := { σ.flat with H := Y }) ho z3 z4 hc.1 (z7h hc.2) f4;exact qle this (by simp only [TV.pv, pvU, zc]; exact zdd f5 (yQ f3))
 ·cases h
def z4o {R : Type} (u : U) : List TV -> (List u.T -> Option R) -> Option R
 | [], k => k []
 | t :: ts, k => yT t u fun x => z4o u ts fun l => k (x :: l)
def z6z : List (Nat × TV) -> Nat -> Bool
 | [], _ => true
 | (i, _) :: r, n => kC i n && z6z r (n + 1)
theorem zv6 {σ : AS} {t e : TypeId} {parts : Array (Nat × Operand)} (ho : o.op = .buildSlice t 0 parts) (hp : parts.toList.length = 0) (ht : P.underlying t = some (.slice e)) (hs : ye P e = some n) : QStep P o σ (.tr 0 [] .full) := by
 intro c a w K Q hr hK;have hp' : parts = #[] := by
  have : parts.toList = [] := List.eq_nil_of_length_eq_zero hp;exact Array.toList_eq_nil_iff.1 this
 subst hp';obtain ⟨g, x⟩ := zcy hr.1 (.cells #[] e (0, 0));refine je (v := .slice (some ⟨w.heap.size, 0, none⟩) 0 0) (w' := grow w (.cells #[] e (0, 0))) ?_ (hK _ _ ?_ g x)
 ·have : (Instr.buildSlice t 0 #[]).run P w = .ok (.slice (some ⟨w.heap.size, 0, none⟩) 0 0) (grow w (.cells #[] e (0, 0))) := by
   unfold Instr.buildSlice;simp only [kw, Ab.run_underlying ht, kq, Ab.run_sizeOf hs];rw [if_neg (by omega)]
   have e3 : (Array.range 0).map (fun x => (#[] : Array Value)[x % (#[] : Array Value).size]!) = #[] := by simp
   simp only [kv, if_true, Sem.run_pure, kw, kq];rw [e3];simp only [Instr.fill, kw, newRow, run_newObj, kq, Sem.run_pure];rfl
  have e2 : (#[] : Array (Nat × Operand)).map (fun x => (x.1, a.eval x.2)) = #[] := by simp
  simp only [execOp, ho, kw];rw [show (Array.map (fun (x : Nat × Operand) => (x.1, a.eval x.2)) #[]) = #[] from e2, this]
  rfl
 ·simp only [VR];exact .inr ⟨_, 0, rfl, kV _, .inl rfl, rfl, (fun p hp => by cases hp), by simp only [VRs]⟩
def zto (P : Program) (e : TypeId) (k : TV -> Option R) : Option R :=
 match z06 P vI e, ye P e with
 | some u, some n => bif kC n u.size then k (.fsl u []) else none
 | _, _ => none
def z8l (P : Program) (t : TypeId) (len : Nat) (ps : List (Nat × TV)) (k : TV -> Option R) : Option R :=
 match P.underlying t with
 | some (.slice e) => bif kC len 0 && kC ps.length 0 then zto P e k else
  match z06 P vI e, ye P e, qK P e with
  | some u, some n, some z => bif kC n u.size && !kC n 0 && !kC len 0 && kC z.length n && z.all leaf && kg (len * n) 16777216 && kC ps.length len && z6z ps 0 && ps.all (fun x => x.2.stores)
   then z4o u (ps.map (·.2)) fun l => k (.fsl u l) else none
  | _, _, _ => none
 | _ => none
theorem z7k {R : Type} {u : U} : ∀ {ts : List TV} {k : List u.T -> Option R} {r : R}, (∀ t, t ∈ ts -> t.wf) -> z4o u ts k = some r ->
  ∃ l, k l = some r /\ l.length = ts.length /\ (∀ x, x ∈ l -> wfU u x) /\ CLe (ts.flatMap TV.cells) (zj u l) /\ ∀ t, t ∈ ts -> t.cells.length = u.size
 | [], k, r, _, h => ⟨[], by simpa only [z4o] using h, rfl, fun x hx => (by cases hx), CLe.refl _, fun t ht => (by cases ht)⟩
 | t :: ts, k, r, hw, h => by
  simp only [z4o] at h;obtain ⟨x, h1, h2, h3⟩ := z2d (hw t (by simp)) h
  obtain ⟨l, g1, g2, g3, g4, g5⟩ := z7k (fun s hs => hw s (by simp [hs])) h1
  refine ⟨x :: l, g1, by simp [g2], fun y hy => ?_, ?_, fun s hs => ?_⟩
  ·rcases ke.1 hy with rfl | hy
   ·exact h2
   ·exact g3 y hy
  ·simp only [kE, zj];exact h3.append g4
  ·rcases ke.1 hs with rfl | hs
   ·rw [h3.1, zw u x h2]
   ·exact g5 s hs
theorem z8p : ∀ {ps : List (Nat × TV)} {n : Nat}, z6z ps n = true -> ps.map (fun x => (x.1, x.2.pv)) = ((ps.map fun x => x.2.pv).zipIdx n).map fun x => (x.2, x.1)
 | [], _, _ => rfl
 | (i, p) :: r, n, h => by
  simp only [z6z, kB] at h;have e := kA h.1;simp only [kS, List.zipIdx_cons, e, z8p h.2]
theorem ztv {len : Nat} {cs ds : List PV} {t : Tail} (h : CLe cs ds) (hl : zd ds) : PLe (.tr len cs t) (.tr len ds t) := by
 intro w c v hg hv;simp only [VR] at hv ⊢;rcases hv with ⟨h3, h4, h5, h6⟩ | ⟨ad, cap, h3, h4, h5, h6, h7, h8⟩
 ·refine .inl ⟨h3, h4, ?_, h6⟩;subst h5;exact List.eq_nil_of_length_eq_zero (by rw [<- h.1]; rfl)
 ·refine .inr ⟨ad, cap, h3, h4, by rw [<- h.1]; exact h5, ?_, hl, jk hg h h8⟩
  rw [<- h.1]; exact h6
theorem zfg {len : Nat} {parts : Array (Nat × Operand)} {k : TV -> Option R} (ho : o.op = .buildSlice t len parts) (hw : σ.wf)
  (h : z8l P t len (parts.toList.map fun x => (x.1, σ.eval x.2)) k = some r) : ∃ q, k q = some r /\ TQ P o σ q := by
 have hpw : ∀ p, p ∈ (parts.toList.map fun x => (x.1, σ.eval x.2)) -> p.2.wf := fun p hp => by
  simp only [kW] at hp;obtain ⟨x, _, rfl⟩ := hp;exact zu hw x.2
 unfold z8l at h;split at h
 ·rename_i e hu;cases h0 : kC len 0 && kC (parts.toList.map fun x => (x.1, σ.eval x.2)).length 0 with
  | true =>
   rw [h0] at h;simp only [kB, List.length_map] at h0;have e0 := kA h0.1;have e1 := kA h0.2;subst e0;simp only [cond_true, zto] at h;split at h
   ·rename_i u n hcode hn;cases hc : kC n u.size with
    | false => rw [hc] at h; cases h
    | true =>
     rw [hc] at h;refine ⟨_, h, fun x hx => (by cases hx), fun Y hY => ?_⟩
     exact zv6 ho e1 hu hn
   ·cases h
  | false =>
  rw [h0] at h;simp only [cond_false] at h;split at h
  ·rename_i u n z hcode hn hz;generalize hps : (parts.toList.map fun x => (x.1, σ.eval x.2)) = ps at h hpw
   cases hc : kC n u.size && !kC n 0 && !kC len 0 && kC z.length n && z.all leaf && kg (len * n) 16777216 && kC ps.length len && z6z ps 0 && ps.all (fun x => x.2.stores) with
   | false => rw [hc] at h; cases h
   | true =>
    rw [hc] at h;simp only [kB, kc] at hc;obtain ⟨⟨⟨⟨⟨⟨⟨⟨c1, c2⟩, c3⟩, c4⟩, c5⟩, c6⟩, c7⟩, c8⟩, c9⟩ := hc;have e1 := kA c1;have e7 := kA c7;have n0 : n ≠ 0 := fun e => by rw [e] at c2; cases c2
    have l0 : len ≠ 0 := fun e => by rw [e] at c3; cases c3
    obtain ⟨l, g1, g2, g3, g4, g5⟩ := z7k (fun s hs => by
     simp only [kW] at hs;obtain ⟨x, hx, rfl⟩ := hs;exact hpw x hx) h
    simp only [List.length_map] at g2;refine ⟨_, g1, by simpa only [TV.wf] using g3, ?_⟩
    have hst : ∀ p, p ∈ ps.map (fun x => x.2.pv) -> z7r p = true /\ (cellsOf p).length = n := fun p hp => by
     simp only [kW] at hp;obtain ⟨x, hx, rfl⟩ := hp;exact ⟨z6s (hpw x hx) (kr.1 c9 x hx), by rw [e1]; exact g5 x.2 (kW.2 ⟨x, hx, rfl⟩)⟩
    intro Y hY;have hq := zvk (σ := { σ.flat with H := Y }) (ps := ps.map fun x => x.2.pv) ho hu hn n0 l0 hz (kA c4) (fun p hp => kr.1 c5 p hp) (by have := kZ c6; omega) (by simpa using e7)
     (by rw [show (parts.toList.map fun x => (x.1, AS.eval { σ.flat with H := Y } x.2)) = parts.toList.map fun x => (x.1, σ.flat.eval x.2) from rfl, z7h (by rw [hps]; exact c9), hps]; exact z8p c8) hst
    have e2 : (ps.map fun x => x.2.pv).flatMap cellsOf = (ps.map (·.2)).flatMap TV.cells := by simp [List.flatMap_map, TV.cells]
    rw [e2] at hq;refine qle hq ?_;simp only [TV.pv];rw [g2, e7];exact ztv g4 (yQ g3)
  ·cases h
 ·cases h
def zom (c a b : TV) (k : TV -> Option R) : Option R :=
 match c with
 | .v .bool β =>
  match a, b with
  | .v u x, .v u' y => bif u.beq u' then xV u' u y fun z => k (.v u (cond β x z)) else cond β (k (.v u x)) (k (.v u' y))
  | a, b => cond β (k a) (k b)
 | _ => none
theorem zqn {c x y : Operand} {k : TV -> Option R} (ho : o.op = .pick c x y) (hw : σ.wf) (h : zom (σ.eval c) (σ.eval x) (σ.eval y) k = some r) :
  ∃ q, k q = some r /\ TQ P o σ q := by
 have hwx := zu hw x;have hwy := zu hw y;unfold zom at h;generalize hc : σ.eval c = cc at h;split at h
 ·rename_i β;have ec : σ.flat.eval c = .val (.bool β) := zb hc (by simp)
  have either : cond β (k (σ.eval x)) (k (σ.eval y)) = some r -> ∃ q, k q = some r /\ TQ P o σ q := fun hh => by
   cases β with
   | true => exact ⟨_, hh, hwx, fun _ _ => qle (zge ho ec rfl) (z2o σ x)⟩
   | false => exact ⟨_, hh, hwy, fun _ _ => qle (zge ho ec rfl) (z2o σ y)⟩
  split at h
  ·rename_i u x' u' y' hx hy;cases hb : u.beq u' with
   | false => rw [hb] at h; rw [hx, hy] at either; exact either h
   | true =>
    rw [hb] at h;simp only [cond_true] at h;obtain ⟨e, h⟩ := yg h;subst e;cases β with
    | true =>
     refine ⟨_, h, by rw [hx] at hwx; exact hwx, fun _ _ => qle (zge ho ec rfl) ?_⟩
     have := z2o σ x;rw [hx] at this; exact this
    | false =>
     refine ⟨_, h, by rw [hy] at hwy; exact hwy, fun _ _ => qle (zge ho ec rfl) ?_⟩
     have := z2o σ y;rw [hy] at this; exact this
  ·exact either h
 ·cases h
end Go.Tm
