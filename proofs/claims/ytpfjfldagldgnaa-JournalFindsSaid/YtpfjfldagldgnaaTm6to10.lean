import Derived.Test.YtpfjfldagldgnaaTm1to5
set_option linter.unusedSimpArgs false
set_option linter.unusedVariables false
namespace Go.Tm
open Go.Ab
def zbg (f : TypeId → U → Bool) : List Field → Us → Nat → Bool
 | [x], .one u, off => Nat.beq x.offset off && f x.type u
 | x :: y :: xs, .cons u us, off => Nat.beq x.offset off && f x.type u && zbg f (y :: xs) us (off + u.size)
 | _, _, _ => false
def agree (P : Program) : Nat → TypeId → U → Bool
 | 0, _, _ => false
 | n + 1, t, u => Nat.beq (P.cellsOf t) u.size &&
   match P.underlying t, u with
   | some .bool, .bool => true
   | some (.int k), .int k' => zgi k k'
   | some .string, .str => true
   | some (.array m e), .arr m' v => Nat.beq m m' && agree P n e v
   | some (.slice e), .sl v => agree P n e v
   | some (.struct fs), .st us => zbg (agree P n) fs.toList us 0
   | _, _ => false
def z1nn (f : TypeId → Option U) : List Field → Option Us
 | [] => none
 | [x] => (f x.type).map .one
 | x :: y :: xs => match f x.type, z1nn f (y :: xs) with
   | some u, some us => some (.cons u us)
   | _, _ => none
def zia (P : Program) : Nat → TypeId → Option U
 | 0, _ => none
 | n + 1, t =>
   match P.underlying t with
   | some .bool => some .bool
   | some (.int k) => some (.int k)
   | some .string => some .str
   | some (.array m e) => (zia P n e).map (.arr m)
   | some (.slice e) => (zia P n e).map .sl
   | some (.struct fs) => (z1nn (zia P n) fs.toList).map .st
   | _ => none
mutual
def U.cmp : U → Bool
 | .int _ | .bool | .str => true
 | .arr _ u => u.cmp
 | .st us => us.cmp
 | _ => false
def Us.cmp : Us → Bool
 | .one u => u.cmp
 | .cons u us => u.cmp && us.cmp
end
def eqL {α : Type} (f : α → α → Bool) : List α → List α → Bool
 | [], [] => true
 | x :: l, y :: m => f x y && eqL f l m
 | _, _ => false
mutual
def eqU : (u : U) → u.T → u.T → Bool
 | .int _, a, b => eqI a b
 | .bool, a, b => decide (a = b)
 | .str, a, b => eqS a b
 | .arr _ u, l, m => eqL (fun x y => eqU u x y) l m
 | .st us, x, y => eqUs us x y
 | _, _, _ => false
def eqUs : (us : Us) → us.T → us.T → Bool
 | .one u, x, y => eqU u x y
 | .cons u us, x, y => eqU u x.1 y.1 && eqUs us x.2 y.2
end
theorem z1kc {α : Type} {f : α → α → Bool} (h : ∀ x y, f x y = true ↔ x = y) : ∀ {l m : List α}, eqL f l m = true ↔ l = m
 | [], [] => by simp [eqL]
 | [], _ :: _ => by simp [eqL]
 | _ :: _, [] => by simp [eqL]
 | x :: l, y :: m => by simp only [eqL, Bool.and_eq_true, h, z1kc h, List.cons.injEq]
mutual
theorem z18s : ∀ {u : U} {x y : u.T}, u.cmp = true → (eqU u x y = true ↔ x = y)
 | .int _, _, _, _ => by simp [eqU]
 | .bool, _, _, _ => by simp [eqU]
 | .str, _, _, _ => by simp [eqU]
 | .arr _ u, l, m, h => by
   simp only [U.cmp] at h
   simp only [eqU]
   exact z1kc fun x y => z18s h
 | .st us, x, y, h => by
   simp only [U.cmp] at h
   simp only [eqU]
   exact z1gh h
 | .sl _, _, _, h => by simp [U.cmp] at h
 | .leaf, _, _, h => by simp [U.cmp] at h
theorem z1gh : ∀ {us : Us} {x y : us.T}, us.cmp = true → (eqUs us x y = true ↔ x = y)
 | .one u, _, _, h => by
   simp only [Us.cmp] at h
   simp only [eqUs]
   exact z18s h
 | .cons u us, x, y, h => by
   simp only [Us.cmp, Bool.and_eq_true] at h
   simp only [eqUs, Bool.and_eq_true, z18s h.1, z1gh h.2]
   exact ⟨fun ⟨a, b⟩ => Prod.ext a b, fun e => by rw [e]; exact ⟨rfl, rfl⟩⟩
end
mutual
def valsU : (u : U) → u.T → List Value
 | .int k, n => [.int k n]
 | .bool, b => [.bool b]
 | .str, s => [.string (ba s)]
 | .arr _ u, l => List.flatMap (fun x => valsU u x) l
 | .st us, x => zeu us x
 | _, _ => []
def zeu : (us : Us) → us.T → List Value
 | .one u, x => valsU u x
 | .cons u us, x => valsU u x.1 ++ zeu us x.2
end
theorem z16l {α : Type} {f : α → List PV} {g : α → List Value} : ∀ {l : List α}, (∀ x, x ∈ l → f x = (g x).map PV.val) → l.flatMap f = (l.flatMap g).map PV.val
 | [], _ => rfl
 | x :: l, h => by
   rw [List.flatMap_cons, List.flatMap_cons, List.map_append, h x (by simp), z16l fun y hy => h y (by simp [hy])]
mutual
theorem zt2 : ∀ (u : U) (x : u.T), u.cmp = true → cellU u x = (valsU u x).map PV.val
 | .int _, _, _ => by simp [cellU, valsU]
 | .bool, _, _ => by simp [cellU, valsU]
 | .str, _, _ => by simp [cellU, valsU]
 | .arr _ u, l, h => by
   simp only [U.cmp] at h
   simp only [cellU, valsU]
   exact z16l fun x _ => zt2 u x h
 | .st us, x, h => by
   simp only [U.cmp] at h
   simp only [cellU, valsU]
   exact z13h us x h
 | .sl _, _, h => by simp [U.cmp] at h
 | .leaf, _, h => by simp [U.cmp] at h
theorem z13h : ∀ (us : Us) (x : us.T), us.cmp = true → z1o us x = (zeu us x).map PV.val
 | .one u, x, h => by
   simp only [Us.cmp] at h
   simp only [z1o, zeu]
   exact zt2 u x h
 | .cons u us, x, h => by
   simp only [Us.cmp, Bool.and_eq_true] at h
   simp only [z1o, zeu, List.map_append]
   rw [zt2 u x.1 h.1, z13h us x.2 h.2]
end
theorem zll (u : U) (x : u.T) (h : u.cmp = true) (hw : wfU u x) : (valsU u x).length = u.size := by
 have := z1d u x hw
 rw [zt2 u x h] at this; simpa using this
theorem z1h9 {α : Type} {g : α → List Value} {n : Nat} {p : α → Prop} (hn : ∀ x, p x → (g x).length = n) (hi : ∀ x y, p x → p y → g x = g y → x = y) : ∀ {l m : List α}, (∀ x, x ∈ l → p x) → (∀ x, x ∈ m → p x) → l.length = m.length → l.flatMap g = m.flatMap g → l = m
 | [], [], _, _, _, _ => rfl
 | [], _ :: _, _, _, h, _ => by simp at h
 | _ :: _, [], _, _, h, _ => by simp at h
 | x :: l, y :: m, hl, hm, h, e => by
   rw [List.flatMap_cons, List.flatMap_cons] at e
   have hx := hn x (hl x (by simp))
   have hy := hn y (hm y (by simp))
   obtain ⟨e1, e2⟩ := List.append_inj e (by omega)
   rw [hi x y (hl x (by simp)) (hm y (by simp)) e1, z1h9 hn hi (fun z hz => hl z (by simp [hz])) (fun z hz => hm z (by simp [hz])) (by simpa using h) e2]
mutual
theorem z14c : ∀ (u : U) (x y : u.T), u.cmp = true → wfU u x → wfU u y → valsU u x = valsU u y → x = y
 | .int _, _, _, _, _, _, e => by simpa [valsU] using e
 | .bool, _, _, _, _, _, e => by simpa [valsU] using e
 | .str, a, b, _, ha, hb, e => by
   simp only [valsU, List.cons.injEq, Value.string.injEq, and_true] at e
   simp only [wfU] at ha hb
   have := congrArg ByteArray.toList e
   rw [zou, zou] at this
   exact z16v ha hb this
 | .arr _ u, l, m, h, hl, hm, e => by
   simp only [U.cmp] at h
   simp only [wfU] at hl hm
   simp only [valsU] at e
   exact z1h9 (p := wfU u) (fun x hx => zll u x h hx) (fun x y hx hy => z14c u x y h hx hy) hl.2 hm.2 (by rw [hl.1, hm.1]) e
 | .st us, x, y, h, hx, hy, e => by
   simp only [U.cmp] at h
   simp only [wfU] at hx hy
   simp only [valsU] at e
   exact z1fh us x y h hx hy e
 | .sl _, _, _, h, _, _, _ => by simp [U.cmp] at h
 | .leaf, _, _, h, _, _, _ => by simp [U.cmp] at h
theorem z1fh : ∀ (us : Us) (x y : us.T), us.cmp = true → wfUs us x → wfUs us y → zeu us x = zeu us y → x = y
 | .one u, x, y, h, hx, hy, e => by
   simp only [Us.cmp] at h
   simp only [wfUs] at hx hy
   simp only [zeu] at e
   exact z14c u x y h hx hy e
 | .cons u us, x, y, h, hx, hy, e => by
   simp only [Us.cmp, Bool.and_eq_true] at h
   simp only [wfUs] at hx hy
   simp only [zeu] at e
   have h1 := zll u x.1 h.1 hx.1
   have h2 := zll u y.1 h.1 hy.1
   obtain ⟨e1, e2⟩ := List.append_inj e (by omega)
   exact Prod.ext (z14c u x.1 y.1 h.1 hx.1 hy.1 e1) (z1fh us x.2 y.2 h.2 hx.2 hy.2 e2)
end
theorem z1i3 {u : U} (h : u.cmp = true) : ∀ {l : List u.T} {i : Nat}, (∀ y, y ∈ l → wfU u y) → i < l.length → ∃ x, x ∈ l ∧ ((l.flatMap fun x => valsU u x).drop (i * u.size)).take u.size = valsU u x
 | [], _, _, hi => by simp at hi
 | y :: l, 0, hw, _ => by
   have hl := zll u y h (hw y (by simp))
   refine ⟨y, by simp, ?_⟩
   rw [List.flatMap_cons, Nat.zero_mul, List.drop_zero, ← hl, List.take_left']; rfl
 | y :: l, i + 1, hw, hi => by
   have hl := zll u y h (hw y (by simp))
   obtain ⟨x, h1, h2⟩ := z1i3 h (l := l) (i := i) (fun z hz => hw z (by simp [hz])) (by simpa using hi)
   refine ⟨x, by simp [h1], ?_⟩
   have e : (i + 1) * u.size = u.size + i * u.size := by rw [Nat.succ_mul, Nat.add_comm]
   rw [List.flatMap_cons, e]
   conv => lhs; rw [← hl]
   rw [List.drop_length_add_append, hl]; exact h2
theorem z19v {u : U} (h : u.cmp = true) : ∀ {l : List u.T}, (∀ y, y ∈ l → wfU u y) → (l.flatMap fun x => valsU u x).length = l.length * u.size
 | [], _ => by simp
 | y :: l, hw => by
   rw [List.flatMap_cons, List.length_append, zll u y h (hw y (by simp)), z19v h (fun z hz => hw z (by simp [hz])), List.length_cons, Nat.succ_mul, Nat.add_comm]
theorem z1fp {P : Program} : ∀ (n : Nat) (t : TypeId) (u : U) (x : u.T), agree P n t u = true → u.cmp = true → wfU u x → z7u P n t (valsU u x) := by
 intro n
 induction n with
 | zero => intro t u x h; simp [agree] at h
 | succ n ih =>
   intro t u x h hc hw
   simp only [agree, Bool.and_eq_true] at h
   obtain ⟨hcell0, h⟩ := h
   have hcell := Nat.eq_of_beq_eq_true hcell0
   clear hcell0
   simp only [z7u]
   split at h
   · rename_i hu
     rw [hu]
     exact ⟨x, by simp [valsU]⟩
   · rename_i hu
     rw [hu]
     have := zeq h; subst this
     exact ⟨x, by simp [valsU]⟩
   · rename_i hu
     rw [hu]
     exact ⟨ba x, by simp [valsU]⟩
   · rename_i m e m' v hu
     rw [hu]
     simp only [Bool.and_eq_true] at h
     have e1 := Nat.eq_of_beq_eq_true h.1; subst e1
     simp only [U.cmp] at hc
     simp only [wfU] at hw
     have hce : P.cellsOf e = v.size := by
       cases n with
       | zero => simp [agree] at h
       | succ n => have := h.2; simp only [agree, Bool.and_eq_true] at this; exact Nat.eq_of_beq_eq_true this.1
     simp only [valsU]
     refine ⟨by rw [z19v hc hw.2, hcell, U.size, hw.1], fun i hi => ?_⟩
     rw [hce]
     obtain ⟨y, hy, e2⟩ := z1i3 hc hw.2 (by rw [hw.1]; exact hi)
     rw [e2]
     exact ih e v y h.2 hc (hw.2 y hy)
   · simp [U.cmp] at hc
   · rename_i fs us hu
     rw [hu]
     · simp only [U.cmp] at hc
       simp only [wfU] at hw
       simp only [valsU]
       have hlen : (zeu us x).length = us.size := by
         have := zq7 us x hw
         rw [z13h us x hc] at this; simpa using this
       refine ⟨by rw [hlen, hcell, U.size], fun f hf => ?_⟩
       -- the fields, one by one
       have key : ∀ (fs : List Field) (us : Us) (x : us.T) (off : Nat) (pre : List Value), zbg (agree P n) fs us off = true → us.cmp = true → wfUs us x → pre.length = off → ∀ f, f ∈ fs →
           z7u P n f.type (((pre ++ zeu us x).drop f.offset).take (P.cellsOf f.type)) := by
         intro fs
         induction fs with
         | nil => intro us x off pre h; cases us <;> simp [zbg] at h
         | cons g gs ihf =>
           intro us x off pre h hc hw hp f hf
           cases gs with
           | nil =>
             cases us with
             | cons _ _ => simp [zbg] at h
             | one v =>
               simp only [zbg, Bool.and_eq_true] at h
               simp only [List.mem_singleton] at hf; subst hf
               have ho := Nat.eq_of_beq_eq_true h.1
               simp only [Us.cmp] at hc
               simp only [wfUs] at hw
               have hce : P.cellsOf f.type = v.size := by
                 cases n with
                 | zero => simp [agree] at h
                 | succ n => have := h.2; simp only [agree, Bool.and_eq_true] at this; exact Nat.eq_of_beq_eq_true this.1
               have hl := zll v x hc hw
               simp only [zeu]
               rw [ho, ← hp, List.drop_left', hce, List.take_of_length_le (by omega)]
               · exact ih _ v x h.2 hc hw
               · rfl
           | cons g2 gs =>
             cases us with
             | one _ => simp [zbg] at h
             | cons v us =>
               simp only [zbg, Bool.and_eq_true] at h
               simp only [Us.cmp, Bool.and_eq_true] at hc
               simp only [wfUs] at hw
               have hl := zll v x.1 hc.1 hw.1
               have ho := Nat.eq_of_beq_eq_true h.1.1
               rcases List.mem_cons.1 hf with rfl | hf
               · have hce : P.cellsOf f.type = v.size := by
                   cases n with
                   | zero => simp [agree] at h
                   | succ n => have := h.1.2; simp only [agree, Bool.and_eq_true] at this; exact Nat.eq_of_beq_eq_true this.1
                 simp only [zeu]
                 rw [ho, ← hp, List.drop_left', hce, ← hl, List.take_left']
                 · exact ih _ v x.1 h.1.2 hc.1 hw.1
                 · rfl
                 · rfl
               · have := ihf us x.2 (off + v.size) (pre ++ valsU v x.1) h.2 hc.2 hw.2 (by rw [List.length_append, hp, hl]) f hf
                 simp only [zeu]
                 rw [← List.append_assoc]; exact this
       have := key fs.toList us x 0 [] h hc hw rfl f hf
       simpa using this
   · cases h
mutual
theorem z13g {R : Type} : ∀ (t : TV) (u : U) {k : u.T → Option R} {r : R}, t.wf → u.cmp = true → sealK t u k = some r → ∃ x, k x = some r ∧ wfU u x ∧ t.pv = pvU u x ∧ t.cells = cellU u x
 | .v u' x, u, k, r, hw, hc, h => by
   simp only [sealK] at h
   simp only [TV.wf] at hw
   obtain ⟨y, h1, h2, h3⟩ := z1o3 hw h
   refine ⟨y, h1, h2, by simp only [TV.pv, h3], ?_⟩
   simp only [TV.cells, TV.pv, h3, (zel u y h2).1]
 | .agg ts, .st us, k, r, hw, hc, h => by
   simp only [sealK] at h
   simp only [TV.wf] at hw
   simp only [U.cmp] at hc
   obtain ⟨x, h1, h2, h3⟩ := z1fk ts us hw.2.1 hc h
   refine ⟨x, h1, by simpa only [wfU] using h2, ?_, ?_⟩
   · simp only [TV.pv, pvU, cellU, h3]
   · simp only [TV.cells, TV.pv, cellsOf, cellU]; exact h3
 | .nil, .sl _, _, _, _, hc, _ | .fsl _ _, .sl _, _, _, _, hc, _ | .osf _ _ _ _, .sl _, _, _, _, hc, _ => by simp [U.cmp] at hc
 | .nil, .int _, _, _, _, _, h | .nil, .bool, _, _, _, _, h | .nil, .str, _, _, _, _, h | .nil, .arr _ _, _, _, _, _, h | .nil, .st _, _, _, _, _, h | .nil, .leaf, _, _, _, _, h => by simp [sealK] at h
 | .osf _ _ _ _, .int _, _, _, _, _, h | .osf _ _ _ _, .bool, _, _, _, _, h | .osf _ _ _ _, .str, _, _, _, _, h | .osf _ _ _ _, .arr _ _, _, _, _, _, h | .osf _ _ _ _, .st _, _, _, _, _, h | .osf _ _ _ _, .leaf, _, _, _, _, h => by simp [sealK] at h
 | .fsl _ _, .int _, _, _, _, _, h | .fsl _ _, .bool, _, _, _, _, h | .fsl _ _, .str, _, _, _, _, h | .fsl _ _, .arr _ _, _, _, _, _, h | .fsl _ _, .st _, _, _, _, _, h | .fsl _ _, .leaf, _, _, _, _, h => by simp [sealK] at h
 | .agg _, .int _, _, _, _, _, h | .agg _, .bool, _, _, _, _, h | .agg _, .str, _, _, _, _, h | .agg _, .arr _ _, _, _, _, _, h | .agg _, .sl _, _, _, _, _, h | .agg _, .leaf, _, _, _, _, h => by simp [sealK] at h
 | .rf _, _, _, _, _, _, h | .tup _, _, _, _, _, _, h | .ptr _ _ _, _, _, _, _, _, h | .os _ _ _ _ _ _, _, _, _, _, _, h | .one, _, _, _, _, _, h | .fn _ _, _, _, _, _, _, h | .nilp, _, _, _, _, _, h | .nilf, _, _, _, _, _, h | .yl _, _, _, _, _, _, h
 | .nili, _, _, _, _, _, h | .nilm, _, _, _, _, _, h
 | .ifc _ _, _, _, _, _, _, h | .dead, _, _, _, _, _, h => by simp [sealK] at h
theorem z1fk {R : Type} : ∀ (ts : List TV) (us : Us) {k : us.T → Option R} {r : R}, TV.wfs ts → us.cmp = true → sealS ts us k = some r → ∃ x, k x = some r ∧ wfUs us x ∧ TV.cellsL ts = z1o us x
 | [t], .one u, k, r, hw, hc, h => by
   simp only [sealS] at h
   simp only [TV.wfs] at hw
   simp only [Us.cmp] at hc
   obtain ⟨x, h1, h2, _, h3⟩ := z13g t u hw.1 hc h
   refine ⟨x, h1, by simpa only [wfUs] using h2, ?_⟩
   simp only [TV.cellsL, List.append_nil, z1o]; exact h3
 | t :: ts, .cons u us, k, r, hw, hc, h => by
   simp only [sealS] at h
   simp only [TV.wfs] at hw
   simp only [Us.cmp, Bool.and_eq_true] at hc
   obtain ⟨x, h1, h2, _, h3⟩ := z13g t u hw.1 hc.1 h
   obtain ⟨y, h4, h5, h6⟩ := z1fk ts us hw.2 hc.2 h1
   refine ⟨(x, y), h4, by simp only [wfUs]; exact ⟨h2, h5⟩, ?_⟩
   simp only [TV.cellsL, z1o]; rw [h6]; congr 1
 | [], us, _, _, _, _, h => by cases us <;> simp [sealS] at h
 | _ :: _ :: _, .one _, _, _, _, _, h => by simp [sealS] at h
end
theorem z8e {α : Type} {xs : Array α} {l : List α} (h : xs.toList = l) : xs = l.toArray := by rw [← h]
def zgu : Nat := 12
def cmpTy (P : Program) (t : TypeId) (u : U) : Bool :=
 u.cmp && u.isAgg && agree P zgu t u && eqTy P zgu t && !(P.eqGuardType P.depth t) && (match tyAgg P t with | some true => true | _ => false)
def eqAK {R : Type} (P : Program) (op : BinOp) (t : TypeId) (a b : TV) (k : TV → Option R) : Option R :=
 match zia P zgu t with
 | some u => bif cmpTy P t u then sealK a u fun x => sealK b u fun y =>
     (match op with
     | .eql => k (.v .bool (eqU u x y))
     | .neq => k (.v .bool (!(eqU u x y)))
     | _ => none) else none
 | none => none
theorem z1q6 {R : Type} {P : Program} {o : Oper} {σ : TS} {op : BinOp} {t yt : TypeId} {x y : Operand} {k : TV → Option R} {r : R} (ho : o.op = .binOp op t x y yt) (hw : σ.wf)
   (h : eqAK P op t (σ.eval x) (σ.eval y) k = some r) : ∃ q, k q = some r ∧ TQ P o σ q := by
 have hwx := z0u hw x
 have hwy := z0u hw y
 unfold eqAK at h
 split at h
 · rename_i u _
   cases hc : cmpTy P t u with
   | false => rw [hc] at h; cases h
   | true =>
     rw [hc] at h
     simp only [cmpTy, Bool.and_eq_true, Bool.not_eq_true'] at hc
     obtain ⟨⟨⟨⟨⟨c1, c2⟩, c3⟩, c4⟩, c5⟩, c6⟩ := hc
     have hag : tyAgg P t = some true := by
       split at c6
       · assumption
       · cases c6
     obtain ⟨a, h1, wa, pa, _⟩ := z13g _ u hwx c1 h
     obtain ⟨b, h2, wb, pb, _⟩ := z13g _ u hwy c1 h1
     have nd : ∀ {z : Operand} {w : u.T}, (σ.eval z).pv = pvU u w → σ.flat.eval z = .agg ((valsU u w).map PV.val) := by
       intro z w e
       rcases zha σ z with hz | hz
       · rw [hz, e, zw7 w c2, zt2 u w c1]
       · rw [hz, zw7 w c2] at e; simp [TV.pv] at e
     have ex := nd pa
     have ey := nd pb
     have s1 := z1fp zgu t u a c3 c1 wa
     have s2 := z1fp zgu t u b c3 c1 wb
     have hr : eqU u a b = true ↔ valsU u a = valsU u b := by
       rw [z18s c1]
       exact ⟨fun e => by rw [e], fun e => z14c u a b c1 wa wb e⟩
     split at h2
     · exact ⟨_, h2, by simp only [TV.wf, wfU], fun _ _ => z1re ho c5 (by decide) c4 hag ex ey s1 s2 hr⟩
     · exact ⟨_, h2, by simp only [TV.wf, wfU], fun _ _ => z1r5 ho c5 (by decide) c4 hag ex ey s1 s2 hr⟩
     · cases h2
 · cases h
def z1hv : TV → TV → Option Bool
 | .ptr _ _ _, .nilp => some false
 | .rf _, .nilp => some false
 | .nilp, .ptr _ _ _ => some false
 | .nilp, .rf _ => some false
 | .nilp, .nilp => some true
 | _, _ => none
theorem z1j1 {a b : TV} {r : Bool} (h : z1hv a b = some r) : (isPtr a.pv = true ∧ b.pv = .val (.pointer none) ∧ r = false) ∨ (a.pv = .val (.pointer none) ∧ isPtr b.pv = true ∧ r = false) ∨ (a.pv = .val (.pointer none) ∧ b.pv = .val (.pointer none) ∧ r = true) := by
 unfold z1hv at h
 split at h <;> first | (cases h; done) | skip
 all_goals simp only [Option.some.injEq] at h; subst h; simp [TV.pv, isPtr]
def eqPK {R : Type} (P : Program) (op : BinOp) (t : TypeId) (a b : TV) (k : TV → Option R) : Option R :=
 match z1hv a b with
 | some c => match P.underlying t, op with
   | some (.pointer _), .eql => k (.v .bool c)
   | some (.pointer _), .neq => k (.v .bool (!c))
   | _, _ => none
 | none => eqAK P op t a b k
theorem z1qa {R : Type} {P : Program} {o : Oper} {σ : TS} {op : BinOp} {t yt : TypeId} {x y : Operand} {k : TV → Option R} {r : R} (ho : o.op = .binOp op t x y yt) (hw : σ.wf)
   (h : eqPK P op t (σ.eval x) (σ.eval y) k = some r) : ∃ q, k q = some r ∧ TQ P o σ q := by
 unfold eqPK at h
 split at h
 · rename_i c hc
   have hs := z1j1 hc
   have nd : ∀ z : Operand, (isPtr (σ.eval z).pv = true ∨ (σ.eval z).pv = .val (.pointer none)) → σ.flat.eval z = (σ.eval z).pv := by
     intro z hz
     rcases zha σ z with e | e
     · exact e
     · rw [e] at hz; rcases hz with hz | hz <;> simp [TV.pv, isPtr] at hz
   have ex : σ.flat.eval x = (σ.eval x).pv := nd x (by rcases hs with h | h | h; exact .inl h.1; exact .inr h.1; exact .inr h.1)
   have ey : σ.flat.eval y = (σ.eval y).pv := nd y (by rcases hs with h | h | h; exact .inr h.2.1; exact .inl h.2.1; exact .inr h.2.1)
   split at h
   · rename_i e hu
     refine ⟨_, h, by simp only [TV.wf, wfU], fun Y hY => ?_⟩
     exact z1jl (P := P) (σ := { σ.flat with H := Y }) ho (.inl rfl) hu ex ey hs
   · rename_i e hu
     refine ⟨_, h, by simp only [TV.wf, wfU], fun Y hY => ?_⟩
     exact z1jl (P := P) (σ := { σ.flat with H := Y }) ho (.inr rfl) hu ex ey hs
   · cases h
 · exact z1q6 ho hw h
def binK {R : Type} (P : Program) (op : BinOp) (t : TypeId) (a b : TV) (k : TV → Option R) : Option R :=
 match a, b with
 | .v (.int k1) x, .v (.int k2) y => bif zgi k1 k2 then (match op with | .shl => shK .shl k1 x y k | .shr => shK .shr k1 x y k | op => binIK op k1 x y k) else shK op k1 x y k
 | .v .str x, .v .str y => binSK op x y k
 | .v .bool x, .v .bool y => match P.underlying t, op with
   | some .bool, .eql => k (.v .bool (x == y))
   | some .bool, .neq => k (.v .bool (!(x == y)))
   | _, _ => none
 | a, b => eqPK P op t a b k
theorem z1py {R : Type} {P : Program} {o : Oper} {σ : TS} {op : BinOp} {t yt : TypeId} {x y : Operand} {k : TV → Option R} {r : R} (ho : o.op = .binOp op t x y yt) (hw : σ.wf)
   (h : binK P op t (σ.eval x) (σ.eval y) k = some r) : ∃ q, k q = some r ∧ TQ P o σ q := by
 have agg := z1qa (P := P) (R := R) (k := k) (r := r) ho hw
 unfold binK at h
 generalize hx : σ.eval x = a at h agg
 generalize hy : σ.eval y = b at h agg
 split at h
 · rename_i k1 x' k2 y'
   cases hc : zgi k1 k2 with
   | false => rw [hc] at h; exact z1dw ho hx hy hw h
   | true =>
     rw [hc] at h
     simp only [cond_true] at h
     split at h
     · exact z1dw ho hx hy hw h
     · exact z1dw ho hx hy hw h
     · have e := zeq hc; subst e
       exact z1m0 ho hx hy hw h
 · exact z1o8 ho hx hy hw h
 · rename_i x' y'
   have ex : σ.flat.eval x = .val (.bool x') := z0i hx (by simp)
   have ey : σ.flat.eval y = .val (.bool y') := z0i hy (by simp)
   split at h
   · rename_i hu; exact ⟨_, h, by simp only [TV.wf, wfU], fun _ _ => z1qk ho hu ex ey⟩
   · rename_i hu; exact ⟨_, h, by simp only [TV.wf, wfU], fun _ _ => z1oz ho hu ex ey⟩
   · cases h
 · exact agg h
def unK {R : Type} (op : UnOp) (a : TV) (k : TV → Option R) : Option R :=
 match op, a with
 | .not, .v .bool b => k (.v .bool (!b))
 | .neg, .v (.int kd) n => k (.v (.int kd) (kd.wrap (0 - n)))
 | _, _ => none
theorem z1qr {R : Type} {P : Program} {o : Oper} {σ : TS} {op : UnOp} {t : TypeId} {x : Operand} {k : TV → Option R} {r : R} (ho : o.op = .unOp op t x) (h : unK op (σ.eval x) k = some r) :
   ∃ q, k q = some r ∧ TQ P o σ q := by
 unfold unK at h
 generalize hx : σ.eval x = a at h
 split at h
 · exact ⟨_, h, by simp only [TV.wf, wfU], fun _ _ => q_not ho (z0i hx (by simp))⟩
 · exact ⟨_, h, by simp only [TV.wf, wfU]; exact zqg _ _, fun _ _ => q_neg ho (z0i hx (by simp))⟩
 · cases h
def convK {R : Type} (P : Program) (s t : TypeId) (a : TV) (k : TV → Option R) : Option R :=
 match P.underlying s, P.underlying t, a with
 | some _, some (.int k'), .v (.int _) n => k (.v (.int k') (k'.wrap n))
 | some .string, some .string, .v .str x => k (.v .str x)
 | _, _, _ => none
theorem z1fi {R : Type} {P : Program} {o : Oper} {σ : TS} {s t : TypeId} {x : Operand} {k : TV → Option R} {r : R} (ho : o.op = .convert s t x) (hw : σ.wf) (h : convK P s t (σ.eval x) k = some r) :
   ∃ q, k q = some r ∧ TQ P o σ q := by
 have hwx := z0u hw x
 unfold convK at h
 generalize hx : σ.eval x = a at h hwx
 split at h
 · rename_i hs ht; exact ⟨_, h, by simp only [TV.wf, wfU]; exact zqg _ _, fun _ _ => z1sr ho hs ht (z0i hx (by simp))⟩
 · rename_i hs ht; exact ⟨_, h, hwx, fun _ _ => z1ma ho hs ht (z0i hx (by simp))⟩
 · cases h
def z0f {R : Type} (n : Nat) (k : Option R) : Option R := bif Nat.ble n 9223372036854775807 then k else none
def maxI (a b : Int) : Int := if b > a then b else a
def minI (a b : Int) : Int := if b < a then b else a
def biK {R : Type} (P : Program) (b : Builtin) (xs : List TV) (ts : List TypeId) (k : TV → Option R) : Option R :=
 match b, xs, ts with
 | .len, [a], [t] => match P.underlying t, a with
   | some (.slice _), .v (.sl _) l => z0f (List.length l) (k (.v (.int .i64) (List.length l)))
   | some (.slice _), .fsl _ l => z0f (List.length l) (k (.v (.int .i64) (List.length l)))
   | some (.slice _), .nil => k (.v (.int .i64) 0)
   | some (.slice _), .os _ _ _ _ _ n => z0f n (k (.v (.int .i64) (n : Int)))
   | some (.slice _), .osf _ _ _ n => z0f n (k (.v (.int .i64) (n : Int)))
   | some .string, .v .str s => z0f (List.length s) (k (.v (.int .i64) (List.length s)))
   | _, _ => none
 | .max, [.v (.int k1) x, .v (.int k2) y], _ => bif zgi k1 k2 then k (.v (.int k1) (maxI x y)) else none
 | .min, [.v (.int k1) x, .v (.int k2) y], _ => bif zgi k1 k2 then k (.v (.int k1) (minI x y)) else none
 | _, _, _ => none
theorem zq4 {R : Type} {n : Nat} {k : Option R} {r : R} (h : z0f n k = some r) : k = some r ∧ n ≤ 9223372036854775807 := by
 unfold z0f at h
 cases hc : Nat.ble n 9223372036854775807 with
 | false => rw [hc] at h; cases h
 | true => rw [hc] at h; exact ⟨h, Nat.le_of_ble_eq_true hc⟩
theorem z12p {n : Nat} (h : n ≤ 9223372036854775807) : (TV.v (.int .i64) (n : Int)).wf := by
 simp only [TV.wf, wfU]
 exact ⟨by show (-9223372036854775808 : Int) ≤ n; omega, by show (n : Int) ≤ 9223372036854775807; omega⟩
theorem z1rm {R : Type} {P : Program} {o : Oper} {σ : TS} {b : Builtin} {xs : Array Operand} {ts : Array TypeId} {k : TV → Option R} {r : R} (ho : o.op = .call { callee := .builtin b, args := xs, argTypes := ts }) (hw : σ.wf)
   (h : biK P b (xs.toList.map σ.eval) ts.toList k = some r) : ∃ q, k q = some r ∧ TQ P o σ q := by
 unfold biK at h
 generalize hm : xs.toList.map σ.eval = m at h
 generalize hts : ts.toList = l at h
 have one : ∀ {a}, m = [a] → ∃ x, xs = #[x] ∧ σ.eval x = a := fun {a} e => by
   rw [e] at hm
   obtain ⟨x, l', h1, h2, h3⟩ := List.map_eq_cons_iff.1 hm
   have := List.map_eq_nil_iff.1 h3
   subst this
   exact ⟨x, z8e h1, h2⟩
 have two : ∀ {a b}, m = [a, b] → ∃ x y, xs = #[x, y] ∧ σ.eval x = a ∧ σ.eval y = b := fun {a b} e => by
   rw [e] at hm
   obtain ⟨x, l', h1, h2, h3⟩ := List.map_eq_cons_iff.1 hm
   obtain ⟨y, l'', g1, g2, g3⟩ := List.map_eq_cons_iff.1 h3
   have := List.map_eq_nil_iff.1 g3
   subst this; subst g1
   exact ⟨x, y, z8e h1, h2, g2⟩
 split at h
 · rename_i a t
   obtain ⟨x, rfl, hx⟩ := one rfl
   have e := z8e hts
   subst e
   have hwx := z0u hw x
   rw [hx] at hwx
   split at h
   · rename_i u l' hu
     obtain ⟨h, hs⟩ := zq4 h
     exact ⟨_, h, z12p hs, fun _ _ => z12z ho hu (z0i hx (by simp))⟩
   · rename_i u l' hu
     obtain ⟨h, hs⟩ := zq4 h
     exact ⟨_, h, z12p hs, fun _ _ => z12z ho hu (z0i hx (by simp))⟩
   · rename_i hu
     exact ⟨_, h, z12p (n := 0) (by omega), fun _ _ => z12z ho hu (z0i hx (by simp))⟩
   · rename_i hu
     obtain ⟨h, hs⟩ := zq4 h
     exact ⟨_, h, z12p hs, fun _ _ => z1pk ho hu (z0i hx (by simp))⟩
   · rename_i hu
     obtain ⟨h, hs⟩ := zq4 h
     exact ⟨_, h, z12p hs, fun _ _ => z12z ho hu (z0i hx (by simp))⟩
   · rename_i s hu
     obtain ⟨h, hs⟩ := zq4 h
     refine ⟨_, h, z12p hs, ?_⟩
     intro Y hY
     have := z1nr (P := P) (σ := { σ.flat with H := Y }) ho hu (z0i hx (by simp))
     rw [zp9] at this; exact this
   · cases h
 · rename_i k1 x' k2 y'
   obtain ⟨x, y, rfl, hx, hy⟩ := two rfl
   cases hc : zgi k1 k2 with
   | false => rw [hc] at h; cases h
   | true =>
     rw [hc] at h
     have e := zeq hc; subst e
     have hwx := z0u hw x; rw [hx] at hwx; simp only [TV.wf, wfU] at hwx
     have hwy := z0u hw y; rw [hy] at hwy; simp only [TV.wf, wfU] at hwy
     exact ⟨_, h, by simp only [TV.wf, wfU, maxI]; split <;> assumption, fun _ _ => q_max ho (z0i hx (by simp)) (z0i hy (by simp))⟩
 · rename_i k1 x' k2 y'
   obtain ⟨x, y, rfl, hx, hy⟩ := two rfl
   cases hc : zgi k1 k2 with
   | false => rw [hc] at h; cases h
   | true =>
     rw [hc] at h
     have e := zeq hc; subst e
     have hwx := z0u hw x; rw [hx] at hwx; simp only [TV.wf, wfU] at hwx
     have hwy := z0u hw y; rw [hy] at hwy; simp only [TV.wf, wfU] at hwy
     exact ⟨_, h, by simp only [TV.wf, wfU, minI]; split <;> assumption, fun _ _ => q_min ho (z0i hx (by simp)) (z0i hy (by simp))⟩
 · cases h
def z1al {R : Type} (i : Nat) (a : TV) (k : TV → Option R) : Option R :=
 match a with
 | .tup ts => match ts[i]? with
   | some t => k t
   | none => none
 | _ => none
theorem z1ij {R : Type} {P : Program} {o : Oper} {σ : TS} {x : Operand} {i : Nat} {k : TV → Option R} {r : R} (ho : o.op = .extract x i) (hw : σ.wf) (h : z1al i (σ.eval x) k = some r) :
   ∃ q, k q = some r ∧ TQ P o σ q := by
 have hwx := z0u hw x
 unfold z1al at h
 generalize hx : σ.eval x = a at h hwx
 split at h
 · rename_i ts
   split at h
   · rename_i t ht
     simp only [TV.wf] at hwx
     have ex : σ.flat.eval x = .tup (TV.pvs ts) := by rw [z0i hx (by simp)]; simp only [TV.pv]
     exact ⟨_, h, z3u.1 hwx t (List.mem_of_getElem? ht), fun _ _ => z1mu ho ex (by rw [z4n, List.getElem?_map, ht]; rfl)⟩
   · cases h
 · cases h
end Go.Tm
set_option linter.unusedSimpArgs false
set_option linter.unusedVariables false
namespace Go.Tm
open Go.Ab
mutual
def zeroU : (u : U) → u.T
 | .int _ => (0 : Int)
 | .bool => false
 | .str => ([] : List Int)
 | .arr n u => List.replicate n (zeroU u)
 | .sl _ => []
 | .st us => z16u us
 | .leaf => ()
def z16u : (us : Us) → us.T
 | .one u => zeroU u
 | .cons u us => (zeroU u, z16u us)
end
mutual
def U.solid : U → Bool
 | .arr _ u => u.solid
 | .sl u => u.solid
 | .st us => us.solid
 | .leaf => false
 | _ => true
def Us.solid : Us → Bool
 | .one u => u.solid
 | .cons u us => u.solid && us.solid
end
mutual
theorem zra : ∀ u : U, u.solid = true → wfU u (zeroU u)
 | .int k, _ => by simp only [wfU, zeroU]; cases k <;> decide
 | .bool, _ => by simp only [wfU]
 | .str, _ => by simp only [wfU, zeroU]; intro n hn; cases hn
 | .arr n u, h => by
   simp only [U.solid] at h
   simp only [wfU, zeroU]
   exact ⟨List.length_replicate, fun x hx => by rw [List.eq_of_mem_replicate hx]; exact zra u h⟩
 | .sl u, _ => by simp only [wfU, zeroU]; intro n hn; cases hn
 | .st us, h => by
   simp only [U.solid] at h
   simp only [wfU, zeroU]
   exact z1ho us h
 | .leaf, h => by simp [U.solid] at h
theorem z1ho : ∀ us : Us, us.solid = true → wfUs us (z16u us)
 | .one u, h => by
   simp only [Us.solid] at h
   simp only [wfUs, z16u]
   exact zra u h
 | .cons u us, h => by
   simp only [Us.solid, Bool.and_eq_true] at h
   simp only [wfUs, z16u]
   exact ⟨zra u h.1, z1ho us h.2⟩
end
def z18e (f : TypeId → Option TV) : List Field → Option (List TV)
 | [] => some []
 | x :: xs => match f x.type, z18e f xs with
   | some t, some ts => some (t :: ts)
   | _, _ => none
def z16q (P : Program) : Nat → TypeId → Option TV
 | 0, _ => none
 | n + 1, t =>
   match P.underlying t with
   | some .bool => some (.v .bool false)
   | some (.int k) => some (.v (.int k) 0)
   | some .string => some (.v .str [])
   | some (.slice _) => some .nil
   | some (.pointer _) => some .nilp
   | some (.func ..) => some .nilf
   | some (.interface _) => some .nili
   | some (.map ..) => some .nilm
   | some (.array m e) => match zia P n e with
     | some u => bif u.solid then some (.v (.arr m u) (List.replicate m (zeroU u))) else none
     | none => none
   | some (.struct fs) => match z18e (z16q P n) fs.toList with
     | some (t :: ts) => some (.agg (t :: ts))
     | _ => none
   | _ => none
theorem zwr : ∀ {ts : List TV}, (∀ t, t ∈ ts → t.wf ∧ t.stores = true) → Leafs (TV.cellsL ts)
 | [], _ => fun p hp => by simp [TV.cellsL] at hp
 | t :: ts, h => fun p hp => by
   rw [z2q] at hp
   rcases List.mem_append.1 hp with hp | hp
   · exact z4z (h t (by simp)).1 (h t (by simp)).2 p hp
   · exact zwr (fun s hs => h s (by simp [hs])) p hp
theorem z1bw {f : TypeId → Option TV} : ∀ {fs : List Field} {ts : List TV}, z18e f fs = some ts → ∀ t, t ∈ ts → ∃ x, f x = some t
 | [], ts, h, t, ht => by simp only [z18e, Option.some.injEq] at h; subst h; cases ht
 | x :: xs, ts, h, t, ht => by
   simp only [z18e] at h
   split at h
   · rename_i t' ts' h1 h2
     cases h
     rcases List.mem_cons.1 ht with rfl | ht
     · exact ⟨_, h1⟩
     · exact z1bw h2 t ht
   · cases h
theorem z1n5 {ts : List TV} (h0 : ts ≠ []) (h : ∀ t, t ∈ ts → t.wf ∧ t.stores = true) : (TV.agg ts).wf := by
 simp only [TV.wf]
 exact ⟨h0, z3u.2 fun t ht => (h t ht).1, zwr h⟩
theorem z1eq {P : Program} : ∀ (n : Nat) (t : TypeId) {z : TV}, z16q P n t = some z → z.wf ∧ z.stores = true
 | 0, _, _, h => by simp [z16q] at h
 | n + 1, t, z, h => by
   simp only [z16q] at h
   split at h
   · cases h; exact ⟨by simp only [TV.wf, wfU], rfl⟩
   · rename_i k _; cases h; exact ⟨by simp only [TV.wf, wfU]; cases k <;> decide, rfl⟩
   · cases h; exact ⟨by (simp only [TV.wf, wfU]; intro n hn; cases hn), rfl⟩
   · cases h; exact ⟨by simp only [TV.wf], rfl⟩
   · cases h; exact ⟨by simp only [TV.wf], rfl⟩
   · cases h; exact ⟨by simp only [TV.wf], rfl⟩
   · cases h; exact ⟨by simp only [TV.wf], rfl⟩
   · cases h; exact ⟨by simp only [TV.wf], rfl⟩
   · split at h
     · rename_i u _
       cases hs : u.solid with
       | false => rw [hs] at h; cases h
       | true =>
         rw [hs] at h; cases h
         refine ⟨?_, rfl⟩
         simp only [TV.wf, wfU]
         exact ⟨List.length_replicate, fun x hx => by rw [List.eq_of_mem_replicate hx]; exact zra u hs⟩
     · cases h
   · split at h
     · rename_i t' ts hf
       cases h
       refine ⟨z1n5 (by simp) fun t ht => ?_, rfl⟩
       obtain ⟨x, hx⟩ := z1bw hf t ht
       exact z1eq n x hx
     · cases h
   · cases h
def pvLe : PV → PV → Bool
 | .val (.bool a), .val (.bool b) => a == b
 | .val (.int k a), .val (.int k' b) => zgi k k' && decide (a = b)
 | .val (.string s), .val (.string s') => Nat.beq s.size 0 && Nat.beq s'.size 0
 | .val (.pointer none), .val (.pointer none) => true
 | .val .nilFunc, .val .nilFunc => true
 | .val .nilIface, .val .nilIface => true
 | .val (.map none), .val (.map none) => true
 | .tr 0 [] .full, .tr 0 [] .full => true
 | .tr 0 [] .full, .tr 0 [] .no => true
 | _, _ => false
theorem z1og {p q : PV} (h : pvLe p q = true) : PLe p q := by
 unfold pvLe at h
 split at h
 · rw [eq_of_beq h]; exact PLe.refl _
 · simp only [Bool.and_eq_true, decide_eq_true_eq] at h
   rw [zeq h.1, h.2]; exact PLe.refl _
 · simp only [Bool.and_eq_true] at h
   rename_i s s'
   have h1 := Nat.eq_of_beq_eq_true h.1
   have h2 := Nat.eq_of_beq_eq_true h.2
   have e : s = s' := ByteArray.ext (by
     have a1 : s.data = #[] := Array.eq_empty_of_size_eq_zero h1
     have a2 : s'.data = #[] := Array.eq_empty_of_size_eq_zero h2
     rw [a1, a2])
   rw [e]; exact PLe.refl _
 · exact PLe.refl _
 · exact PLe.refl _
 · exact PLe.refl _
 · exact PLe.refl _
 · exact PLe.refl _
 · exact z16y _
 · cases h
def pvLeL : List PV → List PV → Bool
 | [], [] => true
 | p :: ps, q :: qs => pvLe p q && pvLeL ps qs
 | _, _ => false
theorem CLe.cons {p q : PV} {ps qs : List PV} (h : PLe p q) (g : CLe ps qs) : CLe (p :: ps) (q :: qs) := (z12u h).append g
theorem zpq : ∀ {ps qs : List PV}, pvLeL ps qs = true → CLe ps qs
 | [], [], _ => CLe.refl _
 | [], _ :: _, h => by simp [pvLeL] at h
 | _ :: _, [], h => by simp [pvLeL] at h
 | p :: ps, q :: qs, h => by
   simp only [pvLeL, Bool.and_eq_true] at h
   exact CLe.cons (z1og h.1) (zpq h.2)
def zeroK (P : Program) (t : TypeId) : Option TV :=
 match z9t P t, z16q P zgu t with
 | some z, some tv => bif pvLeL z tv.cells && z.all leaf then some tv else none
 | _, _ => none
theorem z13c {P : Program} {t : TypeId} {tv : TV} (h : zeroK P t = some tv) : tv.wf ∧ tv.stores = true ∧ ∃ z, z9t P t = some z ∧ Leafs z ∧ CLe z tv.cells := by
 unfold zeroK at h
 split at h
 · rename_i z tv' h1 h2
   cases hc : pvLeL z tv'.cells && z.all leaf with
   | false => rw [hc] at h; cases h
   | true =>
     rw [hc] at h; cases h
     simp only [Bool.and_eq_true] at hc
     obtain ⟨h3, h4⟩ := z1eq _ _ h2
     exact ⟨h3, h4, z, h1, fun p hp => List.all_eq_true.1 hc.2 p hp, zpq hc.1⟩
 · cases h
def z11v {R : Type} (P : Program) (t : TypeId) : List TV → List (Nat × TV) → (List TV → Option R) → Option R
 | zs, [], k => k zs
 | zs, (i, p) :: ps, k =>
   match zs[i]?, zlt P t i with
   | some z, some (off, n) => bif p.stores && p.lay.beq z.lay && Nat.beq off ((TV.layS zs).off i) && Nat.beq n z.lay.size then z11v P t (zs.set i p) ps k else none
   | _, _ => none
def arrK {R : Type} (P : Program) (t : TypeId) (m : Nat) (u : U) : List u.T → List (Nat × TV) → (List u.T → Option R) → Option R
 | l, [], k => k l
 | l, (i, p) :: ps, k =>
   match zlt P t i with
   | some (off, n) => bif p.stores && Nat.blt i m && Nat.beq off (i * u.size) && Nat.beq n u.size then sealK p u fun x => arrK P t m u (l.set i x) ps k else none
   | _ => none
theorem CLe.splice2 {a b p q : List PV} {o : Nat} (hb : CLe a b) (h : CLe p q) (ho : o + p.length ≤ a.length) : CLe (Ab.splice a o p) (Ab.splice b o q) := by
 have ho2 : o + q.length ≤ b.length := by rw [← h.1, ← hb.1]; exact ho
 refine ⟨by rw [z9w _ _ _ ho, z9w _ _ _ ho2, hb.1], fun i x y hx hy => ?_⟩
 rw [zpn _ _ _ _ ho] at hx
 rw [zpn _ _ _ _ ho2, ← h.1] at hy
 split at hx
 · rename_i hi; rw [if_pos hi] at hy; exact h.2 _ x y hx hy
 · rename_i hi; rw [if_neg hi] at hy; exact hb.2 _ x y hx hy
theorem z19y {R : Type} {P : Program} {t : TypeId} : ∀ {ps : List (Nat × TV)} {zs : List TV} {k : List TV → Option R} {r : R} {z : List PV}, TV.wfs zs → (∀ s, s ∈ zs → s.stores = true) → zs ≠ [] → (∀ p, p ∈ ps → p.2.wf) →
   CLe z (TV.cellsL zs) → z11v P t zs ps k = some r →
   ∃ zs' r', k zs' = some r ∧ (∀ s, s ∈ zs' → s.wf ∧ s.stores = true) ∧ zs' ≠ [] ∧ Fill (zlt P t) z (ps.map fun x => (x.1, x.2.pv)) r' ∧ CLe r' (TV.cellsL zs')
 | [], zs, k, r, z, hw, hs, hn, hp, hz, h => ⟨zs, z, by simpa only [z11v] using h, fun s hm => ⟨z3u.1 hw s hm, hs s hm⟩, hn, rfl, hz⟩
 | (i, p) :: ps, zs, k, r, z, hw, hs, hn, hp, hz, h => by
   simp only [z11v] at h
   split at h
   · rename_i zz off n hzi hpl
     cases hc : p.stores && p.lay.beq zz.lay && Nat.beq off ((TV.layS zs).off i) && Nat.beq n zz.lay.size with
     | false => rw [hc] at h; cases h
     | true =>
       rw [hc] at h
       simp only [Bool.and_eq_true] at hc
       obtain ⟨⟨⟨c1, c2⟩, c3⟩, c4⟩ := hc
       have e2 := U.beq_eq c2
       have e3 := Nat.eq_of_beq_eq_true c3
       have e4 := Nat.eq_of_beq_eq_true c4
       have hpw := hp (i, p) (by simp)
       obtain ⟨g1, g2, g3⟩ := z1dz hw hzi hpw e2
       obtain ⟨a1, a2, a3⟩ := zxj hw hzi
       have hlz := z7b zz (z3u.1 hw zz (List.mem_of_getElem? hzi))
       have hlp := z7b p hpw
       have hb : off + p.cells.length ≤ z.length := by rw [e3, hlp, e2, ← hlz, hz.1]; exact a3
       have hz' : CLe (splice z off p.cells) (TV.cellsL (zs.set i p)) := by
         rw [g1, ← e3]; exact CLe.splice2 hz (CLe.refl _) hb
       obtain ⟨zs', r', f1, f2, f3, f4, f5⟩ := z19y (ps := ps) g3 (fun s hm => by
           rcases List.mem_or_eq_of_mem_set hm with hm | hm
           · exact hs s hm
           · rw [hm]; exact c1) (by simp; exact hn) (fun q hq => hp q (by simp [hq])) hz' h
       refine ⟨zs', r', f1, f2, f3, ⟨off, n, hpl, zwb hpw c1, ?_, ?_, f4⟩, f5⟩
       · rw [e4, ← e2, ← hlp]; rfl
       · have : n = p.cells.length := by rw [hlp, e4, e2]
         rw [this]; exact hb
   · cases h
theorem z1hm {R : Type} {P : Program} {t : TypeId} {m : Nat} {u : U} : ∀ {ps : List (Nat × TV)} {l : List u.T} {k : List u.T → Option R} {r : R} {z : List PV}, l.length = m → (∀ x, x ∈ l → wfU u x) → (∀ p, p ∈ ps → p.2.wf) →
   CLe z (rowU u l) → arrK P t m u l ps k = some r →
   ∃ l' r', k l' = some r ∧ l'.length = m ∧ (∀ x, x ∈ l' → wfU u x) ∧ Fill (zlt P t) z (ps.map fun x => (x.1, x.2.pv)) r' ∧ CLe r' (rowU u l')
 | [], l, k, r, z, hm, hw, hp, hz, h => ⟨l, z, by simpa only [arrK] using h, hm, hw, rfl, hz⟩
 | (i, p) :: ps, l, k, r, z, hm, hw, hp, hz, h => by
   simp only [arrK] at h
   split at h
   · rename_i off n hpl
     cases hc : p.stores && Nat.blt i m && Nat.beq off (i * u.size) && Nat.beq n u.size with
     | false => rw [hc] at h; cases h
     | true =>
       rw [hc] at h
       simp only [Bool.and_eq_true] at hc
       obtain ⟨⟨⟨c1, c2⟩, c3⟩, c4⟩ := hc
       have e2 : i < m := Nat.blt_eq.mp c2
       have e3 := Nat.eq_of_beq_eq_true c3
       have e4 := Nat.eq_of_beq_eq_true c4
       have hpw := hp (i, p) (by simp)
       obtain ⟨x, h1, h2, h3⟩ := znl hpw h
       have hlx := z1d u x h2
       have hil : i < l.length := by rw [hm]; exact e2
       have hrow := (zhd hw (List.getElem?_eq_getElem hil)).2
       have hb : off + p.cells.length ≤ z.length := by rw [e3, h3.1, hlx, hz.1]; exact hrow
       have hset := z18q hw h2 hil
       have hz' : CLe (splice z off p.cells) (rowU u (l.set i x)) := by
         rw [hset, ← e3]; exact CLe.splice2 hz h3 hb
       obtain ⟨l', r', f1, f2, f3, f4, f5⟩ := z1hm (ps := ps) (l := l.set i x) (by simp [hm]) (fun y hy => by
           rcases List.mem_or_eq_of_mem_set hy with hy | hy
           · exact hw y hy
           · rw [hy]; exact h2) (fun q hq => hp q (by simp [hq])) hz' h1
       have hn : n = p.cells.length := by rw [h3.1, hlx, e4]
       exact ⟨l', r', f1, f2, f3, ⟨off, n, hpl, zwb hpw c1, hn.symm, by rw [hn]; exact hb, f4⟩, f5⟩
   · cases h
def z1i4 {R : Type} (P : Program) (t : TypeId) (ps : List (Nat × TV)) (k : TV → Option R) : Option R :=
 match zeroK P t with
 | some (.agg zs) => bif z11h P t && ps.all (fun x => x.2.stores) then z11v P t zs ps fun zs' => k (.agg zs') else none
 | some (.v (.arr m u) l) => bif z11h P t && ps.all (fun x => x.2.stores) then arrK P t m u l ps fun l' => k (.v (.arr m u) l') else none
 | _ => none
theorem zxe {σ : TS} : ∀ {parts : List (Nat × Operand)}, (parts.map fun x => (x.1, σ.eval x.2)).all (fun x => x.2.stores) = true →
   parts.map (fun x => (x.1, σ.flat.eval x.2)) = (parts.map fun x => (x.1, σ.eval x.2)).map fun x => (x.1, x.2.pv)
 | [], _ => rfl
 | x :: l, h => by
   simp only [List.map_cons, List.all_cons, Bool.and_eq_true] at h
   simp only [List.map_cons, zxe h.2]
   congr 2
   rcases zha σ x.2 with e | e
   · exact e
   · rw [e] at h; simp [TV.stores] at h
theorem z1kz {R : Type} {P : Program} {o : Oper} {σ : TS} {t : TypeId} {parts : Array (Nat × Operand)} {k : TV → Option R} {r : R} (ho : o.op = .build t parts) (hw : σ.wf)
   (h : z1i4 P t (parts.toList.map fun x => (x.1, σ.eval x.2)) k = some r) : ∃ q, k q = some r ∧ TQ P o σ q := by
 have hpw : ∀ p, p ∈ (parts.toList.map fun x => (x.1, σ.eval x.2)) → p.2.wf := fun p hp => by
   simp only [List.mem_map] at hp
   obtain ⟨x, _, rfl⟩ := hp
   exact z0u hw x.2
 unfold z1i4 at h
 split at h
 · rename_i zs hz
   obtain ⟨z1, z2, z, z3, z4, z5⟩ := z13c hz
   cases hc : z11h P t && (parts.toList.map fun x => (x.1, σ.eval x.2)).all (fun x => x.2.stores) with
   | false => rw [hc] at h; cases h
   | true =>
     rw [hc] at h
     simp only [Bool.and_eq_true] at hc
     simp only [TV.wf] at z1
     have hst : ∀ s, s ∈ zs → s.stores = true := by
       intro s hs
       cases hss : s.stores with
       | true => rfl
       | false =>
         exfalso
         obtain ⟨i, hi⟩ := List.mem_iff_getElem?.1 hs
         obtain ⟨_, h2, h3⟩ := zxj z1.2.1 hi
         have hleaf : ∀ q, q ∈ s.cells → leaf q = true := fun q hq => z1.2.2 q (List.mem_of_mem_drop (List.mem_of_mem_take (h2 ▸ hq)))
         cases s <;> first | (cases hss; done) | skip
         all_goals
           have := hleaf _ (by simp only [TV.cells, TV.pv, cellsOf]; exact List.mem_singleton.2 rfl)
           simp [leaf] at this
     rw [zde] at z5
     obtain ⟨zs', r', f1, f2, f3, f4, f5⟩ := z19y z1.2.1 hst z1.1 hpw z5 h
     have hwf := z1n5 f3 f2
     refine ⟨_, f1, hwf, ?_⟩
     intro Y hY
     have := z1k5 (σ := { σ.flat with H := Y }) ho z3 z4 hc.1 (zxe hc.2) f4
     exact qle this (by simp only [TV.pv]; exact z18p f5 (zwr f2))
 · rename_i m u l hz
   obtain ⟨z1, z2, z, z3, z4, z5⟩ := z13c hz
   cases hc : z11h P t && (parts.toList.map fun x => (x.1, σ.eval x.2)).all (fun x => x.2.stores) with
   | false => rw [hc] at h; cases h
   | true =>
     rw [hc] at h
     simp only [Bool.and_eq_true] at hc
     simp only [TV.wf, wfU] at z1
     rw [zh8] at z5
     obtain ⟨l', r', f1, f2, f3, f4, f5⟩ := z1hm z1.1 z1.2 hpw z5 h
     refine ⟨_, f1, by simp only [TV.wf, wfU]; exact ⟨f2, f3⟩, ?_⟩
     intro Y hY
     have := z1k5 (σ := { σ.flat with H := Y }) ho z3 z4 hc.1 (zxe hc.2) f4
     exact qle this (by simp only [TV.pv, pvU, cellU]; exact z18p f5 (z3z f3))
 · cases h
def zrb {R : Type} (u : U) : List TV → (List u.T → Option R) → Option R
 | [], k => k []
 | t :: ts, k => sealK t u fun x => zrb u ts fun l => k (x :: l)
def zy5 : List (Nat × TV) → Nat → Bool
 | [], _ => true
 | (i, _) :: r, n => Nat.beq i n && zy5 r (n + 1)
theorem z1s9 {P : Program} {o : Oper} {σ : AS} {t e : TypeId} {n : Nat} {parts : Array (Nat × Operand)} (ho : o.op = .buildSlice t 0 parts) (hp : parts.toList.length = 0) (ht : P.underlying t = some (.slice e)) (hs : tySz P e = some n) : QStep P o σ (.tr 0 [] .full) := by
 intro c a w K Q hr hK
 have hp' : parts = #[] := by
   have : parts.toList = [] := List.eq_nil_of_length_eq_zero hp
   exact Array.toList_eq_nil_iff.1 this
 subst hp'
 obtain ⟨g, x⟩ := z16o hr.1 (.cells #[] e (0, 0))
 refine z9z (v := .slice (some ⟨w.heap.size, 0, none⟩) 0 0) (w' := grow w (.cells #[] e (0, 0))) ?_ (hK _ _ ?_ g x)
 · have : (Instr.buildSlice t 0 #[]).run P w = .ok (.slice (some ⟨w.heap.size, 0, none⟩) 0 0) (grow w (.cells #[] e (0, 0))) := by
     unfold Instr.buildSlice
     simp only [Sem.run_bind, Ab.run_underlying ht, Result.andThen_ok, Ab.run_sizeOf hs]
     rw [if_neg (by omega)]
     have e3 : (Array.range 0).map (fun x => (#[] : Array Value)[x % (#[] : Array Value).size]!) = #[] := by simp
     simp only [Nat.zero_mul, if_true, Sem.run_pure, Sem.run_bind, Result.andThen_ok]
     rw [e3]
     simp only [Instr.fill, Sem.run_bind, newRow, run_newObj, Result.andThen_ok, Sem.run_pure]
     rfl
   have e2 : (#[] : Array (Nat × Operand)).map (fun x => (x.1, a.eval x.2)) = #[] := by simp
   simp only [execOp, ho, Sem.run_bind]
   rw [show (Array.map (fun (x : Nat × Operand) => (x.1, a.eval x.2)) #[]) = #[] from e2, this]
   rfl
 · simp only [VR]
   exact .inr ⟨_, 0, rfl, Nat.le_refl _, .inl rfl, rfl, (fun p hp => by cases hp), by simp only [VRs]⟩
def lit0K {R : Type} (P : Program) (e : TypeId) (k : TV → Option R) : Option R :=
 match zia P zgu e, tySz P e with
 | some u, some n => bif Nat.beq n u.size then k (.fsl u []) else none
 | _, _ => none
def zzv {R : Type} (P : Program) (t : TypeId) (len : Nat) (ps : List (Nat × TV)) (k : TV → Option R) : Option R :=
 match P.underlying t with
 | some (.slice e) => bif Nat.beq len 0 && Nat.beq ps.length 0 then lit0K P e k else
   match zia P zgu e, tySz P e, z9t P e with
   | some u, some n, some z => bif Nat.beq n u.size && !Nat.beq n 0 && !Nat.beq len 0 && Nat.beq z.length n && z.all leaf && Nat.ble (len * n) 16777216 && Nat.beq ps.length len && zy5 ps 0 && ps.all (fun x => x.2.stores)
     then zrb u (ps.map (·.2)) fun l => k (.fsl u l) else none
   | _, _, _ => none
 | _ => none
theorem zxk {R : Type} {u : U} : ∀ {ts : List TV} {k : List u.T → Option R} {r : R}, (∀ t, t ∈ ts → t.wf) → zrb u ts k = some r →
   ∃ l, k l = some r ∧ l.length = ts.length ∧ (∀ x, x ∈ l → wfU u x) ∧ CLe (ts.flatMap TV.cells) (rowU u l) ∧ ∀ t, t ∈ ts → t.cells.length = u.size
 | [], k, r, _, h => ⟨[], by simpa only [zrb] using h, rfl, fun x hx => (by cases hx), CLe.refl _, fun t ht => (by cases ht)⟩
 | t :: ts, k, r, hw, h => by
   simp only [zrb] at h
   obtain ⟨x, h1, h2, h3⟩ := znl (hw t (by simp)) h
   obtain ⟨l, g1, g2, g3, g4, g5⟩ := zxk (fun s hs => hw s (by simp [hs])) h1
   refine ⟨x :: l, g1, by simp [g2], fun y hy => ?_, ?_, fun s hs => ?_⟩
   · rcases List.mem_cons.1 hy with rfl | hy
     · exact h2
     · exact g3 y hy
   · simp only [List.flatMap_cons, rowU]
     exact h3.append g4
   · rcases List.mem_cons.1 hs with rfl | hs
     · rw [h3.1, z1d u x h2]
     · exact g5 s hs
theorem z10c : ∀ {ps : List (Nat × TV)} {n : Nat}, zy5 ps n = true → ps.map (fun x => (x.1, x.2.pv)) = ((ps.map fun x => x.2.pv).zipIdx n).map fun x => (x.2, x.1)
 | [], _, _ => rfl
 | (i, p) :: r, n, h => by
   simp only [zy5, Bool.and_eq_true] at h
   have e := Nat.eq_of_beq_eq_true h.1
   simp only [List.map_cons, List.zipIdx_cons, e, z10c h.2]
theorem z1ry {len : Nat} {cs ds : List PV} {t : Tail} (h : CLe cs ds) (hl : Leafs ds) : PLe (.tr len cs t) (.tr len ds t) := by
 intro w c v hg hv
 simp only [VR] at hv ⊢
 rcases hv with ⟨h3, h4, h5, h6⟩ | ⟨ad, cap, h3, h4, h5, h6, h7, h8⟩
 · refine .inl ⟨h3, h4, ?_, h6⟩
   subst h5
   exact List.eq_nil_of_length_eq_zero (by rw [← h.1]; rfl)
 · refine .inr ⟨ad, cap, h3, h4, by rw [← h.1]; exact h5, ?_, hl, zbd hg h h8⟩
   rw [← h.1]; exact h6
theorem z1dk {R : Type} {P : Program} {o : Oper} {σ : TS} {t : TypeId} {len : Nat} {parts : Array (Nat × Operand)} {k : TV → Option R} {r : R} (ho : o.op = .buildSlice t len parts) (hw : σ.wf)
   (h : zzv P t len (parts.toList.map fun x => (x.1, σ.eval x.2)) k = some r) : ∃ q, k q = some r ∧ TQ P o σ q := by
 have hpw : ∀ p, p ∈ (parts.toList.map fun x => (x.1, σ.eval x.2)) → p.2.wf := fun p hp => by
   simp only [List.mem_map] at hp
   obtain ⟨x, _, rfl⟩ := hp
   exact z0u hw x.2
 unfold zzv at h
 split at h
 · rename_i e hu
   cases h0 : Nat.beq len 0 && Nat.beq (parts.toList.map fun x => (x.1, σ.eval x.2)).length 0 with
   | true =>
     rw [h0] at h
     simp only [Bool.and_eq_true, List.length_map] at h0
     have e0 := Nat.eq_of_beq_eq_true h0.1
     have e1 := Nat.eq_of_beq_eq_true h0.2
     subst e0
     simp only [cond_true, lit0K] at h
     split at h
     · rename_i u n hcode hn
       cases hc : Nat.beq n u.size with
       | false => rw [hc] at h; cases h
       | true =>
         rw [hc] at h
         refine ⟨_, h, fun x hx => (by cases hx), fun Y hY => ?_⟩
         exact z1s9 ho e1 hu hn
     · cases h
   | false =>
   rw [h0] at h
   simp only [cond_false] at h
   split at h
   · rename_i u n z hcode hn hz
     generalize hps : (parts.toList.map fun x => (x.1, σ.eval x.2)) = ps at h hpw
     cases hc : Nat.beq n u.size && !Nat.beq n 0 && !Nat.beq len 0 && Nat.beq z.length n && z.all leaf && Nat.ble (len * n) 16777216 && Nat.beq ps.length len && zy5 ps 0 && ps.all (fun x => x.2.stores) with
     | false => rw [hc] at h; cases h
     | true =>
       rw [hc] at h
       simp only [Bool.and_eq_true, Bool.not_eq_true'] at hc
       obtain ⟨⟨⟨⟨⟨⟨⟨⟨c1, c2⟩, c3⟩, c4⟩, c5⟩, c6⟩, c7⟩, c8⟩, c9⟩ := hc
       have e1 := Nat.eq_of_beq_eq_true c1
       have e7 := Nat.eq_of_beq_eq_true c7
       have n0 : n ≠ 0 := fun e => by rw [e] at c2; cases c2
       have l0 : len ≠ 0 := fun e => by rw [e] at c3; cases c3
       obtain ⟨l, g1, g2, g3, g4, g5⟩ := zxk (fun s hs => by
         simp only [List.mem_map] at hs
         obtain ⟨x, hx, rfl⟩ := hs
         exact hpw x hx) h
       simp only [List.length_map] at g2
       refine ⟨_, g1, by simpa only [TV.wf] using g3, ?_⟩
       have hst : ∀ p, p ∈ ps.map (fun x => x.2.pv) → stor p = true ∧ (cellsOf p).length = n := fun p hp => by
         simp only [List.mem_map] at hp
         obtain ⟨x, hx, rfl⟩ := hp
         exact ⟨zwb (hpw x hx) (List.all_eq_true.1 c9 x hx), by rw [e1]; exact g5 x.2 (List.mem_map.2 ⟨x, hx, rfl⟩)⟩
       intro Y hY
       have hq := q_lit (σ := { σ.flat with H := Y }) (ps := ps.map fun x => x.2.pv) ho hu hn n0 l0 hz (Nat.eq_of_beq_eq_true c4) (fun p hp => List.all_eq_true.1 c5 p hp) (by have := Nat.le_of_ble_eq_true c6; omega) (by simpa using e7)
         (by rw [show (parts.toList.map fun x => (x.1, AS.eval { σ.flat with H := Y } x.2)) = parts.toList.map fun x => (x.1, σ.flat.eval x.2) from rfl, zxe (by rw [hps]; exact c9), hps]; exact z10c c8) hst
       have e2 : (ps.map fun x => x.2.pv).flatMap cellsOf = (ps.map (·.2)).flatMap TV.cells := by simp [List.flatMap_map, TV.cells]
       rw [e2] at hq
       refine qle hq ?_
       simp only [TV.pv]
       rw [g2, e7]
       exact z1ry g4 (z3z g3)
   · cases h
 · cases h
def pickK {R : Type} (c a b : TV) (k : TV → Option R) : Option R :=
 match c with
 | .v .bool β =>
   match a, b with
   | .v u x, .v u' y => bif u.beq u' then castK u' u y fun z => k (.v u (cond β x z)) else cond β (k (.v u x)) (k (.v u' y))
   | a, b => cond β (k a) (k b)
 | _ => none
theorem z1mf {R : Type} {P : Program} {o : Oper} {σ : TS} {c x y : Operand} {k : TV → Option R} {r : R} (ho : o.op = .pick c x y) (hw : σ.wf) (h : pickK (σ.eval c) (σ.eval x) (σ.eval y) k = some r) :
   ∃ q, k q = some r ∧ TQ P o σ q := by
 have hwx := z0u hw x
 have hwy := z0u hw y
 unfold pickK at h
 generalize hc : σ.eval c = cc at h
 split at h
 · rename_i β
   have ec : σ.flat.eval c = .val (.bool β) := z0i hc (by simp)
   have either : cond β (k (σ.eval x)) (k (σ.eval y)) = some r → ∃ q, k q = some r ∧ TQ P o σ q := fun hh => by
     cases β with
     | true => exact ⟨_, hh, hwx, fun _ _ => qle (z1c2 ho ec rfl) (zop σ x)⟩
     | false => exact ⟨_, hh, hwy, fun _ _ => qle (z1c2 ho ec rfl) (zop σ y)⟩
   split at h
   · rename_i u x' u' y' hx hy
     cases hb : u.beq u' with
     | false => rw [hb] at h; rw [hx, hy] at either; exact either h
     | true =>
       rw [hb] at h
       simp only [cond_true] at h
       obtain ⟨e, h⟩ := z2x h
       subst e
       cases β with
       | true =>
         refine ⟨_, h, by rw [hx] at hwx; exact hwx, fun _ _ => qle (z1c2 ho ec rfl) ?_⟩
         have := zop σ x
         rw [hx] at this; exact this
       | false =>
         refine ⟨_, h, by rw [hy] at hwy; exact hwy, fun _ _ => qle (z1c2 ho ec rfl) ?_⟩
         have := zop σ y
         rw [hy] at this; exact this
   · exact either h
 · cases h
end Go.Tm
set_option linter.unusedSimpArgs false
set_option linter.unusedVariables false
namespace Go.Tm
open Go.Ab
mutual
theorem zd8 : ∀ (u : U) (x : u.T), wfU u x → Pures (cellU u x)
 | .int _, _, _ => by simp only [cellU, Pures, Ab.Pure]; exact ⟨trivial, trivial⟩
 | .bool, _, _ => by simp only [cellU, Pures, Ab.Pure]; exact ⟨trivial, trivial⟩
 | .str, _, _ => by simp only [cellU, Pures, Ab.Pure]; exact ⟨trivial, trivial⟩
 | .leaf, _, h => by simp [wfU] at h
 | .sl u, l, h => by
   simp only [wfU] at h
   simp only [cellU, Pures, Ab.Pure]
   refine ⟨⟨rfl, z4s.2 fun p hp => ?_⟩, trivial⟩
   simp only [List.mem_flatMap] at hp
   obtain ⟨y, hy, hp⟩ := hp
   exact z4s.1 (zd8 u y (h y hy)) p hp
 | .arr n u, l, h => by
   simp only [wfU] at h
   simp only [cellU]
   refine z4s.2 fun p hp => ?_
   simp only [List.mem_flatMap] at hp
   obtain ⟨y, hy, hp⟩ := hp
   exact z4s.1 (zd8 u y (h.2 y hy)) p hp
 | .st us, x, h => by
   simp only [wfU] at h
   simp only [cellU]
   exact z19p us x h
theorem z19p : ∀ (us : Us) (x : us.T), wfUs us x → Pures (z1o us x)
 | .one u, x, h => by
   simp only [wfUs] at h
   simp only [z1o]
   exact zd8 u x h
 | .cons u us, x, h => by
   simp only [wfUs] at h
   simp only [z1o]
   refine z4s.2 fun p hp => ?_
   rcases List.mem_append.1 hp with hp | hp
   · exact z4s.1 (zd8 u x.1 h.1) p hp
   · exact z4s.1 (z19p us x.2 h.2) p hp
end
theorem z1qe (u : U) (x : u.T) (h : wfU u x) : Ab.Pure (pvU u x) := by
 have := zd8 u x h
 cases hg : u.isAgg with
 | true => rw [zw7 x hg]; simp only [Ab.Pure]; exact this
 | false => rw [zs9 x hg] at this; simp only [Pures] at this; exact this.1
def fldT : TV → List Stp → Option TV
 | t, [] => some t
 | .v (.st us) x, .fld i :: p => match us.prj x i with
   | some ⟨u, y⟩ => fldT (.v u y) p
   | none => none
 | .agg ts, .fld i :: p => match ts[i]? with
   | some t => fldT t p
   | none => none
 | _, _ => none
theorem z1bk : ∀ {t : TV} {p : List Stp} {t' : TV}, fldT t p = some t' → getT t p (fun t => some t) = some t'
 | t, [], t', h => by simpa only [fldT, getT] using h
 | .v (.st us) x, .fld i :: p, t', h => by
   simp only [fldT] at h
   simp only [getT]
   split at h
   · rename_i u y hp; rw [hp]; exact z1bk h
   · cases h
 | .agg ts, .fld i :: p, t', h => by
   simp only [fldT] at h
   simp only [getT]
   split at h
   · rename_i t hp; rw [hp]; exact z1bk h
   · cases h
 | .v (.int _) _, _ :: _, _, h | .v .bool _, _ :: _, _, h | .v .str _, _ :: _, _, h | .v (.sl _) _, _ :: _, _, h | .v .leaf _, _ :: _, _, h | .v (.arr _ _) _, _ :: _, _, h
 | .v (.st _) _, .idx _ :: _, _, h | .agg _, .idx _ :: _, _, h | .rf _, _ :: _, _, h | .nil, _ :: _, _, h | .fsl _ _, _ :: _, _, h | .osf _ _ _ _, _ :: _, _, h | .tup _, _ :: _, _, h | .ptr _ _ _, _ :: _, _, h
 | .os _ _ _ _ _ _, _ :: _, _, h | .one, _ :: _, _, h | .fn _ _, _ :: _, _, h | .nilp, _ :: _, _, h | .nilf, _ :: _, _, h | .yl _, _ :: _, _, h | .nili, _ :: _, _, h | .nilm, _ :: _, _, h | .ifc _ _, _ :: _, _, h | .dead, _ :: _, _, h => by
   simp [fldT] at h
theorem z1ap {t : TV} {p : List Stp} {t' : TV} (hw : t.wf) (h : fldT t p = some t') : GetOK t p t' := by
 obtain ⟨t2, h1, h2⟩ := zru t p hw (z1bk h)
 cases h1; exact h2
def rowL (o : Ob) (r : Rt) (p : List Stp) (u : U) : Option (List u.T) :=
 bif r.beq o.lay then
   match o, p with
   | .row u' l, [] => castK (.sl u') (.sl u) l some
   | .row _ _, _ => none
   | .var t, p => match fldT t p with
     | some (.v (.arr _ u') l) => castK (.sl u') (.sl u) l some
     | _ => none
 else none
structure RowOK (o : Ob) (r : Rt) (p : List Stp) (u : U) (l : List u.T) : Prop where
 wf : ∀ x, x ∈ l → wfU u x
 cells : (o.cells.drop (r.off p)).take (l.length * u.size) = rowU u l
 le : r.off p + l.length * u.size ≤ o.cells.length
theorem zw6 {m : Nat} {u : U} {l : List u.T} (hw : (TV.v (.arr m u) l).wf) : (∀ x, x ∈ l → wfU u x) ∧ (TV.v (.arr m u) l).cells = rowU u l ∧ (rowU u l).length = l.length * u.size := by
 simp only [TV.wf, wfU] at hw
 exact ⟨hw.2, zh8 m u l, z7y hw.2⟩
theorem z1ew {o : Ob} {r : Rt} {p : List Stp} {u : U} {l : List u.T} (hw : o.wf) (h : rowL o r p u = some l) : RowOK o r p u l := by
 unfold rowL at h
 cases hc : r.beq o.lay with
 | false => rw [hc] at h; cases h
 | true =>
   rw [hc] at h
   have e := Rt.beq_eq hc
   subst e
   simp only [cond_true] at h
   split at h
   · rename_i u' l'
     obtain ⟨e, h⟩ := z2x h
     cases e
     cases h
     have hl := z7y hw
     refine ⟨hw, ?_, ?_⟩
     · simp only [Ob.cells, Ob.lay, Rt.off, List.drop_zero]
       rw [← hl]; exact List.take_length
     · simp only [Ob.cells, Ob.lay, Rt.off]; omega
   · cases h
   · rename_i t
     split at h
     · rename_i m u' l' hf
       obtain ⟨e, h⟩ := z2x h
       cases e
       cases h
       have hg := z1ap hw.1 hf
       obtain ⟨h1, h2, h3⟩ := zw6 hg.wf
       have e6 := hg.cells; have e7 := hg.le
       rw [h2] at e6 e7
       rw [h3] at e6 e7
       exact ⟨h1, e6, e7⟩
     · cases h
def rowK {R : Type} (o : Ob) (r : Rt) (p : List Stp) (u : U) (k : List u.T → Option R) : Option R :=
 bif r.beq o.lay then
   match o, p with
   | .row u' l, [] => castK (.sl u') (.sl u) l k
   | o, p => getO o p fun t => match t with
     | .v (.arr _ u') l => castK (.sl u') (.sl u) l k
     | _ => none
 else none
theorem z1nd {R : Type} {o : Ob} {r : Rt} {p : List Stp} {u : U} {k : List u.T → Option R} {x : R} (hw : o.wf) (h : rowK o r p u k = some x) : ∃ l, k l = some x ∧ RowOK o r p u l := by
 unfold rowK at h
 cases hc : r.beq o.lay with
 | false => rw [hc] at h; cases h
 | true =>
   rw [hc] at h
   have e := Rt.beq_eq hc
   subst e
   simp only [cond_true] at h
   split at h
   · rename_i u' l'
     obtain ⟨e, h⟩ := z2x h
     cases e
     have hl := z7y hw
     refine ⟨l', h, hw, ?_, ?_⟩
     · simp only [Ob.cells, Ob.lay, Rt.off, List.drop_zero]
       rw [← hl]; exact List.take_length
     · simp only [Ob.cells, Ob.lay, Rt.off]; omega
   · obtain ⟨t', h1, h2⟩ := zz1 _ _ hw h
     split at h1
     · rename_i m u' l'
       obtain ⟨e, h1⟩ := z2x h1
       cases e
       obtain ⟨g1, g2, g3⟩ := zw6 h2.wf
       have e6 := h2.cells; have e7 := h2.le
       rw [g2] at e6 e7
       rw [g3] at e6 e7
       exact ⟨l', h1, g1, e6, e7⟩
     · cases h1
inductive Fate where
 | to (j : Nat)
 | gone
 | fz (o : Ob)
def Fate.name : Fate → Option Nat
 | .to j => some j
 | _ => none
def ptrFz (o : Ob) (r : Rt) (p : List Stp) : TV :=
 match o with
 | .var t => bif r.beq o.lay then (match fldT t p with
   | some t' => bif t'.stores then .rf t' else .one
   | none => .one) else .one
 | .row _ _ => .one
def winFz (o : Ob) (r : Rt) (p : List Stp) (u : U) (lo n : Nat) : TV :=
 match rowL o r p u with
 | some l => .osf u l lo n
 | none => .one
mutual
def TV.mv (g : Nat → Fate) : TV → TV
 | .ptr b r p => match g b with
   | .to j => .ptr j r p
   | .gone => .one
   | .fz o => ptrFz o r p
 | .os b r p u lo n => match g b with
   | .to j => .os j r p u lo n
   | .gone => .one
   | .fz o => winFz o r p u lo n
 | .rf t => .rf (t.mv g)
 | .agg ts => .agg (mvs g ts)
 | .tup ts => .tup (mvs g ts)
 | .fn f ts => .fn f (mvs g ts)
 | .ifc t x => .ifc t (x.mv g)
 | t => t
def mvs (g : Nat → Fate) : List TV → List TV
 | [] => []
 | t :: ts => t.mv g :: mvs g ts
end
theorem z12k (g : Nat → Fate) : ∀ ts : List TV, mvs g ts = ts.map (TV.mv g)
 | [] => rfl
 | t :: ts => by simp only [mvs, List.map_cons, z12k g ts]
structure MvH (g : Nat → Fate) (w : World) (c : Cx) (w' : World) (c' : Cx) : Prop where
 base : Mv (fun b => (g b).name) w c w' c'
 fzw : ∀ b o, g b = .fz o → o.wf
 fz : ∀ (b : Nat) o (k : Nat), g b = .fz o → c.m[b]? = some (some k) → (∀ off n, Foot w' c' ⟨k, off, none⟩ n) ∧ ∃ (vs : Array Value) (e : TypeId) (fr : Nat × Nat), w'.heap[k]? = some (.cells vs e fr) ∧ VRs w' c' o.cells (fun i => vs[i]?)
structure MvOK (w : World) (c : Cx) (w' : World) (c' : Cx) (t t' : TV) : Prop where
 wf : t'.wf
 pv : ∀ v, VR w c t.pv v → VR w' c' t'.pv v
 cells : ∀ f, VRs w c t.cells f → VRs w' c' t'.cells f
 len : t'.cells.length = t.cells.length
 leafs : Leafs t.cells → Leafs t'.cells
 st : t.stores = true → t'.stores = true
theorem z18u {w : World} {c : Cx} {p : PV} {f : Nat → Option Value} : VRs w c [p] f ↔ ∃ v, f 0 = some v ∧ VR w c p v := by simp only [VRs, and_true]
theorem MvOK.cell {w : World} {c : Cx} {w' : World} {c' : Cx} {t t' : TV} (h1 : t.cells = [t.pv]) (h2 : t'.cells = [t'.pv]) (hw : t'.wf) (hl : leaf t'.pv = true) (hs : t'.stores = true) (h : ∀ v, VR w c t.pv v → VR w' c' t'.pv v) : MvOK w c w' c' t t' where
 wf := hw
 pv := h
 cells := fun f hf => by
   rw [h1, z18u] at hf
   rw [h2, z18u]
   obtain ⟨v, e, hv⟩ := hf
   exact ⟨v, e, h v hv⟩
 len := by rw [h1, h2]; rfl
 leafs := fun _ p hp => by rw [h2] at hp; simp at hp; subst hp; exact hl
 st := fun _ => hs
theorem zxf : TV.one.wf := by simp only [TV.wf]
theorem z1f8 {w : World} {c : Cx} : ∀ {xs ys : List PV} {f : Nat → Option Value}, VRs w c (xs ++ ys) f → VRs w c xs f ∧ VRs w c ys (fun i => f (xs.length + i))
 | [], ys, f, h => ⟨by simp only [VRs], by simpa using h⟩
 | x :: xs, ys, f, h => by
   simp only [List.cons_append, VRs] at h ⊢
   obtain ⟨h1, h2⟩ := z1f8 h.2
   refine ⟨⟨h.1, h1⟩, ?_⟩
   simp only [List.length_cons]
   refine zem h2 fun i hi => ?_
   congr 1; omega
theorem z1k2 {w' : World} {c' : Cx} {cs : List PV} {vs : Array Value} {e : TypeId} {fr : Nat × Nat} {k : Nat} (hb : w'.heap[k]? = some (.cells vs e fr)) (h : VRs w' c' cs (fun i => vs[i]?)) (off n : Nat) :
   VRs w' c' ((cs.drop off).take n) (fun i => w'.cell? ⟨k, off + i, none⟩) := by
 refine z2d fun i q hq => ?_
 rw [List.getElem?_take] at hq
 split at hq
 · rw [List.getElem?_drop] at hq
   obtain ⟨u, hu, hr⟩ := z0s h hq
   exact ⟨u, by rw [zhf hb]; exact hu, hr⟩
 · cases hq
theorem z1mw {u : U} {x : u.T} (hw : wfU u x) {f : Nat → Option Nat} : (pvU u x).ren f = pvU u x ∧ rens f (cellU u x) = cellU u x := by
 have hp := zd8 u x hw
 refine ⟨?_, z8b hp⟩
 cases hg : u.isAgg with
 | true => rw [zw7 x hg]; simp only [PV.ren, z8b hp]
 | false =>
   rw [zs9 x hg] at hp
   simp only [Pures] at hp
   exact z1b4 hp.1
theorem z7r {u : U} {l : List u.T} (hw : ∀ x, x ∈ l → wfU u x) : Pures (rowU u l) := z4s.2 fun p hp => by
 simp only [rowU, List.mem_flatMap] at hp
 obtain ⟨y, hy, hp⟩ := hp
 exact z4s.1 (zd8 u y (hw y hy)) p hp
mutual
theorem zca {g : Nat → Fate} {w : World} {c : Cx} {w' : World} {c' : Cx} (H : MvH g w c w' c') : ∀ t : TV, t.wf → MvOK w c w' c' t (t.mv g)
 | .v u x, hw => by
   simp only [TV.wf] at hw
   obtain ⟨h1, h2⟩ := z1mw hw (f := fun b => (g b).name)
   refine ⟨by simpa only [TV.mv, TV.wf] using hw, fun v hv => ?_, fun f hf => ?_, rfl, fun h => h, fun h => h⟩
   · have := VR.move H.base _ hv
     simp only [TV.pv] at this hv ⊢
     rw [h1] at this; exact this
   · have := VRs.move H.base _ (fun _ _ _ e => e) hf
     rw [z8k u x hw] at this
     rw [h2] at this
     simp only [TV.mv]
     rw [z8k u x hw]; exact this
 | .ptr b r p, hw => by
   simp only [TV.mv]
   have hone : MvOK w c w' c' (.ptr b r p) .one := .cell rfl rfl zxf rfl rfl fun v hv => by
     simp only [TV.pv, VR] at hv ⊢
     obtain ⟨k, _, rfl⟩ := hv; rfl
   cases hg : g b with
   | to j =>
     refine .cell rfl rfl (by simp only [TV.wf]) rfl rfl fun v hv => ?_
     have := VR.move H.base _ hv
     simp only [TV.pv, PV.ren, hg, Fate.name] at this
     exact this
   | gone => exact hone
   | fz o =>
     cases o with
     | row u l => exact hone
     | var t =>
       simp only [ptrFz]
       cases hc : r.beq (Ob.var t).lay with
       | false => exact hone
       | true =>
         simp only [cond_true]
         cases hf : fldT t p with
         | none => exact hone
         | some t' =>
           simp only
           cases hs : t'.stores with
           | false => exact hone
           | true =>
             simp only [cond_true]
             have hwo := H.fzw b _ hg
             have hg2 := z1ap hwo.1 hf
             have hlf := z4z hg2.wf hs
             have e := Rt.beq_eq hc
             subst e
             refine .cell rfl rfl (by simp only [TV.wf]; exact ⟨hg2.wf, hlf⟩) rfl rfl fun v hv => ?_
             simp only [TV.pv, VR] at hv ⊢
             obtain ⟨k, hk, rfl⟩ := hv
             obtain ⟨f1, vs, e, fr, f2, f3⟩ := H.fz b _ k hg hk
             refine ⟨_, rfl, f1 _ _, hlf, ?_⟩
             have := z1k2 f2 f3 (t.lay.off p) t'.cells.length
             have hce := hg2.cells
             simp only [Ob.cells] at this
             rw [hce] at this
             exact this
 | .os b r p u lo n, hw => by
   simp only [TV.mv]
   have hone : MvOK w c w' c' (.os b r p u lo n) .one := .cell rfl rfl zxf rfl rfl fun v hv => by
     simp only [TV.pv] at hv
     obtain ⟨ad, cap, rfl⟩ := z19m hv
     simp only [TV.pv, VR]; rfl
   cases hg : g b with
   | to j =>
     refine .cell rfl rfl (by simp only [TV.wf]) rfl rfl fun v hv => ?_
     have := VR.move H.base _ hv
     simp only [TV.pv, PV.ren, hg, Fate.name] at this
     exact this
   | gone => exact hone
   | fz o =>
     simp only [winFz]
     cases hrl : rowL o r p u with
     | none => exact hone
     | some l =>
       have hwo := H.fzw b _ hg
       have hrw := z1ew hwo hrl
       refine .cell rfl rfl (by simp only [TV.wf]; exact hrw.wf) rfl rfl fun v hv => ?_
       simp only [TV.pv, VR] at hv ⊢
       have hlf : Leafs (List.take (n * u.size) (List.drop (lo * u.size) (rowU u l))) := fun q hq => z3z hrw.wf q (List.mem_of_mem_drop (List.mem_of_mem_take hq))
       have hsub : ∀ (k : Nat), c.m[b]? = some (some k) → VRs w' c' (List.take (n * u.size) (List.drop (lo * u.size) (rowU u l))) (fun i => w'.cell? ⟨k, r.off p + lo * u.size + i, none⟩) := fun k hk => by
         obtain ⟨f1, vs, e, fr, f2, f3⟩ := H.fz b _ k hg hk
         have := z1k2 f2 f3 (r.off p) (l.length * u.size)
         rw [hrw.cells] at this
         refine z2d fun i q hq => ?_
         rw [List.getElem?_take] at hq
         split at hq
         · rw [List.getElem?_drop] at hq
           obtain ⟨x, hx, hr⟩ := z0s this hq
           refine ⟨x, ?_, hr⟩
           rw [Nat.add_assoc]; exact hx
         · cases hq
       have hemp : ∀ (ad : Addr), n = 0 → VRs w' c' (List.take (n * u.size) (List.drop (lo * u.size) (rowU u l))) (fun i => w'.cell? ⟨ad.block, ad.off + i, none⟩) := fun ad h => by
         rw [h, Nat.zero_mul, List.take_zero]; simp only [VRs]
       rcases hv with ⟨⟨ad, rfl⟩, rfl⟩ | ⟨k, cap, off', h1, rfl, h0, h3, _⟩
       · cases ad with
         | none => exact .inl ⟨rfl, rfl, by simp, rfl⟩
         | some ad => exact .inr ⟨ad, 0, rfl, Nat.le_refl _, .inl (by simp), trivial, hlf, hemp ad rfl⟩
       · by_cases hn : n = 0
         · exact .inr ⟨_, cap, rfl, h3, .inl (by rw [hn]; simp), trivial, hlf, hemp _ hn⟩
         · have hoff : off' = r.off p + lo * u.size := h0.resolve_left (fun h => hn h.1)
           subst hoff
           exact .inr ⟨_, cap, rfl, h3, (H.fz b _ k hg h1).1 _ _, trivial, hlf, hsub k h1⟩
 | .rf t, hw => by
   simp only [TV.wf] at hw
   have ih := zca H t hw.1
   refine .cell rfl rfl (by simp only [TV.mv, TV.wf]; exact ⟨ih.wf, ih.leafs hw.2⟩) (by simp only [TV.mv, TV.pv]; rfl) rfl fun v hv => ?_
   simp only [TV.mv, TV.pv, VR] at hv ⊢
   obtain ⟨a, h1, h2, h3, h4⟩ := hv
   refine ⟨a, h1, ?_, ih.leafs h3, ih.cells _ ?_⟩
   · have := H.base.foot _ _ h2
     have e := ih.len
     simp only [TV.cells] at e
     rw [e]; exact this
   · -- the cells are read in the world behind
     refine z2d fun i q hq => ?_
     obtain ⟨u, hu, hr⟩ := z0s h4 hq
     exact ⟨u, H.base.cell a _ h2 i u (List.getElem?_eq_some_iff.1 hq).1 hu, hr⟩
 | .agg ts, hw => by
   simp only [TV.wf] at hw
   obtain ⟨h1, h2, h3, h4⟩ := z1iv H ts hw.2.1
   refine ⟨by simp only [TV.mv, TV.wf]; exact ⟨by cases ts with | nil => exact absurd rfl hw.1 | cons a l => simp [mvs], h1, h3 hw.2.2⟩, fun v hv => ?_, fun f hf => ?_, ?_, fun h => ?_, fun h => rfl⟩
   · simp only [TV.mv, TV.pv, VR] at hv ⊢
     obtain ⟨cv, e1, e2, e3, e4⟩ := hv
     exact ⟨cv, e1, by rw [h4]; exact e2, h3 e3, h2 _ e4⟩
   · simp only [TV.mv, TV.cells, TV.pv, cellsOf] at hf ⊢; exact h2 _ hf
   · simp only [TV.mv, TV.cells, TV.pv, cellsOf]; exact h4
   · simp only [TV.mv, TV.cells, TV.pv, cellsOf] at h ⊢; exact h3 h
 | .tup ts, hw => by
   simp only [TV.wf] at hw
   obtain ⟨h1, h2, h3⟩ := zrg H ts hw
   refine ⟨by simp only [TV.mv, TV.wf]; exact h1, fun v hv => ?_, fun f hf => ?_, rfl, fun h => ?_, fun h => by cases h⟩
   · simp only [TV.mv, TV.pv, VR] at hv ⊢
     obtain ⟨cv, e1, e2, e3⟩ := hv
     exact ⟨cv, e1, by rw [h3]; exact e2, h2 _ e3⟩
   · simp only [TV.mv, TV.cells, TV.pv, cellsOf] at hf ⊢
     rw [z18u] at hf ⊢
     obtain ⟨v, e, hv⟩ := hf
     refine ⟨v, e, ?_⟩
     simp only [VR] at hv ⊢
     obtain ⟨cv, e1, e2, e3⟩ := hv
     exact ⟨cv, e1, by rw [h3]; exact e2, h2 _ e3⟩
   · simp only [TV.mv, TV.cells, TV.pv, cellsOf] at h
     exact absurd (h _ (List.mem_singleton.2 rfl)) (by simp [leaf])
 | .fn f ts, hw => by
   simp only [TV.wf] at hw
   obtain ⟨h1, h2, h3⟩ := zrg H ts hw
   refine .cell rfl rfl (by simp only [TV.mv, TV.wf]; exact h1) rfl rfl fun v hv => ?_
   simp only [TV.mv, TV.pv, VR] at hv ⊢
   obtain ⟨cv, e1, e2, e3⟩ := hv
   exact ⟨cv, e1, by rw [h3]; exact e2, h2 _ e3⟩
 | .ifc t x, hw => by
   simp only [TV.wf] at hw
   have ih := zca H x hw
   refine .cell rfl rfl (by simp only [TV.mv, TV.wf]; exact ih.wf) rfl rfl fun v hv => ?_
   simp only [TV.mv, TV.pv, VR] at hv ⊢
   obtain ⟨u, h1, h2⟩ := hv
   exact ⟨u, h1, ih.pv u h2⟩
 | .fsl u l, hw => by
   simp only [TV.wf] at hw
   refine .cell rfl rfl (by simp only [TV.mv, TV.wf]; exact hw) rfl rfl fun v hv => ?_
   have := VR.move H.base _ hv
   simp only [TV.pv, PV.ren, z8b (z7r hw)] at this
   simp only [TV.mv, TV.pv]; exact this
 | .osf u l lo n, hw => by
   simp only [TV.wf] at hw
   refine .cell rfl rfl (by simp only [TV.mv, TV.wf]; exact hw) rfl rfl fun v hv => ?_
   have := VR.move H.base _ hv
   have hp : Pures (List.take (n * u.size) (List.drop (lo * u.size) (rowU u l))) := z4s.2 fun p hp => z4s.1 (z7r hw) p (List.mem_of_mem_drop (List.mem_of_mem_take hp))
   simp only [TV.pv, PV.ren, z8b hp] at this
   simp only [TV.mv, TV.pv]; exact this
 | .nil, _ => .cell rfl rfl (by simp only [TV.mv, TV.wf]) rfl rfl fun v hv => by
   have := VR.move H.base _ hv
   simp only [TV.pv, PV.ren, rens] at this
   simp only [TV.mv, TV.pv]; exact this
 | .one, _ => .cell rfl rfl (by simp only [TV.mv, TV.wf]) rfl rfl fun v hv => by simp only [TV.mv, TV.pv, VR] at hv ⊢; exact hv
 | .nilp, _ => .cell rfl rfl (by simp only [TV.mv, TV.wf]) rfl rfl fun v hv => by simp only [TV.mv, TV.pv, VR] at hv ⊢; exact hv
 | .nilf, _ | .yl _, _ => .cell rfl rfl (by simp only [TV.mv, TV.wf]) rfl rfl fun v hv => by simp only [TV.mv, TV.pv, VR] at hv ⊢; exact hv
 | .nili, _ => .cell rfl rfl (by simp only [TV.mv, TV.wf]) rfl rfl fun v hv => by simp only [TV.mv, TV.pv, VR] at hv ⊢; exact hv
 | .nilm, _ => .cell rfl rfl (by simp only [TV.mv, TV.wf]) rfl rfl fun v hv => by simp only [TV.mv, TV.pv, VR] at hv ⊢; exact hv
 | .dead, _ => ⟨by simp only [TV.mv, TV.wf], fun v _ => by simp only [TV.mv, TV.pv, VR], fun f hf => by
     simp only [TV.mv, TV.cells, TV.pv, cellsOf] at hf ⊢
     rw [z18u] at hf ⊢
     obtain ⟨v, e, _⟩ := hf
     exact ⟨v, e, by simp only [VR]⟩, rfl, fun h => h, fun h => by cases h⟩
theorem z1iv {g : Nat → Fate} {w : World} {c : Cx} {w' : World} {c' : Cx} (H : MvH g w c w' c') : ∀ ts : List TV, TV.wfs ts →
   TV.wfs (mvs g ts) ∧ (∀ f, VRs w c (TV.cellsL ts) f → VRs w' c' (TV.cellsL (mvs g ts)) f) ∧ (Leafs (TV.cellsL ts) → Leafs (TV.cellsL (mvs g ts))) ∧ (TV.cellsL (mvs g ts)).length = (TV.cellsL ts).length
 | [], _ => ⟨by simp only [mvs, TV.wfs], fun f _ => by simp only [mvs, TV.cellsL, VRs], fun h => h, rfl⟩
 | t :: ts, hw => by
   simp only [TV.wfs] at hw
   have h := zca H t hw.1
   obtain ⟨h1, h2, h3, h4⟩ := z1iv H ts hw.2
   simp only [mvs]
   refine ⟨by simp only [TV.wfs]; exact ⟨h.wf, h1⟩, fun f hf => ?_, fun hf => ?_, ?_⟩
   · rw [z2q] at hf ⊢
     obtain ⟨a, b⟩ := z1f8 hf
     refine zw5 (h.cells _ a) ?_
     rw [h.len]; exact h2 _ b
   · rw [z2q] at hf ⊢
     intro p hp
     rcases List.mem_append.1 hp with hp | hp
     · exact h.leafs (fun q hq => hf q (List.mem_append_left _ hq)) p hp
     · exact h3 (fun q hq => hf q (List.mem_append_right _ hq)) p hp
   · rw [z2q, z2q, List.length_append, List.length_append, h.len, h4]
theorem zrg {g : Nat → Fate} {w : World} {c : Cx} {w' : World} {c' : Cx} (H : MvH g w c w' c') : ∀ ts : List TV, TV.wfs ts →
   TV.wfs (mvs g ts) ∧ (∀ f, VRs w c (TV.pvs ts) f → VRs w' c' (TV.pvs (mvs g ts)) f) ∧ (TV.pvs (mvs g ts)).length = (TV.pvs ts).length
 | [], _ => ⟨by simp only [mvs, TV.wfs], fun f _ => by simp only [mvs, TV.pvs, VRs], rfl⟩
 | t :: ts, hw => by
   simp only [TV.wfs] at hw
   have h := zca H t hw.1
   obtain ⟨h1, h2, h3⟩ := zrg H ts hw.2
   simp only [mvs]
   refine ⟨by simp only [TV.wfs]; exact ⟨h.wf, h1⟩, fun f hf => ?_, by simp only [TV.pvs, List.length_cons, h3]⟩
   simp only [TV.pvs, VRs] at hf ⊢
   obtain ⟨⟨v, e, hv⟩, hr⟩ := hf
   exact ⟨⟨v, e, h.pv v hv⟩, h2 _ hr⟩
end
theorem z1r3 {o : Ob} {r : Rt} {p : List Stp} {u : U} {l : List u.T} (hw : o.wf) (h : rowL o r p u = some l) : ∀ x, x ∈ l → wfU u x := (z1ew hw h).wf
theorem z1ar {o : Ob} {r : Rt} {p : List Stp} {u : U} {lo n : Nat} (hw : o.wf) : (winFz o r p u lo n).wf ∧ (winFz o r p u lo n).stores = true ∧ Leafs (winFz o r p u lo n).cells := by
 unfold winFz
 cases h : rowL o r p u with
 | none => exact ⟨zxf, rfl, fun q hq => by simp [TV.cells, TV.pv, cellsOf] at hq; subst hq; rfl⟩
 | some l => exact ⟨by simp only [TV.wf]; exact z1r3 hw h, rfl, fun q hq => by simp [TV.cells, TV.pv, cellsOf] at hq; subst hq; rfl⟩
theorem z1be {o : Ob} {r : Rt} {p : List Stp} (hw : o.wf) : (ptrFz o r p).wf ∧ (ptrFz o r p).stores = true ∧ Leafs (ptrFz o r p).cells := by
 have hone : TV.one.wf ∧ TV.one.stores = true ∧ Leafs TV.one.cells := ⟨zxf, rfl, fun q hq => by simp [TV.cells, TV.pv, cellsOf] at hq; subst hq; rfl⟩
 cases o with
 | row u l => exact hone
 | var t =>
   simp only [ptrFz]
   cases hc : r.beq (Ob.var t).lay with
   | false => exact hone
   | true =>
     simp only [cond_true]
     cases hf : fldT t p with
     | none => exact hone
     | some t' =>
       simp only
       cases hs : t'.stores with
       | false => exact hone
       | true =>
         have hg2 := z1ap hw.1 hf
         exact ⟨by simp only [cond_true, TV.wf]; exact ⟨hg2.wf, z4z hg2.wf hs⟩, rfl, fun q hq => by simp [TV.cells, TV.pv, cellsOf] at hq; subst hq; rfl⟩
mutual
theorem z17b {g : Nat → Fate} (hg : ∀ b o, g b = .fz o → o.wf) : ∀ t : TV, t.wf → (t.mv g).wf ∧ (t.stores = true → (t.mv g).stores = true) ∧ (Leafs t.cells → Leafs (t.mv g).cells)
 | .v _ _, h | .nil, h | .fsl _ _, h | .osf _ _ _ _, h | .one, h | .nilp, h | .nilf, h | .yl _, h | .nili, h | .nilm, h | .dead, h => ⟨h, id, id⟩
 | .ptr b r p, h => by
   simp only [TV.mv]
   cases hb : g b with
   | to j => exact ⟨by simp only [TV.wf], fun _ => rfl, fun _ q hq => by simp [TV.cells, TV.pv, cellsOf] at hq; subst hq; rfl⟩
   | gone => exact ⟨zxf, fun _ => rfl, fun _ q hq => by simp [TV.cells, TV.pv, cellsOf] at hq; subst hq; rfl⟩
   | fz o => exact ⟨(z1be (hg b o hb)).1, fun _ => (z1be (hg b o hb)).2.1, fun _ => (z1be (hg b o hb)).2.2⟩
 | .os b r p u lo n, h => by
   simp only [TV.mv]
   cases hb : g b with
   | to j => exact ⟨by simp only [TV.wf], fun _ => rfl, fun _ q hq => by simp [TV.cells, TV.pv, cellsOf] at hq; subst hq; rfl⟩
   | gone => exact ⟨zxf, fun _ => rfl, fun _ q hq => by simp [TV.cells, TV.pv, cellsOf] at hq; subst hq; rfl⟩
   | fz o => exact ⟨(z1ar (hg b o hb)).1, fun _ => (z1ar (hg b o hb)).2.1, fun _ => (z1ar (hg b o hb)).2.2⟩
 | .rf t, h => by
   simp only [TV.wf] at h
   have ih := z17b hg t h.1
   exact ⟨by simp only [TV.mv, TV.wf]; exact ⟨ih.1, ih.2.2 h.2⟩, fun _ => rfl, fun _ q hq => by simp [TV.mv, TV.cells, TV.pv, cellsOf] at hq; subst hq; rfl⟩
 | .agg ts, h => by
   simp only [TV.wf] at h
   have ih := zp7 hg ts h.2.1
   refine ⟨by simp only [TV.mv, TV.wf]; exact ⟨by cases ts with | nil => exact absurd rfl h.1 | cons a l => simp [mvs], ih.1, ih.2 h.2.2⟩, fun _ => rfl, fun hl => ?_⟩
   simp only [TV.mv, TV.cells, TV.pv, cellsOf] at hl ⊢
   exact ih.2 hl
 | .tup ts, h => by
   simp only [TV.wf] at h
   refine ⟨by simp only [TV.mv, TV.wf]; exact (zp7 hg ts h).1, (fun h => by cases h), fun hl => ?_⟩
   simp only [TV.cells, TV.pv, cellsOf] at hl
   exact absurd (hl _ (List.mem_singleton.2 rfl)) (by simp [leaf])
 | .fn f ts, h => by
   simp only [TV.wf] at h
   exact ⟨by simp only [TV.mv, TV.wf]; exact (zp7 hg ts h).1, fun _ => rfl, fun _ q hq => by simp [TV.mv, TV.cells, TV.pv, cellsOf] at hq; subst hq; rfl⟩
 | .ifc t x, h => by
   simp only [TV.wf] at h
   exact ⟨by simp only [TV.mv, TV.wf]; exact (z17b hg x h).1, fun _ => rfl, fun _ q hq => by simp [TV.mv, TV.cells, TV.pv, cellsOf] at hq; subst hq; rfl⟩
theorem zp7 {g : Nat → Fate} (hg : ∀ b o, g b = .fz o → o.wf) : ∀ ts : List TV, TV.wfs ts → TV.wfs (mvs g ts) ∧ (Leafs (TV.cellsL ts) → Leafs (TV.cellsL (mvs g ts)))
 | [], _ => ⟨by simp only [mvs, TV.wfs], id⟩
 | t :: ts, h => by
   simp only [TV.wfs] at h
   have h1 := z17b hg t h.1
   have h2 := zp7 hg ts h.2
   simp only [mvs]
   refine ⟨by simp only [TV.wfs]; exact ⟨h1.1, h2.1⟩, fun hl => ?_⟩
   rw [z2q] at hl ⊢
   intro p hp
   rcases List.mem_append.1 hp with hp | hp
   · exact h1.2.2 (fun q hq => hl q (List.mem_append_left _ hq)) p hp
   · exact h2.2 (fun q hq => hl q (List.mem_append_right _ hq)) p hp
end
theorem mv_wf {g : Nat → Fate} (hg : ∀ b o, g b = .fz o → o.wf) (t : TV) (h : t.wf) : (t.mv g).wf ∧ (t.stores = true → (t.mv g).stores = true) := ⟨(z17b hg t h).1, (z17b hg t h).2.1⟩
end Go.Tm
set_option linter.unusedSimpArgs false
set_option linter.unusedVariables false
namespace Go.Tm
open Go.Ab
@[reducible] def LT : List U → Type
 | [] => Unit
 | [u] => u.T
 | u :: v :: r => u.T × LT (v :: r)
def sealT {R : Type} : (l : List U) → List TV → (LT l → Option R) → Option R
 | [], [], k => k ()
 | [u], [t], k => sealK t u k
 | u :: v :: r, t :: ts, k => sealK t u fun x => sealT (v :: r) ts fun y => k (x, y)
 | _, _, _ => none
def z2n : (l : List U) → LT l → List TV
 | [], _ => []
 | [u], x => [.v u x]
 | u :: v :: r, x => .v u x.1 :: z2n (v :: r) x.2
structure Sld (t s : TV) : Prop where
 wf : s.wf
 pv : PLe t.pv s.pv
 cells : CLe t.cells s.cells
 data : ∃ u y, s = .v u y
 same : ∀ u x, t = .v u x → s = t
theorem z1o7 {R : Type} {u' u : U} {x : u'.T} {k : u.T → Option R} {r : R} (h : castK u' u x k = some r) : ∃ y, k y = some r ∧ TV.v u y = TV.v u' x := by
 obtain ⟨rfl, h⟩ := z2x h
 exact ⟨x, h, rfl⟩
theorem z1iw {R : Type} {t : TV} {u : U} {k : u.T → Option R} {r : R} (hw : t.wf) (h : sealK t u k = some r) : ∃ x, k x = some r ∧ Sld t (.v u x) := by
 by_cases hv : ∃ u' x', t = .v u' x'
 · obtain ⟨u', x', rfl⟩ := hv
   simp only [sealK] at h
   obtain ⟨y, h1, h2⟩ := z1o7 h
   exact ⟨y, h1, by rw [h2]; exact hw, by rw [h2]; exact PLe.refl _, by rw [h2]; exact CLe.refl _, ⟨_, _, rfl⟩, fun _ _ _ => h2⟩
 · obtain ⟨x, h1, h2, h3, h4⟩ := zz4 t u hw h
   exact ⟨x, h1, by simpa only [TV.wf] using h2, h3, by rw [z8k u x h2]; exact h4, ⟨_, _, rfl⟩, fun a b e => absurd ⟨a, b, e⟩ hv⟩
theorem zvu {R : Type} : ∀ (l : List U) (ts : List TV) {k : LT l → Option R} {r : R}, (∀ t, t ∈ ts → t.wf) → sealT l ts k = some r →
   ∃ x, k x = some r ∧ ts.length = l.length ∧ (z2n l x).length = ts.length ∧ ∀ (i : Nat) t s, ts[i]? = some t → (z2n l x)[i]? = some s → Sld t s
 | [], [], k, r, _, h => ⟨(), by simpa only [sealT] using h, rfl, rfl, fun i t s h => by simp at h⟩
 | [u], [t], k, r, hw, h => by
   simp only [sealT] at h
   obtain ⟨x, h1, h2⟩ := z1iw (hw t (by simp)) h
   refine ⟨x, h1, rfl, rfl, fun i t' s ht hs => ?_⟩
   cases i with
   | zero =>
     simp only [List.getElem?_cons_zero, Option.some.injEq] at ht
     simp only [z2n, List.getElem?_cons_zero, Option.some.injEq] at hs
     subst ht; subst hs
     exact h2
   | succ i => simp at ht
 | u :: v :: l, t :: ts, k, r, hw, h => by
   simp only [sealT] at h
   obtain ⟨x, h1, h2⟩ := z1iw (hw t (by simp)) h
   obtain ⟨y, g1, g2, g3, g4⟩ := zvu (v :: l) ts (fun s hs => hw s (by simp [hs])) h1
   refine ⟨(x, y), g1, by simp [g2], by simp only [z2n, List.length_cons, g3], fun i t' s ht hs => ?_⟩
   cases i with
   | zero =>
     simp only [List.getElem?_cons_zero, Option.some.injEq] at ht
     simp only [z2n, List.getElem?_cons_zero, Option.some.injEq] at hs
     subst ht; subst hs
     exact h2
   | succ i => exact g4 i t' s (by simpa using ht) (by simpa [z2n] using hs)
 | [], _ :: _, _, _, _, h => by simp [sealT] at h
 | [_], [], _, _, _, h => by simp [sealT] at h
 | [_], _ :: _ :: _, _, _, _, h => by simp [sealT] at h
 | _ :: _ :: _, [], _, _, _, h => by simp [sealT] at h
inductive Pat where
 | d (u : U)
 | pt (j : Nat) (r : Rt) (p : List Stp)
 | wn (j : Nat) (u : U)
 | wa (j : Nat) (r : Rt) (p : List Stp) (u : U) (lo n : Nat)
 | ws (j : Nat) (u : U)
 | fs (u : U)
 | rf (q : Pat)
 | ag (l : List Pat)
 | tu (l : List Pat)
 | fn (f : FuncId) (l : List Pat)
 | c (t : TV)
 | on
mutual
def Pat.codes : Pat → List U
 | .d u => [u]
 | .fs u => [.sl u]
 | .ws _ _ => [.sl .bool]
 | .rf q => q.codes
 | .ag l => z0b l
 | .tu l => z0b l
 | .fn _ l => z0b l
 | _ => []
def z0b : List Pat → List U
 | [] => []
 | q :: l => q.codes ++ z0b l
end
def z9c : List Stp → List Stp → Bool
 | [], [] => true
 | .fld i :: p, .fld j :: q => Nat.beq i j && z9c p q
 | .idx i :: p, .idx j :: q => Nat.beq i j && z9c p q
 | _, _ => false
theorem zvj : ∀ {p q : List Stp}, z9c p q = true → p = q
 | [], [], _ => rfl
 | .fld i :: p, .fld j :: q, h => by
   simp only [z9c, Bool.and_eq_true] at h
   rw [Nat.eq_of_beq_eq_true h.1, zvj h.2]
 | .idx i :: p, .idx j :: q, h => by
   simp only [z9c, Bool.and_eq_true] at h
   rw [Nat.eq_of_beq_eq_true h.1, zvj h.2]
 | [], _ :: _, h => by simp [z9c] at h
 | .fld _ :: _, [], h => by simp [z9c] at h
 | .idx _ :: _, [], h => by simp [z9c] at h
 | .fld _ :: _, .idx _ :: _, h => by simp [z9c] at h
 | .idx _ :: _, .fld _ :: _, h => by simp [z9c] at h
def tvBeq : TV → TV → Bool
 | .nil, .nil => true
 | .nilp, .nilp => true
 | .nilf, .nilf => true
 | .yl a, .yl b => Nat.beq a b
 | .nili, .nili => true
 | .nilm, .nilm => true
 | .one, .one => true
 | .fn f [], .fn g [] => Nat.beq f g
 | _, _ => false
theorem z1qi {a b : TV} (h : tvBeq a b = true) : a = b := by
 unfold tvBeq at h
 split at h <;> first | rfl | (cases h; done) | (rw [Nat.eq_of_beq_eq_true h])
def zbz : (us : Us) → us.T → List TV
 | .one u, x => [.v u x]
 | .cons u us, x => .v u x.1 :: zbz us x.2
def TV.leafB : TV → Bool
 | .v u _ => !u.isAgg
 | .agg _ | .tup _ | .dead => false
 | _ => true
mutual
def z0n : Pat → TV → Option (List TV)
 | .d _, t => some [t]
 | .fs _, .fsl u l => some [.v (.sl u) l]
 | .fs u, .nil => some [.v (.sl u) []]
 | .rf q, .rf t => z0n q t
 | .pt j r p, .ptr j' r' p' => bif Nat.beq j j' && r.beq r' && z9c p p' then some [] else none
 | .wa j r p u lo n, .os j' r' p' u' lo' n' => bif Nat.beq j j' && r.beq r' && z9c p p' && u.beq u' && Nat.beq lo lo' && Nat.beq n n' then some [] else none
 | .wn j u, .os j' _ [] u' lo _ => bif Nat.beq j j' && u.beq u' && Nat.beq lo 0 then some [] else none
 | .wn _ _, .nil => some []
 | .ws j u, .os j' _ [] u' lo n => bif Nat.beq j j' && u.beq u' && Nat.beq lo 0 then some [.v (.sl .bool) (List.replicate n true)] else none
 | .ws _ _, .nil => some [.v (.sl .bool) []]
 | .ag l, .agg ts => z3w l ts
 | .ag l, .v (.st us) x => z3w l (zbz us x)
 | .tu l, .tup ts => z3w l ts
 | .fn f l, .fn f' ts => bif Nat.beq f f' then z3w l ts else none
 | .c t, t' => bif tvBeq t t' then some [] else none
 | .on, t => bif t.leafB then some [] else none
 | _, _ => none
def z3w : List Pat → List TV → Option (List TV)
 | [], [] => some []
 | q :: l, t :: ts => match z0n q t, z3w l ts with
   | some a, some b => some (a ++ b)
   | _, _ => none
 | _, _ => none
end
mutual
def zgb : Pat → TV → List (Nat × Nat)
 | .rf q, .rf t => zgb q t
 | .wn j _, .os _ _ _ _ _ n => [(j, n)]
 | .wn j _, .nil => [(j, 0)]
 | .ag l, .agg ts => zcn l ts
 | .ag l, .v (.st us) x => zcn l (zbz us x)
 | .tu l, .tup ts => zcn l ts
 | .fn _ l, .fn _ ts => zcn l ts
 | _, _ => []
def zcn : List Pat → List TV → List (Nat × Nat)
 | q :: l, t :: ts => zgb q t ++ zcn l ts
 | _, _ => []
end
mutual
def fillP (lens : Nat → Nat) : Pat → List TV → TV × List TV
 | .d _, s :: ss => (s, ss)
 | .fs _, .v (.sl u) l :: ss => (.fsl u l, ss)
 | .rf q, ss => match fillP lens q ss with | (t, r) => (.rf t, r)
 | .pt j r p, ss => (.ptr j r p, ss)
 | .wa j r p u lo n, ss => (.os j r p u lo n, ss)
 | .wn j u, ss => (.os j (.row u.canon) [] u 0 (lens j), ss)
 | .ws j u, .v (.sl .bool) l :: ss => (.os j (.row u.canon) [] u 0 (List.length l), ss)
 | .ag l, ss => match fillL lens l ss with | (ts, r) => (.agg ts, r)
 | .tu l, ss => match fillL lens l ss with | (ts, r) => (.tup ts, r)
 | .fn f l, ss => match fillL lens l ss with | (ts, r) => (.fn f ts, r)
 | .c t, ss => (t, ss)
 | .on, ss => (.one, ss)
 | _, ss => (.dead, ss)
def fillL (lens : Nat → Nat) : List Pat → List TV → List TV × List TV
 | [], ss => ([], ss)
 | q :: l, ss => match fillP lens q ss with | (t, r) => match fillL lens l r with | (ts, r2) => (t :: ts, r2)
end
structure Fits (t t' : TV) : Prop where
 wf : t'.wf
 st : t.stores = true → t'.stores = true
 pv : PLe t.pv t'.pv
 cells : CLe t.cells t'.cells
theorem Fits.refl {t : TV} (h : t.wf) : Fits t t := ⟨h, id, PLe.refl _, CLe.refl _⟩
theorem z1cp {t : TV} (h : Leafs t.cells) : t.stores = true := by
 cases t <;> first | rfl | (have := h _ (List.mem_singleton.2 rfl); simp [TV.cells, TV.pv, cellsOf, leaf] at this)
theorem Fits.leafs {t t' : TV} (h : Fits t t') (hl : Leafs t.cells) : Leafs t'.cells := z4z h.wf (h.st (z1cp hl))
theorem z1kf (r : Rt) : r.off [] = 0 := by cases r <;> rfl
theorem z13k : ∀ (us : Us) (x : us.T), wfUs us x → TV.wfs (zbz us x) ∧ TV.cellsL (zbz us x) = z1o us x ∧ zbz us x ≠ [] ∧ ∀ t, t ∈ zbz us x → t.stores = true
 | .one u, x, h => by
   simp only [wfUs] at h
   refine ⟨by simp only [zbz, TV.wfs, TV.wf]; exact ⟨h, trivial⟩, ?_, by simp [zbz], fun t ht => by simp only [zbz, List.mem_singleton] at ht; subst ht; rfl⟩
   simp only [zbz, z2q, z8k u x h, TV.cellsL, z1o, List.append_nil]
 | .cons u us, x, h => by
   simp only [wfUs] at h
   obtain ⟨h1, h2, h3, h4⟩ := z13k us x.2 h.2
   refine ⟨by simp only [zbz, TV.wfs, TV.wf]; exact ⟨h.1, h1⟩, ?_, by simp [zbz], fun t ht => ?_⟩
   · simp only [zbz, z2q, z8k u x.1 h.1, h2, z1o]
   · simp only [zbz, List.mem_cons] at ht
     rcases ht with rfl | ht
     · rfl
     · exact h4 t ht
def SldL (ls ss : List TV) : Prop := ls.length = ss.length ∧ ∀ (i : Nat) t s, ls[i]? = some t → ss[i]? = some s → Sld t s
theorem SldL.split {a b ss : List TV} (h : SldL (a ++ b) ss) : SldL a (ss.take a.length) ∧ SldL b (ss.drop a.length) := by
 obtain ⟨h1, h2⟩ := h
 rw [List.length_append] at h1
 refine ⟨⟨by rw [List.length_take]; omega, fun i t s ht hs => ?_⟩, ⟨by rw [List.length_drop]; omega, fun i t s ht hs => ?_⟩⟩
 · rw [List.getElem?_take] at hs
   split at hs
   · rename_i hi; exact h2 i t s (by rw [List.getElem?_append_left hi]; exact ht) hs
   · cases hs
 · rw [List.getElem?_drop] at hs
   exact h2 (a.length + i) t s (by rw [List.getElem?_append_right (by omega), Nat.add_sub_cancel_left]; exact ht) hs
def GuardsOK (lens : Nat → Nat) (gs : List (Nat × Nat)) : Prop := ∀ j n, (j, n) ∈ gs → n = lens j
theorem GuardsOK.split {lens : Nat → Nat} {a b : List (Nat × Nat)} (h : GuardsOK lens (a ++ b)) : GuardsOK lens a ∧ GuardsOK lens b :=
 ⟨fun j n hm => h j n (List.mem_append_left _ hm), fun j n hm => h j n (List.mem_append_right _ hm)⟩
theorem z1g3 {t : TV} (hw : t.wf) (h : t.leafB = true) : leaf t.pv = true ∧ t.cells = [t.pv] := by
 cases t <;> first | (cases h; done) | exact ⟨rfl, rfl⟩ | skip
 rename_i u x
 simp only [TV.leafB, Bool.not_eq_true'] at h
 simp only [TV.wf] at hw
 refine ⟨?_, by rw [z8k u x hw]; simp only [TV.pv, zs9 x h]⟩
 have := zfa u x hw
 rw [zs9 x h] at this
 exact this _ (List.mem_singleton.2 rfl)
theorem Fits.cell {t t' : TV} (h1 : t.cells = [t.pv]) (h2 : t'.cells = [t'.pv]) (hw : t'.wf) (hs : t'.stores = true) (h : PLe t.pv t'.pv) : Fits t t' :=
 ⟨hw, fun _ => hs, h, by rw [h1, h2]; exact z12u h⟩
theorem z1s5 {f : FuncId} {ps qs : List PV} (h : CLe ps qs) : PLe (.fn f ps) (.fn f qs) := by
 intro w c v hg hv
 simp only [VR] at hv ⊢
 obtain ⟨cv, h1, h2, h3⟩ := hv
 exact ⟨cv, h1, by rw [← h.1]; exact h2, zbd hg h h3⟩
theorem z1ka {ps qs : List PV} (h : CLe ps qs) : PLe (.tup ps) (.tup qs) := by
 intro w c v hg hv
 simp only [VR] at hv ⊢
 obtain ⟨cv, h1, h2, h3⟩ := hv
 exact ⟨cv, h1, by rw [← h.1]; exact h2, zbd hg h h3⟩
theorem z1r0 {ps qs : List PV} (h : CLe ps qs) (hl : Leafs qs) : PLe (.fz ps) (.fz qs) := by
 intro w c v hg hv
 simp only [VR] at hv ⊢
 obtain ⟨a, h1, h2, _, h3⟩ := hv
 exact ⟨a, h1, by rw [← h.1]; exact h2, hl, zbd hg h h3⟩
structure FitsL (ts ts' : List TV) : Prop where
 wf : TV.wfs ts'
 len : ts'.length = ts.length
 cells : CLe (TV.cellsL ts) (TV.cellsL ts')
 pvs : CLe (TV.pvs ts) (TV.pvs ts')
 leafs : Leafs (TV.cellsL ts) → Leafs (TV.cellsL ts')
mutual
theorem z18b {lens : Nat → Nat} : ∀ (q : Pat) (t : TV) {ls ss : List TV} (rest : List TV), t.wf → z0n q t = some ls → SldL ls ss → GuardsOK lens (zgb q t) → ∃ t', fillP lens q (ss ++ rest) = (t', rest) ∧ Fits t t'
 | .d u, t, ls, ss, rest, hw, hl, hs, hg => by
   simp only [z0n, Option.some.injEq] at hl
   subst hl
   obtain ⟨h1, h2⟩ := hs
   cases ss with
   | nil => simp at h1
   | cons s ss =>
     cases ss with
     | cons _ _ => simp at h1
     | nil =>
       have h := h2 0 t s rfl rfl
       refine ⟨s, by simp only [List.cons_append, List.nil_append, fillP], h.wf, fun _ => ?_, h.pv, h.cells⟩
       obtain ⟨u', y, rfl⟩ := h.data
       rfl
 | .fs u, t, ls, ss, rest, hw, hl, hs, hg => by
   have key : ∀ (u' : U) (l : List u'.T), (∀ x, x ∈ l → wfU u' x) → ls = [.v (.sl u') l] → PLe t.pv (TV.fsl u' l).pv → t.cells = [t.pv] → ∃ t', fillP lens (.fs u) (ss ++ rest) = (t', rest) ∧ Fits t t' := by
     intro u' l hwl he hp hc
     subst he
     obtain ⟨h1, h2⟩ := hs
     cases ss with
     | nil => simp at h1
     | cons s ss =>
       cases ss with
       | cons _ _ => simp at h1
       | nil =>
         have h := (h2 0 _ s rfl rfl).same _ _ rfl
         subst h
         exact ⟨.fsl u' l, by simp only [List.cons_append, List.nil_append, fillP], .cell hc rfl (by simp only [TV.wf]; exact hwl) rfl hp⟩
   cases t <;> (try simp only [z0n] at hl) <;> first | (cases hl; done) | skip
   · simp only [Option.some.injEq] at hl
     refine key u [] (fun x hx => by cases hx) hl.symm ?_ rfl
     simp only [TV.pv, rowU, List.length_nil, List.flatMap_nil]; exact PLe.refl _
   · simp only [Option.some.injEq] at hl
     simp only [TV.wf] at hw
     exact key _ _ hw hl.symm (PLe.refl _) rfl
 | .rf q, t, ls, ss, rest, hw, hl, hs, hg => by
   cases t <;> (try simp only [z0n] at hl) <;> first | (cases hl; done) | skip
   rename_i t
   simp only [TV.wf] at hw
   simp only [zgb] at hg
   obtain ⟨t', h1, h2⟩ := z18b q t rest hw.1 hl hs hg
   have hlf := h2.leafs hw.2
   refine ⟨.rf t', by simp only [fillP, h1], .cell rfl rfl (by simp only [TV.wf]; exact ⟨h2.wf, hlf⟩) rfl ?_⟩
   simp only [TV.pv]
   exact z1r0 h2.cells hlf
 | .pt j r p, t, ls, ss, rest, hw, hl, hs, hg => by
   cases t <;> (try simp only [z0n] at hl) <;> first | (cases hl; done) | skip
   rename_i b r' p'
   cases hc : Nat.beq j b && r.beq r' && z9c p p' with
   | false => rw [hc] at hl; cases hl
   | true =>
     rw [hc] at hl
     cases hl
     simp only [Bool.and_eq_true] at hc
     have e1 := Nat.eq_of_beq_eq_true hc.1.1
     have e2 := Rt.beq_eq hc.1.2
     have e3 := zvj hc.2
     subst e1; subst e2; subst e3
     have : ss = [] := List.eq_nil_of_length_eq_zero hs.1.symm
     subst this
     exact ⟨_, by simp only [fillP, List.nil_append], Fits.refl hw⟩
 | .wa j r p u lo n, t, ls, ss, rest, hw, hl, hs, hg => by
   cases t <;> (try simp only [z0n] at hl) <;> first | (cases hl; done) | skip
   rename_i b r' p' u' lo' n'
   cases hc : Nat.beq j b && r.beq r' && z9c p p' && u.beq u' && Nat.beq lo lo' && Nat.beq n n' with
   | false => rw [hc] at hl; cases hl
   | true =>
     rw [hc] at hl
     cases hl
     simp only [Bool.and_eq_true] at hc
     obtain ⟨⟨⟨⟨⟨c1, c2⟩, c3⟩, c4⟩, c5⟩, c6⟩ := hc
     have e1 := Nat.eq_of_beq_eq_true c1
     have e2 := Rt.beq_eq c2
     have e3 := zvj c3
     have e4 := U.beq_eq c4
     have e5 := Nat.eq_of_beq_eq_true c5
     have e6 := Nat.eq_of_beq_eq_true c6
     subst e1; subst e2; subst e3; subst e4; subst e5; subst e6
     have : ss = [] := List.eq_nil_of_length_eq_zero hs.1.symm
     subst this
     exact ⟨_, by simp only [fillP, List.nil_append], Fits.refl hw⟩
 | .wn j u, t, ls, ss, rest, hw, hl, hs, hg => by
   cases t <;> (try simp only [z0n] at hl) <;> first | (cases hl; done) | skip
   · cases hl
     have : ss = [] := List.eq_nil_of_length_eq_zero hs.1.symm
     subst this
     have hn := hg j 0 (by simp [zgb])
     refine ⟨.os j (.row u.canon) [] u 0 (lens j), by simp only [fillP, List.nil_append], .cell rfl rfl (by simp only [TV.wf]) rfl ?_⟩
     simp only [TV.pv, ← hn]
     intro w c v _ hv
     simp only [VR] at hv ⊢
     rcases hv with ⟨h1, _⟩ | ⟨ad, cap, h1, _, _, h2, _⟩
     · exact .inl ⟨⟨none, h1⟩, trivial⟩
     · have : cap = 0 := h2
       exact .inl ⟨⟨_, by rw [h1, this]⟩, trivial⟩
   · rename_i b r p u' lo n
     cases p with
     | cons _ _ => simp only [z0n] at hl; cases hl
     | nil =>
       simp only [z0n] at hl
       cases hc : Nat.beq j b && u.beq u' && Nat.beq lo 0 with
       | false => rw [hc] at hl; cases hl
       | true =>
         rw [hc] at hl
         cases hl
         simp only [Bool.and_eq_true] at hc
         have e1 := Nat.eq_of_beq_eq_true hc.1.1
         have e2 := U.beq_eq hc.1.2
         have e3 := Nat.eq_of_beq_eq_true hc.2
         subst e1; subst e2; subst e3
         have : ss = [] := List.eq_nil_of_length_eq_zero hs.1.symm
         subst this
         have hn := hg j n (by simp [zgb])
         subst hn
         refine ⟨.os j (.row u.canon) [] u 0 (lens j), by simp only [fillP, List.nil_append], .cell rfl rfl (by simp only [TV.wf]) rfl ?_⟩
         simp only [TV.pv, z1kf, Nat.zero_mul, Nat.add_zero]
         exact PLe.refl _
 | .ws j u, t, ls, ss, rest, hw, hl, hs, hg => by
   have key : ∀ l : List Bool, ls = [.v (.sl .bool) l] → PLe t.pv (TV.os j (.row u.canon) [] u 0 l.length).pv → t.cells = [t.pv] → ∃ t', fillP lens (.ws j u) (ss ++ rest) = (t', rest) ∧ Fits t t' := by
     intro l he hp hc
     subst he
     obtain ⟨h1, h2⟩ := hs
     cases ss with
     | nil => simp at h1
     | cons s ss =>
       cases ss with
       | cons _ _ => simp at h1
       | nil =>
         have h := (h2 0 _ s rfl rfl).same _ _ rfl
         subst h
         exact ⟨.os j (.row u.canon) [] u 0 l.length, by simp only [List.cons_append, List.nil_append, fillP], .cell hc rfl (by simp only [TV.wf]) rfl hp⟩
   cases t <;> (try simp only [z0n] at hl) <;> first | (cases hl; done) | skip
   · simp only [Option.some.injEq] at hl
     refine key [] hl.symm ?_ rfl
     simp only [TV.pv, List.length_nil]
     intro w c v _ hv
     simp only [VR] at hv ⊢
     rcases hv with ⟨h1, _⟩ | ⟨ad, cap, h1, _, _, h2, _⟩
     · exact .inl ⟨⟨none, h1⟩, trivial⟩
     · have : cap = 0 := h2
       exact .inl ⟨⟨_, by rw [h1, this]⟩, trivial⟩
   · rename_i b r p u' lo n
     cases p with
     | cons _ _ => simp only [z0n] at hl; cases hl
     | nil =>
       simp only [z0n] at hl
       cases hc : Nat.beq j b && u.beq u' && Nat.beq lo 0 with
       | false => rw [hc] at hl; cases hl
       | true =>
         rw [hc] at hl
         simp only [cond_true, Option.some.injEq] at hl
         simp only [Bool.and_eq_true] at hc
         have e1 := Nat.eq_of_beq_eq_true hc.1.1
         have e2 := U.beq_eq hc.1.2
         have e3 := Nat.eq_of_beq_eq_true hc.2
         subst e1; subst e2; subst e3
         refine key _ hl.symm ?_ rfl
         simp only [TV.pv, z1kf, Nat.zero_mul, Nat.add_zero, List.length_replicate]
         exact PLe.refl _
 | .ag l, t, ls, ss, rest, hw, hl, hs, hg => by
   have key : ∀ ts : List TV, TV.wfs ts → ts ≠ [] → Leafs (TV.cellsL ts) → z3w l ts = some ls → GuardsOK lens (zcn l ts) → t.cells = TV.cellsL ts → t.pv = .agg (TV.cellsL ts) → ∃ t', fillP lens (.ag l) (ss ++ rest) = (t', rest) ∧ Fits t t' := by
     intro ts h1 h2 h3 h4 h5 h6 h7
     obtain ⟨ts', g1, g2⟩ := zhk l ts rest h1 h4 hs h5
     have hlf := g2.leafs h3
     have hne : ts' ≠ [] := fun e => h2 (List.eq_nil_of_length_eq_zero (by rw [← g2.len, e]; rfl))
     refine ⟨.agg ts', by simp only [fillP, g1], by simp only [TV.wf]; exact ⟨hne, g2.wf, hlf⟩, fun _ => rfl, ?_, ?_⟩
     · rw [h7]; simp only [TV.pv]; exact z18p g2.cells hlf
     · rw [h6, zde]; exact g2.cells
   cases t <;> (try simp only [z0n] at hl) <;> first | (cases hl; done) | skip
   · rename_i u x
     cases u <;> (try simp only [z0n] at hl) <;> first | (cases hl; done) | skip
     rename_i us
     simp only [TV.wf, wfU] at hw
     obtain ⟨h1, h2, h3, h4⟩ := z13k us x hw
     refine key (zbz us x) h1 h3 (by rw [h2]; exact zkq us x hw) hl (by simpa only [zgb] using hg) (by rw [h2, zrm]) (by rw [h2]; simp only [TV.pv, pvU, cellU])
   · rename_i ts
     simp only [TV.wf] at hw
     exact key ts hw.2.1 hw.1 hw.2.2 hl (by simpa only [zgb] using hg) (zde ts) (by simp only [TV.pv])
 | .tu l, t, ls, ss, rest, hw, hl, hs, hg => by
   cases t <;> (try simp only [z0n] at hl) <;> first | (cases hl; done) | skip
   rename_i ts
   simp only [TV.wf] at hw
   simp only [zgb] at hg
   obtain ⟨ts', g1, g2⟩ := zhk l ts rest hw hl hs hg
   refine ⟨.tup ts', by simp only [fillP, g1], by simp only [TV.wf]; exact g2.wf, (fun h => by cases h), ?_, ?_⟩
   · simp only [TV.pv]; exact z1ka g2.pvs
   · simp only [TV.cells, TV.pv, cellsOf]; exact z12u (z1ka g2.pvs)
 | .fn f l, t, ls, ss, rest, hw, hl, hs, hg => by
   cases t <;> (try simp only [z0n] at hl) <;> first | (cases hl; done) | skip
   rename_i f' ts
   cases hc : Nat.beq f f' with
   | false => rw [hc] at hl; cases hl
   | true =>
     rw [hc] at hl
     simp only [cond_true] at hl
     have e := Nat.eq_of_beq_eq_true hc
     subst e
     simp only [TV.wf] at hw
     simp only [zgb] at hg
     obtain ⟨ts', g1, g2⟩ := zhk l ts rest hw hl hs hg
     refine ⟨.fn f ts', by simp only [fillP, g1], .cell rfl rfl (by simp only [TV.wf]; exact g2.wf) rfl ?_⟩
     simp only [TV.pv]; exact z1s5 g2.pvs
 | .c t0, t, ls, ss, rest, hw, hl, hs, hg => by
   simp only [z0n] at hl
   cases hc : tvBeq t0 t with
   | false => rw [hc] at hl; cases hl
   | true =>
     rw [hc] at hl
     cases hl
     have e := z1qi hc
     subst e
     have : ss = [] := List.eq_nil_of_length_eq_zero hs.1.symm
     subst this
     exact ⟨_, by simp only [fillP, List.nil_append], Fits.refl hw⟩
 | .on, t, ls, ss, rest, hw, hl, hs, hg => by
   simp only [z0n] at hl
   cases hc : t.leafB with
   | false => rw [hc] at hl; cases hl
   | true =>
     rw [hc] at hl
     cases hl
     have : ss = [] := List.eq_nil_of_length_eq_zero hs.1.symm
     subst this
     obtain ⟨h1, h2⟩ := z1g3 hw hc
     refine ⟨.one, by simp only [fillP, List.nil_append], .cell h2 rfl zxf rfl ?_⟩
     intro w c v _ hv
     simp only [TV.pv, VR]
     exact z13t h1 hv
theorem zhk {lens : Nat → Nat} : ∀ (l : List Pat) (ts : List TV) {ls ss : List TV} (rest : List TV), TV.wfs ts → z3w l ts = some ls → SldL ls ss → GuardsOK lens (zcn l ts) → ∃ ts', fillL lens l (ss ++ rest) = (ts', rest) ∧ FitsL ts ts'
 | [], [], ls, ss, rest, hw, hl, hs, hg => by
   simp only [z3w, Option.some.injEq] at hl
   subst hl
   have : ss = [] := List.eq_nil_of_length_eq_zero hs.1.symm
   subst this
   exact ⟨[], by simp only [fillL, List.nil_append], by simp only [TV.wfs], rfl, CLe.refl _, CLe.refl _, id⟩
 | q :: l, t :: ts, ls, ss, rest, hw, hl, hs, hg => by
   simp only [z3w] at hl
   simp only [TV.wfs] at hw
   simp only [zcn] at hg
   split at hl
   · rename_i a b ha hb
     cases hl
     obtain ⟨s1, s2⟩ := hs.split
     obtain ⟨g1, g2⟩ := hg.split
     obtain ⟨t', h1, h2⟩ := z18b q t (ss.drop a.length ++ rest) hw.1 ha s1 g1
     obtain ⟨ts', h3, h4⟩ := zhk l ts rest hw.2 hb s2 g2
     refine ⟨t' :: ts', ?_, by simp only [TV.wfs]; exact ⟨h2.wf, h4.wf⟩, by simp [h4.len], ?_, ?_, fun hf => ?_⟩
     · have e : ss ++ rest = ss.take a.length ++ (ss.drop a.length ++ rest) := by rw [← List.append_assoc, List.take_append_drop]
       simp only [fillL]
       rw [e, h1]
       simp only [h3]
     · rw [z2q, z2q]; exact h2.cells.append h4.cells
     · simp only [TV.pvs]; exact CLe.cons h2.pv h4.pvs
     · rw [z2q] at hf ⊢
       intro p hp
       rcases List.mem_append.1 hp with hp | hp
       · exact h2.leafs (fun x hx => hf x (List.mem_append_left _ hx)) p hp
       · exact h4.leafs (fun x hx => hf x (List.mem_append_right _ hx)) p hp
   · cases hl
 | [], _ :: _, _, _, _, _, hl, _, _ => by simp [z3w] at hl
 | _ :: _, [], _, _, _, _, hl, _, _ => by simp [z3w] at hl
end
inductive HPat where
 | gone
 | var (e : TypeId) (q : Pat)
 | row (e : TypeId) (u : U)
def HPat.codes : HPat → List U
 | .gone => []
 | .var _ q => q.codes
 | .row _ u => [.sl u]
def z1io : List HPat → List U
 | [] => []
 | h :: l => h.codes ++ z1io l
def z12s : HPat → TOb → Option (List TV)
 | .gone, .gone => some []
 | .var e q, .ob e' (.var t) => bif Nat.beq e e' then z0n q t else none
 | .row e _, .ob e' (.row u l) => bif Nat.beq e e' then some [.v (.sl u) l] else none
 | .row e _, .ob e' (.var (.v (.arr _ u) l)) => bif Nat.beq e e' then some [.v (.sl u) l] else none
 | _, _ => none
def z9y : List HPat → List TOb → Option (List TV)
 | [], [] => some []
 | h :: l, o :: os => match z12s h o, z9y l os with
   | some a, some b => some (a ++ b)
   | _, _ => none
 | _, _ => none
def z1du : HPat → TOb → List (Nat × Nat)
 | .var _ q, .ob _ (.var t) => zgb q t
 | _, _ => []
def zld : List HPat → List TOb → List (Nat × Nat)
 | h :: l, o :: os => z1du h o ++ zld l os
 | _, _ => []
def fillH (lens : Nat → Nat) : HPat → List TV → TOb × List TV
 | .gone, ss => (.gone, ss)
 | .var e q, ss => match fillP lens q ss with | (t, r) => (.ob e (.var t), r)
 | .row e _, .v (.sl u) l :: ss => (.ob e (.row u l), ss)
 | .row _ _, ss => (.gone, ss)
def zqp (lens : Nat → Nat) : List HPat → List TV → List TOb
 | [], _ => []
 | h :: l, ss => match fillH lens h ss with | (o, r) => o :: zqp lens l r
def lensH : List HPat → List TV → List Nat
 | [], _ => []
 | .gone :: l, ss => 0 :: lensH l ss
 | .var _ q :: l, ss => 0 :: lensH l (ss.drop q.codes.length)
 | .row _ _ :: l, .v (.sl u) x :: ss => List.length x :: lensH l ss
 | .row _ _ :: l, ss => 0 :: lensH l ss
def getN : List Nat → Nat → Nat
 | [], _ => 0
 | n :: _, 0 => n
 | _ :: l, j + 1 => getN l j
theorem z1em : ∀ (l : List Nat) (j : Nat), getN l j = l.getD j 0
 | [], j => by cases j <;> rfl
 | n :: l, 0 => rfl
 | n :: l, j + 1 => by simp only [getN, z1em l j]; rfl
def FitsO : TOb → TOb → Prop
 | .ob e o, .ob e' o' => e = e' ∧ o'.wf ∧ CLe o.cells o'.cells ∧ Leafs o'.cells
 | .gone, .gone => True
 | _, _ => False
theorem z1l9 {lens : Nat → Nat} {h : HPat} {o : TOb} {ls ss : List TV} (rest : List TV) (hw : o.wf) (hl : z12s h o = some ls) (hs : SldL ls ss) (hg : GuardsOK lens (z1du h o)) : ∃ o', fillH lens h (ss ++ rest) = (o', rest) ∧ FitsO o o' := by
 have row : ∀ (e : TypeId) (u' u : U) (l : List u.T) (ob : Ob), (∀ x, x ∈ l → wfU u x) → ob.cells = rowU u l → ls = [.v (.sl u) l] → ∃ o', fillH lens (.row e u') (ss ++ rest) = (o', rest) ∧ FitsO (.ob e ob) o' := by
   intro e u' u l ob hwl hc he
   subst he
   obtain ⟨h1, h2⟩ := hs
   cases ss with
   | nil => simp at h1
   | cons s ss =>
     cases ss with
     | cons _ _ => simp at h1
     | nil =>
       have h := (h2 0 _ s rfl rfl).same _ _ rfl
       subst h
       refine ⟨.ob e (.row u l), by simp only [List.cons_append, List.nil_append, fillH], rfl, hwl, ?_, z3z hwl⟩
       rw [hc]; exact CLe.refl _
 unfold z12s at hl
 split at hl
 · cases hl
   have : ss = [] := List.eq_nil_of_length_eq_zero hs.1.symm
   subst this
   exact ⟨.gone, by simp only [fillH, List.nil_append], trivial⟩
 · rename_i e q e' t
   cases hc : Nat.beq e e' with
   | false => rw [hc] at hl; cases hl
   | true =>
     rw [hc] at hl
     have e1 := Nat.eq_of_beq_eq_true hc
     subst e1
     obtain ⟨t', h1, h2⟩ := z18b q t rest hw.1 hl hs (by simpa only [z1du] using hg)
     exact ⟨.ob e (.var t'), by simp only [fillH, h1], rfl, ⟨h2.wf, h2.st hw.2⟩, h2.cells, z4z h2.wf (h2.st hw.2)⟩
 · rename_i e u' e' u l
   cases hc : Nat.beq e e' with
   | false => rw [hc] at hl; cases hl
   | true =>
     rw [hc] at hl
     have e1 := Nat.eq_of_beq_eq_true hc
     subst e1
     cases hl
     exact row e u' u l _ hw rfl rfl
 · rename_i e u' e' m u l
   cases hc : Nat.beq e e' with
   | false => rw [hc] at hl; cases hl
   | true =>
     rw [hc] at hl
     have e1 := Nat.eq_of_beq_eq_true hc
     subst e1
     cases hl
     obtain ⟨h1, h2, _⟩ := zw6 hw.1
     exact row e u' u l _ h1 h2 rfl
 · cases hl
theorem z10r {lens : Nat → Nat} : ∀ {hs : List HPat} {os : List TOb} {ls ss : List TV} (rest : List TV), (∀ o, o ∈ os → o.wf) → z9y hs os = some ls → SldL ls ss → GuardsOK lens (zld hs os) →
   (zqp lens hs (ss ++ rest)).length = os.length ∧ ∀ (i : Nat) o o', os[i]? = some o → (zqp lens hs (ss ++ rest))[i]? = some o' → FitsO o o'
 | [], [], ls, ss, rest, _, _, _, _ => ⟨rfl, fun i o o' h => by simp at h⟩
 | h :: hs, o :: os, ls, ss, rest, hw, hl, hsl, hg => by
   simp only [z9y] at hl
   simp only [zld] at hg
   split at hl
   · rename_i a b ha hb
     cases hl
     obtain ⟨s1, s2⟩ := hsl.split
     obtain ⟨g1, g2⟩ := hg.split
     obtain ⟨o', h1, h2⟩ := z1l9 (ss.drop a.length ++ rest) (hw o (by simp)) ha s1 g1
     obtain ⟨h3, h4⟩ := z10r (hs := hs) rest (fun o ho => hw o (by simp [ho])) hb s2 g2
     have e : ss ++ rest = ss.take a.length ++ (ss.drop a.length ++ rest) := by rw [← List.append_assoc, List.take_append_drop]
     have e2 : zqp lens (h :: hs) (ss ++ rest) = o' :: zqp lens hs (ss.drop a.length ++ rest) := by
       simp only [zqp]
       rw [e, h1]
     rw [e2]
     refine ⟨by simp [h3], fun i x x' hx hx' => ?_⟩
     cases i with
     | zero => simp at hx hx'; subst hx; subst hx'; exact h2
     | succ i => exact h4 i x x' (by simpa using hx) (by simpa using hx')
   · cases hl
 | [], _ :: _, _, _, _, _, hl, _, _ => by simp [z9y] at hl
 | _ :: _, [], _, _, _, _, hl, _, _ => by simp [z9y] at hl
def zlq {R : Type} (lens : Nat → Nat) : List (Nat × Nat) → Option R → Option R
 | [], k => k
 | (j, n) :: gs, k => bif Nat.beq n (lens j) then zlq lens gs k else none
theorem zsc {R : Type} {lens : Nat → Nat} : ∀ {gs : List (Nat × Nat)} {k : Option R} {r : R}, zlq lens gs k = some r → k = some r ∧ GuardsOK lens gs
 | [], k, r, h => ⟨h, fun j n hm => by cases hm⟩
 | (j, n) :: gs, k, r, h => by
   simp only [zlq] at h
   cases hc : Nat.beq n (lens j) with
   | false => rw [hc] at h; cases h
   | true =>
     rw [hc] at h
     obtain ⟨h1, h2⟩ := zsc h
     refine ⟨h1, fun j' n' hm => ?_⟩
     rcases List.mem_cons.1 hm with hm | hm
     · cases hm; exact Nat.eq_of_beq_eq_true hc
     · exact h2 j' n' hm
mutual
theorem z17i : ∀ (q : Pat) (t : TV) {ls : List TV}, t.wf → z0n q t = some ls → ∀ x, x ∈ ls → x.wf
 | .d u, t, ls, hw, h => by simp only [z0n, Option.some.injEq] at h; subst h; intro x hx; simp at hx; subst hx; exact hw
 | .fs u, t, ls, hw, h => by
   cases t <;> (try simp only [z0n] at h) <;> first | (cases h; done) | skip
   · simp only [Option.some.injEq] at h; subst h
     intro x hx; simp at hx; subst hx
     simp only [TV.wf, wfU]; intro y hy; cases hy
   · simp only [Option.some.injEq] at h; subst h
     intro x hx; simp at hx; subst hx
     simp only [TV.wf] at hw
     simp only [TV.wf, wfU]; exact hw
 | .rf q, t, ls, hw, h => by
   cases t <;> (try simp only [z0n] at h) <;> first | (cases h; done) | skip
   simp only [TV.wf] at hw
   exact z17i q _ hw.1 h
 | .pt j r p, t, ls, hw, h => by
   cases t <;> (try simp only [z0n] at h) <;> first | (cases h; done) | skip
   rename_i b r' p'
   cases hc : Nat.beq j b && r.beq r' && z9c p p' <;> rw [hc] at h <;> cases h
   intro x hx; cases hx
 | .wa j r p u lo n, t, ls, hw, h => by
   cases t <;> (try simp only [z0n] at h) <;> first | (cases h; done) | skip
   rename_i b r' p' u' lo' n'
   cases hc : Nat.beq j b && r.beq r' && z9c p p' && u.beq u' && Nat.beq lo lo' && Nat.beq n n' <;> rw [hc] at h <;> cases h
   intro x hx; cases hx
 | .wn j u, t, ls, hw, h => by
   cases t <;> (try simp only [z0n] at h) <;> first | (cases h; done) | skip
   · cases h; intro x hx; cases hx
   · rename_i b r p u' lo n
     cases p with
     | cons _ _ => simp only [z0n] at h; cases h
     | nil =>
       simp only [z0n] at h
       cases hc : Nat.beq j b && u.beq u' && Nat.beq lo 0 <;> rw [hc] at h <;> cases h
       intro x hx; cases hx
 | .ws j u, t, ls, hw, h => by
   cases t <;> (try simp only [z0n] at h) <;> first | (cases h; done) | skip
   · simp only [Option.some.injEq] at h; subst h
     intro x hx; simp at hx; subst hx
     simp only [TV.wf, wfU]; intro y hy; trivial
   · rename_i b r p u' lo n
     cases p with
     | cons _ _ => simp only [z0n] at h; cases h
     | nil =>
       simp only [z0n] at h
       cases hc : Nat.beq j b && u.beq u' && Nat.beq lo 0 <;> rw [hc] at h <;> first | (cases h; done) | skip
       simp only [cond_true, Option.some.injEq] at h
       subst h
       intro x hx; simp at hx; subst hx
       simp only [TV.wf, wfU]; intro y hy; trivial
 | .ag l, t, ls, hw, h => by
   cases t <;> (try simp only [z0n] at h) <;> first | (cases h; done) | skip
   · rename_i u x
     cases u <;> (try simp only [z0n] at h) <;> first | (cases h; done) | skip
     rename_i us
     simp only [TV.wf, wfU] at hw
     exact zex l _ (z13k us x hw).1 h
   · simp only [TV.wf] at hw
     exact zex l _ hw.2.1 h
 | .tu l, t, ls, hw, h => by
   cases t <;> (try simp only [z0n] at h) <;> first | (cases h; done) | skip
   simp only [TV.wf] at hw
   exact zex l _ hw h
 | .fn f l, t, ls, hw, h => by
   cases t <;> (try simp only [z0n] at h) <;> first | (cases h; done) | skip
   rename_i f' ts
   cases hc : Nat.beq f f' <;> rw [hc] at h <;> first | (cases h; done) | skip
   simp only [TV.wf] at hw
   exact zex l _ hw h
 | .c t0, t, ls, hw, h => by
   simp only [z0n] at h
   cases hc : tvBeq t0 t <;> rw [hc] at h <;> cases h
   intro x hx; cases hx
 | .on, t, ls, hw, h => by
   simp only [z0n] at h
   cases hc : t.leafB <;> rw [hc] at h <;> cases h
   intro x hx; cases hx
theorem zex : ∀ (l : List Pat) (ts : List TV) {ls : List TV}, TV.wfs ts → z3w l ts = some ls → ∀ x, x ∈ ls → x.wf
 | [], [], ls, hw, h => by simp only [z3w, Option.some.injEq] at h; subst h; intro x hx; cases hx
 | q :: l, t :: ts, ls, hw, h => by
   simp only [z3w] at h
   simp only [TV.wfs] at hw
   split at h
   · rename_i a b ha hb
     cases h
     intro x hx
     rcases List.mem_append.1 hx with hx | hx
     · exact z17i q t hw.1 ha x hx
     · exact zex l ts hw.2 hb x hx
   · cases h
 | [], _ :: _, _, _, h => by simp [z3w] at h
 | _ :: _, [], _, _, h => by simp [z3w] at h
end
theorem z1kt {h : HPat} {o : TOb} {ls : List TV} (hw : o.wf) (hl : z12s h o = some ls) : ∀ x, x ∈ ls → x.wf := by
 unfold z12s at hl
 split at hl
 · cases hl; intro x hx; cases hx
 · rename_i e q e' t
   cases hc : Nat.beq e e' with
   | false => rw [hc] at hl; cases hl
   | true => rw [hc] at hl; exact z17i q t hw.1 hl
 · rename_i e u' e' u l
   cases hc : Nat.beq e e' with
   | false => rw [hc] at hl; cases hl
   | true =>
     rw [hc] at hl; cases hl
     intro x hx; simp at hx; subst hx
     simp only [TV.wf, wfU]; exact hw
 · rename_i e u' e' m u l
   cases hc : Nat.beq e e' with
   | false => rw [hc] at hl; cases hl
   | true =>
     rw [hc] at hl; cases hl
     intro x hx; simp at hx; subst hx
     simp only [TV.wf, wfU]; exact (zw6 hw.1).1
 · cases hl
theorem z10j : ∀ (hs : List HPat) (os : List TOb) {ls : List TV}, (∀ o, o ∈ os → o.wf) → z9y hs os = some ls → ∀ x, x ∈ ls → x.wf
 | [], [], ls, hw, h => by simp only [z9y, Option.some.injEq] at h; subst h; intro x hx; cases hx
 | p :: hs, o :: os, ls, hw, h => by
   simp only [z9y] at h
   split at h
   · rename_i a b ha hb
     cases h
     intro x hx
     rcases List.mem_append.1 hx with hx | hx
     · exact z1kt (hw o (by simp)) ha x hx
     · exact z10j hs os (fun o ho => hw o (by simp [ho])) hb x hx
   · cases h
 | [], _ :: _, _, _, h => by simp [z9y] at h
 | _ :: _, [], _, _, h => by simp [z9y] at h
end Go.Tm
set_option linter.unusedSimpArgs false
set_option linter.unusedVariables false
namespace Go.Tm
open Go.Ab
def RelT (w : World) (c : Cx) (σ : TS) (a : Act) : Prop := c.pn = σ.p ∧ RelC w c σ.flat a
theorem RelT.good {w : World} {c : Cx} {σ : TS} {a : Act} (h : RelT w c σ a) : Ab.Good w c (σ.H.map TOb.flat) [] := h.2.1
theorem RelT.noT {w : World} {c : Cx} {σ : TS} {a : Act} (h : RelT w c σ a) : c.T = [] := Ab.noT h.good
theorem ExtP.refl (p : Nat) (w : World) (c : Cx) : ExtP p w c w c := ⟨rfl, rfl, rfl, Nat.le_refl _, fun _ h => .inl h, fun _ _ _ => rfl, rfl, rfl, fun _ _ _ h => h, fun _ vs _ fr h => ⟨vs, fr, h, rfl⟩⟩
theorem ExtP.trans {p : Nat} {w w1 w2 : World} {c c1 c2 : Cx} (h : ExtP p w c w1 c1) (g : ExtP p w1 c1 w2 c2) : ExtP p w c w2 c2 where
 os := g.os.trans h.os
 tape := g.tape.trans h.tape
 output := g.output.trans h.output
 size := Nat.le_trans h.size g.size
 new := fun k x => (g.new k x).elim (h.new k) (fun y => .inr (Nat.le_trans h.size y))
 blocks := fun k hk hm => by
   rw [g.blocks k (Nat.lt_of_lt_of_le hk h.size) (fun x => (h.new k x).elim hm (fun y => absurd hk (Nat.not_lt.2 y))), h.blocks k hk hm]
 ok := g.ok.trans h.ok
 pn := g.pn.trans h.pn
 pin := fun b k hb hm => g.pin b k hb (h.pin b k hb hm)
 room := fun k vs e fr h0 => by
   obtain ⟨vs1, fr1, h1, e1⟩ := h.room k vs e fr h0
   obtain ⟨vs2, fr2, h2, e2⟩ := g.room k vs1 e fr1 h1
   exact ⟨vs2, fr2, h2, e2.trans e1⟩
theorem ext_p {p : Nat} {w w' : World} {c c' : Cx} (hT : c.T = []) (h : Ext w c w' c') : ExtP p w c w' c' :=
 ⟨h.os, h.tape, h.output, h.size, h.new, fun k hk hm => h.blocks k hk hm (fun i j => by rw [hT]; simp), h.ok, h.pn, fun b k _ hm => h.ids b k hm, h.room⟩
theorem RelT.p {p : Nat} {w w' : World} {c c' : Cx} {σ σ' : TS} {a a' : Act} (h : RelT w c σ a) (h' : RelT w' c' σ' a') (x : ExtP p w c w' c') : σ'.p = σ.p := by
 rw [← h'.1, x.pn, h.1]
def OLe : AObj → AObj → Prop
 | .row cs e, .row ds e' => e = e' ∧ CLe cs ds ∧ Leafs ds
 | a, b => a = b
theorem Good.le {w : World} {c : Cx} {H H' : List AObj} {ts : List Bool} (g : Ab.Good w c H ts) (hl : H.length = H'.length) (h : ∀ (i : Nat) o o', H[i]? = some o → H'[i]? = some o' → OLe o o') : Ab.Good w c H' ts where
 len := by rw [g.len, hl]
 inj := g.inj
 obj := fun b o' ho' => by
   have hb : b < H.length := by rw [hl]; exact (List.getElem?_eq_some_iff.1 ho').1
   have ho := List.getElem?_eq_getElem hb
   have hob := g.obj b _ ho
   have hle := h b _ _ ho ho'
   generalize H[b] = o at hob hle
   cases o with
   | row cs e =>
     cases o' with
     | row ds e' =>
       obtain ⟨rfl, h1, h2⟩ := hle
       rcases hob with ⟨g1, g2⟩ | ⟨k, vs, fr, g1, g2, g3, g4, g5, g6⟩
       · exact .inl ⟨List.length_eq_zero_iff.1 (by rw [← h1.1, g1]; rfl), g2⟩
       · exact .inr ⟨k, vs, fr, g1, g2, g3, by rw [← h1.1]; exact g4, h2, zbd ⟨_, _, g⟩ h1 g6⟩
     | raw _ => simp [OLe] at hle
     | gone => simp [OLe] at hle
   | raw o => 
     have : o' = .raw o := by cases o' <;> simp [OLe] at hle ⊢; exact hle.symm
     subst this; exact hob
   | gone =>
     have : o' = .gone := by cases o' <;> simp [OLe] at hle ⊢
     subst this; exact hob
 tl := g.tl
 tal := g.tal
 tdead := g.tdead
 tok := g.tok
 tinj := g.tinj
 okn := g.okn
 okm := g.okm
 okt := g.okt
 oko := g.oko
 gl := g.gl
theorem z1a9 {o o' : TOb} (h : FitsO o o') : OLe o.flat o'.flat := by
 cases o <;> cases o' <;> first | exact h.elim | skip
 · obtain ⟨h1, h2, h3, h4⟩ := h
   exact ⟨h1, h3, h4⟩
 · rfl
theorem z1or {o : Ob} (h : o.wf) : Leafs o.cells := by
 cases o with
 | var t => exact z4z h.1 h.2
 | row u l => exact z3z h
def posO : List (Option Nat) → Nat → Nat → Option Nat
 | [], _, _ => none
 | some b' :: r, b, j => bif Nat.beq b' b then some j else posO r b (j + 1)
 | none :: r, b, j => posO r b (j + 1)
theorem z16e : ∀ {ρ : List (Option Nat)} {b j i : Nat}, posO ρ b j = some i → j ≤ i ∧ ρ[i - j]? = some (some b)
 | [], _, _, _, h => by simp [posO] at h
 | some b' :: r, b, j, i, h => by
   simp only [posO] at h
   cases hb : Nat.beq b' b with
   | true =>
     rw [hb] at h
     cases h
     rw [Nat.eq_of_beq_eq_true hb]
     exact ⟨Nat.le_refl _, by simp⟩
   | false =>
     rw [hb] at h
     obtain ⟨h1, h2⟩ := z16e h
     exact ⟨by omega, by rw [show i - j = (i - (j + 1)) + 1 by omega]; simpa using h2⟩
 | none :: r, b, j, i, h => by
   simp only [posO] at h
   obtain ⟨h1, h2⟩ := z16e h
   exact ⟨by omega, by rw [show i - j = (i - (j + 1)) + 1 by omega]; simpa using h2⟩
theorem zsv : ∀ {ρ : List (Option Nat)} {b j : Nat}, posO ρ b j = none → ∀ i : Nat, ρ[i]? ≠ some (some b)
 | [], _, _, _, i => by simp
 | some b' :: r, b, j, h, i => by
   simp only [posO] at h
   cases hb : Nat.beq b' b with
   | true => rw [hb] at h; cases h
   | false =>
     rw [hb] at h
     cases i with
     | zero =>
       intro e
       simp only [List.getElem?_cons_zero, Option.some.injEq] at e
       subst e
       rw [Nat.beq_refl] at hb; cases hb
     | succ i => simpa using zsv h i
 | none :: r, b, j, h, i => by
   simp only [posO] at h
   cases i with
   | zero => simp
   | succ i => simpa using zsv h i
def zpc : List (Option Nat) → Bool
 | [] => true
 | some b :: r => (match posO r b 0 with | none => true | some _ => false) && zpc r
 | none :: r => zpc r
theorem zub : ∀ {ρ : List (Option Nat)}, zpc ρ = true → ∀ i j b : Nat, ρ[i]? = some (some b) → ρ[j]? = some (some b) → i = j
 | [], _, i, j, b, h, _ => by simp at h
 | some b' :: r, h, i, j, b, hi, hj => by
   simp only [zpc, Bool.and_eq_true] at h
   have hn : posO r b' 0 = none := by
     have := h.1
     split at this
     · assumption
     · cases this
   have ih := zub h.2
   cases i with
   | zero =>
     simp only [List.getElem?_cons_zero, Option.some.injEq] at hi
     subst hi
     cases j with
     | zero => rfl
     | succ j => exact absurd (by simpa using hj) (zsv hn j)
   | succ i =>
     cases j with
     | zero =>
       simp only [List.getElem?_cons_zero, Option.some.injEq] at hj
       subst hj
       exact absurd (by simpa using hi) (zsv hn i)
     | succ j => rw [ih i j b (by simpa using hi) (by simpa using hj)]
 | none :: r, h, i, j, b, hi, hj => by
   simp only [zpc] at h
   have ih := zub h
   cases i with
   | zero => simp at hi
   | succ i =>
     cases j with
     | zero => simp at hj
     | succ j => rw [ih i j b (by simpa using hi) (by simpa using hj)]
def z1sc (p : Nat) (ρ : List (Option Nat)) : Bool := (List.range p).all fun b => match ρ[b]? with
 | some (some b') => Nat.beq b' b
 | _ => false
def zci (p : Nat) (ρ : List (Option Nat)) : Bool := zpc ρ && z1sc p ρ
theorem z1lo {p : Nat} {ρ : List (Option Nat)} (h : zci p ρ = true) : Names p ρ where
 inj := zub (by simp only [zci, Bool.and_eq_true] at h; exact h.1)
 pin := fun b hb => by
   simp only [zci, Bool.and_eq_true] at h
   have := List.all_eq_true.1 h.2 b (by simpa using hb)
   split at this
   · rename_i b' hb'; rw [hb', Nat.eq_of_beq_eq_true this]
   · cases this
def Ob.pureB : Ob → Bool
 | .row _ _ => true
 | .var (.v _ _) => true
 | .var _ => false
theorem z1r8 {o : Ob} (hw : o.wf) (h : o.pureB = true) : Pures o.cells := by
 cases o with
 | row u l => exact z7r hw
 | var t =>
   cases t <;> first | (cases h; done) | skip
   rename_i u x
   have hx : wfU u x := by simpa only [TV.wf] using hw.1
   simp only [Ob.cells]
   rw [z8k u x hx]; exact zd8 u x hx
def zay (p : Nat) (H : List TOb) (ρ : List (Option Nat)) (fz : List Nat) (b : Nat) : Fate :=
 match posO ρ b 0 with
 | some j => .to j
 | none => bif memN fz b && Nat.ble p b then (match H[b]? with
   | some (.ob _ o) => bif o.pureB then .fz o else .gone
   | _ => .gone) else .gone
theorem z1rj {p : Nat} {H : List TOb} {ρ : List (Option Nat)} {fz : List Nat} {b j : Nat} (h : (zay p H ρ fz b).name = some j) : ρ[j]? = some (some b) := by
 unfold zay at h
 cases hp : posO ρ b 0 with
 | some i =>
   rw [hp] at h
   simp only [Fate.name, Option.some.injEq] at h
   subst h
   simpa using (z16e hp).2
 | none =>
   rw [hp] at h
   simp only at h
   cases hc : memN fz b && Nat.ble p b with
   | false => rw [hc] at h; simp [Fate.name] at h
   | true =>
     rw [hc] at h
     simp only [cond_true] at h
     split at h
     · rename_i o _
       cases ho : o.pureB <;> rw [ho] at h <;> simp [Fate.name] at h
     · simp [Fate.name] at h
theorem z18n {p : Nat} {H : List TOb} {ρ : List (Option Nat)} {fz : List Nat} {b : Nat} {o : Ob} (h : zay p H ρ fz b = .fz o) : (∀ i : Nat, ρ[i]? ≠ some (some b)) ∧ p ≤ b ∧ o.pureB = true ∧ ∃ e, H[b]? = some (.ob e o) := by
 unfold zay at h
 cases hp : posO ρ b 0 with
 | some i => rw [hp] at h; cases h
 | none =>
   rw [hp] at h
   simp only at h
   cases hc : memN fz b && Nat.ble p b with
   | false => rw [hc] at h; simp at h
   | true =>
     rw [hc] at h
     simp only [cond_true] at h
     simp only [Bool.and_eq_true] at hc
     split at h
     · rename_i e o' he
       cases ho : o'.pureB with
       | false => rw [ho] at h; cases h
       | true =>
         rw [ho] at h
         cases h
         exact ⟨zsv hp, Nat.le_of_ble_eq_true hc.2, ho, e, he⟩
     · cases h
theorem z1cm {w : World} {c : Cx} {H : List TOb} (g : Ab.Good w c (H.map TOb.flat) []) (hw : ∀ o, o ∈ H → o.wf) {p : Nat} (hp : c.pn = p) {ρ : List (Option Nat)} (fz : List Nat) : MvH (zay p H ρ fz) w c w (reCx c ρ) where
 base := z1rd (Ab.noT g) fun b j h => z1rj h
 fzw := fun b o h => by
   obtain ⟨_, _, _, e, he⟩ := z18n h
   exact hw _ (List.mem_of_getElem? he)
 fz := fun b o k h hk => by
   obtain ⟨h1, h2, h3, e, he⟩ := z18n h
   have hwo := hw _ (List.mem_of_getElem? he)
   have hb : (H.map TOb.flat)[b]? = some (.row o.cells e) := by rw [List.getElem?_map, he]; rfl
   obtain ⟨vs, fr, h4, h5, h6, h7, h8⟩ := (g.obj b _ hb).row hk
   refine ⟨fun off n => .inr ⟨rfl, ObjC.lt g hk, fun hm => ?_, fun i j hT => ?_, g.oko b k (by omega) hk _⟩, vs, e, fr, h4, VRs.transfer (fun a n h => z16j h) _ (z1r8 hwo h3) h8⟩
   · obtain ⟨j, hj⟩ := List.mem_iff_getElem?.1 hm
     obtain ⟨b', h10, h11⟩ := zro hj
     have := g.inj b b' k hk h11
     subst this
     exact h1 j h10
   · simp only [reCx, Ab.noT g] at hT
     simp at hT
def newH (g : Nat → Fate) (H : List TOb) : List HPat → List (Option Nat) → List TOb
 | h :: hs, some b :: ρ => (match H[b]? with
   | some (.ob e (.var t)) => .ob e (.var (t.mv g))
   | some o => o
   | none => .gone) :: newH g H hs ρ
 | h :: hs, none :: ρ => (match h with
   | .row e u => .ob e (.row u [])
   | _ => .gone) :: newH g H hs ρ
 | _, _ => []
theorem zy3 {g : Nat → Fate} {H : List TOb} : ∀ {hs : List HPat} {ρ : List (Option Nat)}, hs.length = ρ.length → (newH g H hs ρ).length = ρ.length
 | [], [], _ => rfl
 | h :: hs, some b :: ρ, e => by simp only [newH, List.length_cons, zy3 (hs := hs) (ρ := ρ) (by simpa using e)]
 | h :: hs, none :: ρ, e => by simp only [newH, List.length_cons, zy3 (hs := hs) (ρ := ρ) (by simpa using e)]
 | [], _ :: _, e => by simp at e
 | _ :: _, [], e => by simp at e
theorem zod {g : Nat → Fate} {H : List TOb} : ∀ {hs : List HPat} {ρ : List (Option Nat)} {j : Nat} {o : TOb}, (newH g H hs ρ)[j]? = some o →
   (ρ[j]? = some none ∧ (o = .gone ∨ ∃ e u, o = .ob e (.row u []))) ∨ ∃ b, ρ[j]? = some (some b) ∧
     ((∃ e t, H[b]? = some (.ob e (.var t)) ∧ o = .ob e (.var (t.mv g))) ∨ (∃ e u l, H[b]? = some (.ob e (.row u l)) ∧ o = .ob e (.row u l)) ∨ ((H[b]? = none ∨ H[b]? = some .gone) ∧ o = .gone))
 | [], _, _, _, h => by simp [newH] at h
 | _ :: _, [], _, _, h => by simp [newH] at h
 | h :: hs, some b :: ρ, 0, o, e => by
   simp only [newH, List.getElem?_cons_zero, Option.some.injEq] at e
   refine .inr ⟨b, rfl, ?_⟩
   split at e
   · rename_i e' t he; exact .inl ⟨e', t, he, e.symm⟩
   · rename_i o' hne he
     cases o' with
     | gone => exact .inr (.inr ⟨.inr he, e.symm⟩)
     | ob e' ob =>
       cases ob with
       | var t => exact absurd rfl (hne e' t)
       | row u l => exact .inr (.inl ⟨e', u, l, he, e.symm⟩)
   · rename_i he; exact .inr (.inr ⟨.inl he, e.symm⟩)
 | h :: hs, none :: ρ, 0, o, e => by
   simp only [newH, List.getElem?_cons_zero, Option.some.injEq] at e
   refine .inl ⟨rfl, ?_⟩
   split at e
   · exact .inr ⟨_, _, e.symm⟩
   · exact .inl e.symm
 | h :: hs, some b :: ρ, j + 1, o, e => by
   simp only [newH, List.getElem?_cons_succ] at e ⊢
   exact zod e
 | h :: hs, none :: ρ, j + 1, o, e => by
   simp only [newH, List.getElem?_cons_succ] at e ⊢
   exact zod e
theorem z1m8 {w : World} {c : Cx} {σ : TS} {a : Act} (hr : RelT w c σ a) (hw : σ.wf) {ρ : List (Option Nat)} (hn : zci σ.p ρ = true) (fz : List Nat) {hs : List HPat} (hl : hs.length = ρ.length) (ts : List Nat) :
   RelT w (reCx c ρ) { n := σ.n, slots := ts.map fun t => (t, (σ.get t).mv (zay σ.p σ.H ρ fz)), H := newH (zay σ.p σ.H ρ fz) σ.H hs ρ, p := σ.p } a ∧
   (∀ w0 c0, ExtP σ.p w0 c0 w c → ExtP σ.p w0 c0 w (reCx c ρ)) := by
 have hN := z1lo hn
 have g := hr.good
 have M := z1cm g hw.H hr.1 (ρ := ρ) fz
 refine ⟨⟨hr.1, ?_, ?_⟩, fun w0 c0 hx => ⟨hx.os, hx.tape, hx.output, hx.size, fun k hk => hx.new k (z1i1 hk), hx.blocks, hx.ok, hx.pn, fun b k hb hm => z1e7 (hN.pin b hb) (hx.pin b k hb hm), hx.room⟩⟩
 · refine z1ri g (by rw [hr.1]; exact hN) (by simp only [TS.flat, List.length_map]; exact zy3 hl) fun j o ho => ?_
   simp only [TS.flat, List.getElem?_map] at ho
   cases hq : (newH (zay σ.p σ.H ρ fz) σ.H hs ρ)[j]? with
   | none => rw [hq] at ho; cases ho
   | some q =>
     rw [hq] at ho
     simp only [Option.map_some, Option.some.injEq] at ho
     subst ho
     rcases zod hq with ⟨h1, rfl | ⟨e, u, rfl⟩⟩ | ⟨b, h1, ⟨e, t, h2, rfl⟩ | ⟨e, u, l, h2, rfl⟩ | ⟨h2, rfl⟩⟩
     · exact .inl ⟨h1, .inl rfl⟩
     · exact .inl ⟨h1, .inr ⟨e, rfl⟩⟩
     · have hwt := hw.H _ (List.mem_of_getElem? h2)
       have m := zca M t hwt.1
       exact .inr (.inl ⟨b, t.cells, e, (t.mv (zay σ.p σ.H ρ fz)).cells, h1, by rw [List.getElem?_map, h2]; rfl, rfl, m.len, m.leafs (z4z hwt.1 hwt.2), fun fv hf => m.cells fv hf⟩)
     · have hwt := hw.H _ (List.mem_of_getElem? h2)
       exact .inr (.inl ⟨b, rowU u l, e, rowU u l, h1, by rw [List.getElem?_map, h2]; rfl, rfl, rfl, z3z hwt, fun fv hf => VRs.transfer (fun a n h => z16j h) _ (z7r hwt) hf⟩)
     · refine .inr (.inr ⟨b, h1, rfl, fun k hk => ?_⟩)
       have hlt : b < (σ.H.map TOb.flat).length := by rw [← g.len]; exact (List.getElem?_eq_some_iff.1 hk).1
       rcases h2 with h2 | h2
       · have := List.getElem?_eq_none_iff.1 h2; simp at hlt; omega
       · have := g.obj b .gone (by rw [List.getElem?_map, h2]; rfl)
         have this : c.m[b]? = some none := this
         rw [hk] at this; cases this
 · refine ⟨hr.2.2.1, fun t q hlk hlt => ?_⟩
   simp only [TS.flat] at hlk hlt
   rw [zfj] at hlk
   cases hlk' : lookT (ts.map fun t => (t, (σ.get t).mv (zay σ.p σ.H ρ fz))) t with
   | none => rw [hlk'] at hlk; cases hlk
   | some v =>
     rw [hlk'] at hlk
     simp only [Option.map_some, Option.some.injEq] at hlk
     subst hlk
     have hv : v = (σ.get t).mv (zay σ.p σ.H ρ fz) := by
       clear hlt
       induction ts with
       | nil => simp [lookT] at hlk'
       | cons s ts ih =>
         simp only [List.map_cons, lookT] at hlk'
         cases hb : Nat.beq s t with
         | true => rw [hb] at hlk'; rw [Nat.eq_of_beq_eq_true hb] at hlk'; simpa using hlk'.symm
         | false => rw [hb] at hlk'; exact ih (by simpa using hlk')
     subst hv
     have hsz : t < a.tmps.size := by rw [hr.2.2.1]; exact hlt
     have hev := hr.2.2.eval (.tmp t)
     simp only [AS.eval, zl2, Act.eval, Array.getD_eq_getD_getElem?, Array.getElem?_eq_getElem hsz, Option.getD_some] at hev
     exact ⟨a.tmps[t], by simp [hsz], (zca M _ (zya hw t)).pv _ hev⟩
end Go.Tm