import Derived.Test.YtpfjfldagldgnaaAb10to14
import Derived.DeepKeys
set_option linter.unusedSimpArgs false
set_option linter.unusedVariables false
namespace Go.Ab
def eqTy (P : Program) : Nat → TypeId → Bool
 | 0, _ => false
 | n + 1, t =>
   match P.underlying t with
   | some .bool | some (.int _) | some .string => true
   | some (.array k e) => eqTy P n e && P.cellsOf t == k * P.cellsOf e
   | some (.struct fs) => fs.toList.all (fun f => f.name != "_" && eqTy P n f.type) && zer P fs.toList 0 (P.cellsOf t) && !P.stoodInHeld t
   | _ => false
def z7u (P : Program) : Nat → TypeId → List Value → Prop
 | 0, _, _ => False
 | n + 1, t, cs =>
   match P.underlying t with
   | some .bool => ∃ b, cs = [.bool b]
   | some (.int k) => ∃ x, cs = [.int k x]
   | some .string => ∃ s, cs = [.string s]
   | some (.array k e) => cs.length = P.cellsOf t ∧ ∀ i, i < k → z7u P n e ((cs.drop (i * P.cellsOf e)).take (P.cellsOf e))
   | some (.struct fs) => cs.length = P.cellsOf t ∧ ∀ f, f ∈ fs.toList → z7u P n f.type ((cs.drop f.offset).take (P.cellsOf f.type))
   | _ => False
theorem z1ny {α : Type} {xs ys : List α} {n c : Nat} (hx : xs.length = n * c) (hy : ys.length = n * c) (h : ∀ i, i < n → (xs.drop (i * c)).take c = (ys.drop (i * c)).take c) : xs = ys := by
 refine List.ext_getElem? fun j => ?_
 by_cases hj : j < n * c
 · have hc : 0 < c := Nat.pos_of_ne_zero fun e => by subst e; simp at hj
   have hi : j / c < n := by rw [Nat.div_lt_iff_lt_mul hc]; exact hj
   have := congrArg (fun l => l[j % c]?) (h (j / c) hi)
   simp only [List.getElem?_take_of_lt (Nat.mod_lt j hc), List.getElem?_drop] at this
   have e : j / c * c + j % c = j := Nat.div_add_mod' j c
   rw [e] at this; exact this
 · rw [List.getElem?_eq_none (by omega), List.getElem?_eq_none (by omega)]
theorem z1ep {α : Type} {P : Program} {xs ys : List α} : ∀ {fs : List Field} {off n : Nat}, zer P fs off n = true → (∀ f, f ∈ fs → (xs.drop f.offset).take (P.cellsOf f.type) = (ys.drop f.offset).take (P.cellsOf f.type)) →
   ∀ j, off ≤ j → j < n → xs[j]? = ys[j]?
 | [], off, n, ht, _, j, h1, h2 => by simp [zer] at ht; omega
 | f :: fs, off, n, ht, h, j, h1, h2 => by
   simp only [zer, Bool.and_eq_true, beq_iff_eq] at ht
   obtain ⟨rfl, ht⟩ := ht
   by_cases hj : j < f.offset + P.cellsOf f.type
   · have := congrArg (fun l => l[j - f.offset]?) (h f (by simp))
     simp only [List.getElem?_take_of_lt (show j - f.offset < P.cellsOf f.type by omega), List.getElem?_drop] at this
     rw [show f.offset + (j - f.offset) = j by omega] at this; exact this
   · exact z1ep ht (fun g hg => h g (by simp [hg])) j (by omega) h2
section
variable {P : Program} (w : World)
theorem zzp {e : TypeId} {n off : Nat} {xs : Array Value} (ha : z7u P n e ((xs.toList.drop off).take (P.cellsOf e))) :
   ∃ a, (part e xs off).run P w = .ok a w ∧ a.formed P e = true ∧ a.cells.toList = (xs.toList.drop off).take (P.cellsOf e) := by
 cases n with
 | zero => cases ha
 | succ n =>
   simp only [z7u] at ha
   cases hu : P.underlying e with
   | none => rw [hu] at ha; cases ha
   | some kd =>
     rw [hu] at ha
     have agg : (match kd with | .array _ _ | .struct _ => true | _ => false) = true → ((xs.toList.drop off).take (P.cellsOf e)).length = P.cellsOf e →
         ∃ a, (part e xs off).run P w = .ok a w ∧ a.formed P e = true ∧ a.cells.toList = (xs.toList.drop off).take (P.cellsOf e) := fun hk hlen => by
       obtain ⟨i, hi⟩ := info_of_underlying hu
       have hl : (xs.extract off (off + P.cellsOf e)).toList = (xs.toList.drop off).take (P.cellsOf e) := by
         rw [Array.toList_extract]; simp [List.extract]
       have hs : (xs.extract off (off + P.cellsOf e)).size = P.cellsOf e := by rw [← Array.length_toList, hl, hlen]
       refine ⟨.agg (xs.extract off (off + P.cellsOf e)), ?_, ?_, hl⟩
       · cases kd <;> simp at hk <;> simp [part, isAgg, Go.run_underlying hu, Go.run_sizeOf w hi]
       · cases kd <;> simp at hk <;> simp [Value.formed, hu, hs]
     cases kd <;> simp only at ha
     · obtain ⟨b, hb⟩ := ha
       exact ⟨Value.bool b, by simp [part, isAgg, Go.run_underlying hu, getElem?_of_chunk hb], by simp [Value.formed, hu], by rw [hb]; rfl⟩
     · rename_i q
       obtain ⟨b, hb⟩ := ha
       exact ⟨Value.int q b, by simp [part, isAgg, Go.run_underlying hu, getElem?_of_chunk hb], by simp [Value.formed, hu], by rw [hb]; rfl⟩
     · obtain ⟨b, hb⟩ := ha
       exact ⟨Value.string b, by simp [part, isAgg, Go.run_underlying hu, getElem?_of_chunk hb], by simp [Value.formed, hu], by rw [hb]; rfl⟩
     · exact agg rfl ha.1
     · exact agg rfl ha.1
def EqS (P : Program) (dd n : Nat) (e : TypeId) : Prop :=
 ∀ (w : World) (a b : Value), a.formed P e = true → b.formed P e = true → z7u P n e a.cells.toList → z7u P n e b.cells.toList →
   ∃ r : Bool, (Op.equalIn dd e a b).run P w = .ok r w ∧ (r = true ↔ a.cells.toList = b.cells.toList)
theorem zzc {e : TypeId} {dd n off : Nat} (IH : EqS P dd n e) {xs ys : Array Value}
   (ha : z7u P n e ((xs.toList.drop off).take (P.cellsOf e))) (hb : z7u P n e ((ys.toList.drop off).take (P.cellsOf e))) :
   ∃ a b r, (part e xs off).run P w = .ok a w ∧ (part e ys off).run P w = .ok b w ∧ (Op.equalIn dd e a b).run P w = .ok r w ∧
     (r = true ↔ (xs.toList.drop off).take (P.cellsOf e) = (ys.toList.drop off).take (P.cellsOf e)) := by
 obtain ⟨a, p1, f1, c1⟩ := zzp w ha
 obtain ⟨b, p2, f2, c2⟩ := zzp w hb
 obtain ⟨r, hr, hiff⟩ := IH w a b f1 f2 (by rw [c1]; exact ha) (by rw [c2]; exact hb)
 exact ⟨a, b, r, p1, p2, hr, by rw [hiff, c1, c2]⟩
theorem zr0 (dd n : Nat) (xs ys : Array Value) : ∀ (fs : List Field), (∀ f ∈ fs, f.name ≠ "_" ∧ EqS P dd n f.type) →
   (∀ f ∈ fs, z7u P n f.type ((xs.toList.drop f.offset).take (P.cellsOf f.type))) → (∀ f ∈ fs, z7u P n f.type ((ys.toList.drop f.offset).take (P.cellsOf f.type))) →
   ∃ r : Bool, (Op.eqFields dd xs ys fs).run P w = .ok r w ∧ (r = true ↔ ∀ f ∈ fs, (xs.toList.drop f.offset).take (P.cellsOf f.type) = (ys.toList.drop f.offset).take (P.cellsOf f.type))
 | [], _, _, _ => ⟨true, by simp [Op.eqFields], by simp⟩
 | f :: fs, hall, ha, hb => by
   obtain ⟨hn, hp⟩ := hall f (by simp)
   obtain ⟨a, b, r, p1, p2, p3, hiff⟩ := zzc w hp (ha f (by simp)) (hb f (by simp))
   obtain ⟨r', hr', hiff'⟩ := zr0 dd n xs ys fs (fun g hg => hall g (by simp [hg])) (fun g hg => ha g (by simp [hg])) (fun g hg => hb g (by simp [hg]))
   simp only [Op.eqFields, hn, ne_eq, not_false_eq_true, if_true, Sem.run_bind, p1, p2, p3, Result.andThen_ok]
   cases r
   · exact ⟨false, by simp, ⟨fun h => (by cases h), fun h => hiff.2 (h f (by simp))⟩⟩
   · refine ⟨r', by simpa using hr', ?_⟩
     rw [hiff']
     exact ⟨fun h g hg => (List.mem_cons.1 hg).elim (fun e => by subst e; exact hiff.1 rfl) (h g), fun h g hg => h g (by simp [hg])⟩
theorem zsz (dd n : Nat) {e : TypeId} (IH : EqS P dd n e) (xs ys : Array Value) : ∀ (is : List Nat),
   (∀ i ∈ is, z7u P n e ((xs.toList.drop (i * P.cellsOf e)).take (P.cellsOf e))) → (∀ i ∈ is, z7u P n e ((ys.toList.drop (i * P.cellsOf e)).take (P.cellsOf e))) →
   ∃ r : Bool, (Op.eqItems dd e (P.cellsOf e) xs ys is).run P w = .ok r w ∧ (r = true ↔ ∀ i ∈ is, (xs.toList.drop (i * P.cellsOf e)).take (P.cellsOf e) = (ys.toList.drop (i * P.cellsOf e)).take (P.cellsOf e))
 | [], _, _ => ⟨true, by simp [Op.eqItems], by simp⟩
 | i :: is, ha, hb => by
   obtain ⟨a, b, r, p1, p2, p3, hiff⟩ := zzc w IH (ha i (by simp)) (hb i (by simp))
   obtain ⟨r', hr', hiff'⟩ := zsz dd n IH xs ys is (fun g hg => ha g (by simp [hg])) (fun g hg => hb g (by simp [hg]))
   simp only [Op.eqItems, Sem.run_bind, p1, p2, p3, Result.andThen_ok]
   cases r
   · exact ⟨false, by simp, ⟨fun h => (by cases h), fun h => hiff.2 (h i (by simp))⟩⟩
   · refine ⟨r', by simpa using hr', ?_⟩
     rw [hiff']
     exact ⟨fun h g hg => (List.mem_cons.1 hg).elim (fun e => by subst e; exact hiff.1 rfl) (h g), fun h g hg => h g (by simp [hg])⟩
end
theorem z17y {P : Program} (d : Nat) : ∀ (n : Nat) (t : TypeId), eqTy P n t = true → EqS P (d + n) n t
 | 0, _, h => by cases h
 | n + 1, t, hk => by
   intro w x y fx fy hx hy
   simp only [eqTy] at hk
   simp only [z7u] at hx hy
   cases hu : P.underlying t with
   | none => rw [hu] at hk; cases hk
   | some kd =>
     rw [hu] at hk hx hy
     cases kd <;> simp only [Bool.false_eq_true] at hk hx hy
     · obtain ⟨a, ha⟩ := hx
       obtain ⟨b, hb⟩ := hy
       have hxv : x = .bool a := by cases x <;> simp_all [Value.cells, Value.formed]
       have hyv : y = .bool b := by cases y <;> simp_all [Value.cells, Value.formed]
       subst hxv; subst hyv
       exact ⟨a == b, run_equalIn_bool w (d + n) t a b hu, by simp [Value.cells]⟩
     · rename_i q
       obtain ⟨a, ha⟩ := hx
       obtain ⟨b, hb⟩ := hy
       have hxv : x = .int q a := by cases x <;> simp_all [Value.cells, Value.formed]
       have hyv : y = .int q b := by cases y <;> simp_all [Value.cells, Value.formed]
       subst hxv; subst hyv
       exact ⟨a == b, run_equalIn_int w (d + n) t q q a b hu, by simp [Value.cells]⟩
     · obtain ⟨a, ha⟩ := hx
       obtain ⟨b, hb⟩ := hy
       have hxv : x = .string a := by cases x <;> simp_all [Value.cells, Value.formed]
       have hyv : y = .string b := by cases y <;> simp_all [Value.cells, Value.formed]
       subst hxv; subst hyv
       exact ⟨a.toList == b.toList, run_equalIn_string w (d + n) t a b hu, by
         simp [Value.cells, ByteArray.toList_eq]
         exact ⟨fun h => by cases a; cases b; simpa using h, fun h => by rw [h]⟩⟩
     · rename_i k e
       simp only [Bool.and_eq_true, beq_iff_eq] at hk
       cases x <;> simp only [Value.formed, hu, Bool.false_eq_true] at fx
       cases y <;> simp only [Value.formed, hu, Bool.false_eq_true] at fy
       rename_i xs ys
       have hpe : ∃ i, P.info? e = some i := by
         cases n with
         | zero => simp [eqTy] at hk
         | succ m =>
           have h1 := hk.1
           simp only [eqTy] at h1
           cases hue : P.underlying e with
           | none => simp [hue] at h1
           | some _ => exact info_of_underlying hue
       obtain ⟨i, hi⟩ := hpe
       simp only [Value.cells] at hx hy ⊢
       obtain ⟨r, hr, hiff⟩ := zsz w (d + n) n (z17y d n e hk.1) xs ys (List.range k) (fun i hi => hx.2 i (by simpa using hi)) (fun i hi => hy.2 i (by simpa using hi))
       refine ⟨r, by rw [show d + (n + 1) = (d + n) + 1 from rfl, run_equalIn_array w (d + n) xs ys hu hi]; exact hr, ?_⟩
       rw [hiff]
       exact ⟨fun h => z1ny (by rw [hx.1, hk.2]) (by rw [hy.1, hk.2]) fun i hi => h i (by simpa using hi), fun h i _ => by rw [h]⟩
     · rename_i fs
       simp only [Bool.and_eq_true, Bool.not_eq_true'] at hk
       cases x <;> simp only [Value.formed, hu, Bool.false_eq_true] at fx
       cases y <;> simp only [Value.formed, hu, Bool.false_eq_true] at fy
       rename_i xs ys
       simp only [Value.cells] at hx hy ⊢
       have hfs : P.fieldsOf t = fs := by simp [Program.fieldsOf, hu]
       obtain ⟨r, hr, hiff⟩ := zr0 w (d + n) n xs ys fs.toList (fun f hf => by
         have := List.all_eq_true.1 hk.1.1 f hf
         simp only [Bool.and_eq_true, bne_iff_ne, ne_eq] at this
         exact ⟨this.1, z17y d n f.type this.2⟩) hx.2 hy.2
       refine ⟨r, by rw [show d + (n + 1) = (d + n) + 1 from rfl, run_equalIn_struct w (d + n) t xs ys (by rw [hfs]; exact hu) hk.2, hfs]; exact hr, ?_⟩
       rw [hiff]
       refine ⟨fun h => List.ext_getElem? fun j => ?_, fun h f _ => by rw [h]⟩
       by_cases hj : j < P.cellsOf t
       · exact z1ep hk.1.2 h j (by omega) hj
       · rw [List.getElem?_eq_none (by rw [hx.1]; omega), List.getElem?_eq_none (by rw [hy.1]; omega)]
theorem z1ix {w : World} {c : Cx} : ∀ {vs : List Value} {f : Nat → Option Value}, VRs w c (vs.map PV.val) f → ∀ i, i < vs.length → f i = vs[i]?
 | [], f, h, i, hi => by simp at hi
 | v :: vs, f, h, i, hi => by
   simp only [List.map_cons, VRs] at h
   obtain ⟨⟨u, hu, hr⟩, h2⟩ := h
   rw [zb0] at hr
   cases i with
   | zero => rw [hu, hr.1]; rfl
   | succ i => simpa using z1ix h2 i (by simpa using hi)
theorem z13f {w : World} {c : Cx} {vs : List Value} {v : Value} (h : VR w c (.agg (vs.map PV.val)) v) : v = .agg vs.toArray := by
 simp only [VR] at h
 obtain ⟨cs, rfl, hl, _, hv⟩ := h
 congr 1
 rw [← Array.toList_inj]
 refine List.ext_getElem? fun i => ?_
 have hl' : cs.toList.length = vs.length := by simpa using hl
 by_cases hi : i < vs.length
 · have := z1ix hv i hi
   simpa using this
 · rw [List.getElem?_eq_none (by rw [hl']; omega), List.getElem?_eq_none (by simp; omega)]
theorem z1ct {P : Program} {w : World} {n : Nat} {t : TypeId} {vs us : List Value} {r : Bool} (hn : n ≤ 10000) (ht : eqTy P n t = true) (ha : tyAgg P t = some true) (h1 : z7u P n t vs) (h2 : z7u P n t us) (hr : r = true ↔ vs = us) :
   (Op.equalIn 10000 t (.agg vs.toArray) (.agg us.toArray)).run P w = .ok r w := by
 have form : ∀ ws : List Value, z7u P n t ws → (Value.agg ws.toArray).formed P t = true := fun ws hs => by
   cases n with
   | zero => cases hs
   | succ n =>
     simp only [z7u] at hs
     unfold tyAgg at ha
     cases hu : P.underlying t with
     | none => rw [hu] at ha; cases ha
     | some kd =>
       rw [hu] at ha hs
       cases kd <;> simp at ha <;> simp only at hs <;> simp [Value.formed, hu, hs.1]
 obtain ⟨r', hr', hiff⟩ := z17y (P := P) (10000 - n) n t ht w (.agg vs.toArray) (.agg us.toArray) (form _ h1) (form _ h2) (by simpa [Value.cells] using h1) (by simpa [Value.cells] using h2)
 rw [show 10000 - n + n = 10000 by omega] at hr'
 have : r' = r := by
   rw [Bool.eq_iff_iff, hiff, hr]; simp [Value.cells]
 rw [← this]; exact hr'
theorem z1re {P : Program} {o : Oper} {σ : AS} {n : Nat} {t yt : TypeId} {x y : Operand} {vs us : List Value} {r : Bool} (ho : o.op = .binOp .eql t x y yt) (hg : P.eqGuardType P.depth t = false) (hn : n ≤ 10000) (ht : eqTy P n t = true)
   (ha : tyAgg P t = some true) (hx : σ.eval x = .agg (vs.map PV.val)) (hy : σ.eval y = .agg (us.map PV.val)) (h1 : z7u P n t vs) (h2 : z7u P n t us) (hr : r = true ↔ vs = us) : QStep P o σ (.val (.bool r)) :=
 q_run fun w c a hR => ⟨_, by
   have e1 : a.eval x = .agg vs.toArray := z13f (hx ▸ hR.2.eval x)
   have e2 : a.eval y = .agg us.toArray := z13f (hy ▸ hR.2.eval y)
   simp only [execOp, ho, e1, e2, Sem.run_bind, run_eqGuard_agg w .eql t x y vs.toArray us.toArray hg, Result.andThen_ok]
   rw [run_eql_struct, z1ct hn ht ha h1 h2 hr]; rfl, zb0.2 ⟨rfl, rfl⟩⟩
theorem z1r5 {P : Program} {o : Oper} {σ : AS} {n : Nat} {t yt : TypeId} {x y : Operand} {vs us : List Value} {r : Bool} (ho : o.op = .binOp .neq t x y yt) (hg : P.eqGuardType P.depth t = false) (hn : n ≤ 10000) (ht : eqTy P n t = true)
   (ha : tyAgg P t = some true) (hx : σ.eval x = .agg (vs.map PV.val)) (hy : σ.eval y = .agg (us.map PV.val)) (h1 : z7u P n t vs) (h2 : z7u P n t us) (hr : r = true ↔ vs = us) : QStep P o σ (.val (.bool (!r))) :=
 q_run fun w c a hR => ⟨_, by
   have e1 : a.eval x = .agg vs.toArray := z13f (hx ▸ hR.2.eval x)
   have e2 : a.eval y = .agg us.toArray := z13f (hy ▸ hR.2.eval y)
   simp only [execOp, ho, e1, e2, Sem.run_bind, run_eqGuard_agg w .neq t x y vs.toArray us.toArray hg, Result.andThen_ok]
   rw [run_neq_struct, z1ct hn ht ha h1 h2 hr]; rfl, zb0.2 ⟨rfl, rfl⟩⟩
end Go.Ab
set_option linter.unusedSimpArgs false
set_option linter.unusedVariables false
namespace Go.Ab
def drawOkAt (ops : Array Oper) (lo hi : Nat) : Bool :=
 zdd ops &&
 (List.range ops.size).all fun j => Nat.blt j lo || Nat.ble hi j ||
   match ops[j]? with
   | none => true
   | some oj => oj.dst.isSome && (oj.dst.all fun d => !(oj.looksAt ops).contains d) &&
     (List.range j).all fun i => Nat.blt i lo ||
       match ops[i]? with
       | none => true
       | some oi => oi.dst != oj.dst && (oi.apart ops oj || bef ops j i)
def sepOk (ops : Array Oper) (lo hi : Nat) : Bool :=
 (List.range ops.size).all fun j => Nat.blt j hi || (List.range hi).all fun i => Nat.blt i lo || bef ops j i
theorem ztw {ops : Array Oper} {lo hi : Nat} (h : drawOkAt ops lo hi = true) : zdd ops = true ∧
   (∀ (j : Nat) o, lo ≤ j → j < hi → ops[j]? = some o → ∃ d, o.dst = some d ∧ d ∉ o.looksAt ops) ∧
   (∀ (i j : Nat) oi oj, lo ≤ i → i < j → j < hi → ops[i]? = some oi → ops[j]? = some oj → oi.dst ≠ oj.dst ∧ (oi.apart ops oj = true ∨ bef ops j i = true)) := by
 simp only [drawOkAt, Bool.and_eq_true] at h
 obtain ⟨h1, h2⟩ := h
 have hj : ∀ (j : Nat) o, ops[j]? = some o → j < ops.size := fun j o ho => (Array.getElem?_eq_some_iff.1 ho).1
 have key : ∀ (j : Nat) o, lo ≤ j → j < hi → ops[j]? = some o → o.dst.isSome = true ∧ (o.dst.all fun d => !(o.looksAt ops).contains d) = true ∧
     ((List.range j).all fun i => Nat.blt i lo || match ops[i]? with | none => true | some oi => oi.dst != o.dst && (oi.apart ops o || bef ops j i)) = true := by
   intro j o hl hh ho
   have := List.all_eq_true.1 h2 j (by simp [hj j o ho])
   rw [ho] at this
   simp only [Bool.or_eq_true, Bool.and_eq_true] at this
   rcases this with (h | h) | h
   · exact absurd (Nat.blt_eq.mp h) (by omega)
   · exact absurd (Nat.le_of_ble_eq_true h) (by omega)
   · exact ⟨h.1.1, h.1.2, h.2⟩
 refine ⟨h1, fun j o hl hh ho => ?_, fun i j oi oj hl hij hh hi hj' => ?_⟩
 · obtain ⟨ha, hb, _⟩ := key j o hl hh ho
   obtain ⟨d, hd⟩ := Option.isSome_iff_exists.1 ha
   rw [hd] at hb
   exact ⟨d, hd, by simpa using hb⟩
 · obtain ⟨_, _, hc⟩ := key j oj (by omega) hh hj'
   have := List.all_eq_true.1 hc i (by simp [hij])
   rw [hi] at this
   simp only [Bool.or_eq_true, Bool.and_eq_true] at this
   rcases this with h | h
   · exact absurd (Nat.blt_eq.mp h) (by omega)
   · exact ⟨by simpa using h.1, h.2⟩
theorem z1bv {ops : Array Oper} {lo hi : Nat} (h : sepOk ops lo hi = true) {i j : Nat} (hj : hi ≤ j) (hjs : j < ops.size) (hi' : lo ≤ i) (hih : i < hi) : bef ops j i = true := by
 have := List.all_eq_true.1 h j (by simpa using hjs)
 simp only [Bool.or_eq_true] at this
 rcases this with h | h
 · exact absurd (Nat.blt_eq.mp h) (by omega)
 · have := List.all_eq_true.1 h i (by simpa using hih)
   simp only [Bool.or_eq_true] at this
   rcases this with h | h
   · exact absurd (Nat.blt_eq.mp h) (by omega)
   · exact h
def left (ops : Array Oper) (listed : Array Bool) : Nat := ((List.range ops.size).filter (fun j => !listed.getD j false)).length
theorem z1b1 {ops : Array Oper} {listed : Array Bool} {i : Nat} (hi : i < ops.size) (hs : listed.size = ops.size) (hn : listed.getD i false = false) : left ops (listed.setIfInBounds i true) < left ops listed := by
 have hget : ∀ j, (listed.setIfInBounds i true).getD j false = true ↔ listed.getD j false = true ∨ j = i := by
   intro j
   by_cases hji : i = j
   · subst hji
     simp only [Array.getD_eq_getD_getElem?, Array.getElem?_setIfInBounds_self_of_lt (show i < listed.size by omega), Option.getD_some]; simp
   · rw [getD_set_ne false hji]
     exact ⟨fun h => .inl h, fun h => h.resolve_right (fun e => hji e.symm)⟩
 unfold left
 have e : (List.range ops.size).filter (fun j => !(listed.setIfInBounds i true).getD j false) =
     ((List.range ops.size).filter (fun j => !listed.getD j false)).filter (fun j => decide (j ≠ i)) := by
   rw [List.filter_filter]
   apply List.filter_congr
   intro j _
   by_cases hji : j = i
   · subst hji
     have := (hget j).2 (.inr rfl)
     rw [this]; simp
   · cases h : listed.getD j false with
     | true => rw [(hget j).2 (.inl h)]; simp
     | false =>
       have : (listed.setIfInBounds i true).getD j false = false := by
         cases h2 : (listed.setIfInBounds i true).getD j false with
         | false => rfl
         | true => exact absurd (((hget j).1 h2).resolve_right hji) (by rw [h]; simp)
       rw [this]; simp [hji]
 rw [e]
 refine List.length_filter_lt_length_iff_exists.2 ⟨i, ?_, by simp⟩
 simp only [List.mem_filter, List.mem_range, hn]; exact ⟨hi, rfl⟩
theorem z1ad {ops : Array Oper} {listed : Array Bool} {i : Nat} (hi : i < ops.size) (hn : listed.getD i false = false) : 0 < left ops listed := by
 unfold left
 refine List.length_pos_of_mem (a := i) ?_
 simp only [List.mem_filter, List.mem_range, hn]; exact ⟨hi, rfl⟩
theorem zo6 {listed : Array Bool} {i j : Nat} (hi : i < listed.size) : (listed.setIfInBounds i true).getD j false = true ↔ listed.getD j false = true ∨ j = i := by
 by_cases hji : i = j
 · subst hji
   simp only [Array.getD_eq_getD_getElem?, Array.getElem?_setIfInBounds_self_of_lt hi, Option.getD_some]; simp
 · rw [getD_set_ne false hji]
   exact ⟨fun h => .inl h, fun h => h.resolve_right (fun e => hji e.symm)⟩
theorem zle {ops : Array Oper} {listed : Array Bool} (hs : listed.size = ops.size) {i : Nat} : i ∈ Region.ready .any ops listed ↔ listed.getD i false = false ∧ ∃ o, ops[i]? = some o ∧ ∀ e, e ∈ o.after → Region.binds .any e = true → listed.getD e.on false = true := by
 rw [mem_ready]
 constructor
 · rintro ⟨h1, o, h2, h3⟩
   have hi : i < listed.size := by rw [hs]; exact (Array.getElem?_eq_some_iff.1 h2).1
   refine ⟨?_, o, h2, h3⟩
   simp only [Array.getD_eq_getD_getElem?, Array.getElem?_eq_getElem hi, Option.getD_some] at h1 ⊢
   exact h1
 · rintro ⟨h1, o, h2, h3⟩
   have hi : i < listed.size := by rw [hs]; exact (Array.getElem?_eq_some_iff.1 h2).1
   refine ⟨?_, o, h2, h3⟩
   simp only [Array.getD_eq_getD_getElem?, Array.getElem?_eq_getElem hi, Option.getD_some] at h1 ⊢
   exact h1
def zt3 (ops : Array Oper) (listed : Array Bool) : Prop :=
 ∀ (j : Nat) o e, listed.getD j false = true → ops[j]? = some o → e ∈ o.after.toList → Region.binds .any e = true → listed.getD e.on false = true
theorem zlj {ops : Array Oper} {listed : Array Bool} (hs : listed.size = ops.size) {j : Nat} (h : listed.getD j false = true) : j < ops.size := by
 rw [← hs]
 by_cases hj : j < listed.size
 · exact hj
 · simp only [Array.getD_eq_getD_getElem?, Array.getElem?_eq_none (Nat.le_of_not_lt hj)] at h; simp at h
theorem zls {ops : Array Oper} (hback : zdd ops = true) {listed : Array Bool} (hs : listed.size = ops.size) (hc : zt3 ops listed) {i : Nat} {o : Oper} (ho : ops[i]? = some o)
   (he : ∀ e, e ∈ o.after → Region.binds .any e = true → listed.getD e.on false = true) {j : Nat} (hb : bef ops i j = true) (hji : j ≠ i) : listed.getD j false = true := by
 have hD : ∀ (j : Nat) o' e, (listed.getD j false = true ∨ j = i) → ops[j]? = some o' → e ∈ o'.after.toList → Region.binds .any e = true → (listed.getD e.on false = true ∨ e.on = i) := by
   intro j o' e hj ho' hee hbb
   rcases hj with hj | hj
   · exact .inl (hc j o' e hj ho' hee hbb)
   · subst hj
     rw [ho] at ho'; cases ho'
     exact .inl (he e (by simpa using hee) hbb)
 have := zlx hback (D := fun j => listed.getD j false = true ∨ j = i) hD (fun j hj => hj.elim (zlj hs) (fun e => e ▸ (Array.getElem?_eq_some_iff.1 ho).1)) i j (.inr rfl) hb
 exact this.resolve_right hji
inductive Item where
 | q (p : PV)
 | al (b : Nat) (cs : List PV) (e : TypeId)
def Item.pv : Item → PV
 | .q p => p
 | .al b _ _ => .ptr b 0
def zdi : List Item → List (List PV × TypeId)
 | [] => []
 | .q _ :: r => zdi r
 | .al _ cs e :: r => (cs, e) :: zdi r
def Lays (P : Program) (o : Oper) (σ : AS) (cs : List PV) (e : TypeId) : Prop :=
 (∃ z, o.op = .alloc e ∧ z9t P e = some z ∧ z.length = cs.length ∧ Leafs cs ∧ ∀ w c (f : Nat → Option Value), (∃ H ts, Good w c H ts) → VRs w c z f → VRs w c cs f) ∨ (∃ x p, o.op = .box e x ∧ σ.eval x = p ∧ stor p = true ∧ cs = cellsOf p)
def Does (P : Program) (ops : Array Oper) (base : List AObj) (OK : List AObj → Prop) : List Oper → List Item → Nat → AS → Prop
 | o :: os, it :: its, n, σ => (match it with
     | .q p => ∃ g, z5g ops (σ.keep (o.looksAt ops)) o = some g ∧ (if g = true then ∀ X, OK X → QStep P o { σ.keep (o.looksAt ops) with H := base ++ X } p else p = .tup [])
     | .al b cs e => b = n ∧ z5g ops (σ.keep (o.looksAt ops)) o = some true ∧ Lays P o (σ.keep (o.looksAt ops)) cs e) ∧
     Does P ops base OK os its (match it with | .q _ => n | .al _ _ _ => n + 1) (σ.put o.dst it.pv)
 | [], [], _, _ => True
 | _, _, _, _ => False
theorem z11w {P : Program} {ops : Array Oper} {base : List AObj} {OK : List AObj → Prop} : ∀ {l : List Oper} {its : List Item} {n : Nat} {σ : AS}, Does P ops base OK l its n σ → l.length = its.length ∧
   ∀ (i : Nat) o it, l[i]? = some o → its[i]? = some it → (match it with
     | .q p => ∃ g, z5g ops ((pre l (its.map Item.pv) σ i).keep (o.looksAt ops)) o = some g ∧ (if g = true then ∀ X, OK X → QStep P o { (pre l (its.map Item.pv) σ i).keep (o.looksAt ops) with H := base ++ X } p else p = .tup [])
     | .al b cs e => b = n + (zdi (its.take i)).length ∧ z5g ops ((pre l (its.map Item.pv) σ i).keep (o.looksAt ops)) o = some true ∧ Lays P o ((pre l (its.map Item.pv) σ i).keep (o.looksAt ops)) cs e)
 | [], [], _, _, _ => ⟨rfl, fun i o it h => by simp at h⟩
 | o :: os, it :: its, n, σ, h => by
   obtain ⟨h1, h2⟩ := h
   obtain ⟨hl, ih⟩ := z11w h2
   refine ⟨by simp [hl], fun i o' it' ho hp => ?_⟩
   cases i with
   | zero =>
     simp at ho hp; subst ho; subst hp
     cases it with
     | q p => exact h1
     | al b cs e => exact ⟨by simpa [zdi] using h1.1, h1.2.1, h1.2.2⟩
   | succ i =>
     have := ih i o' it' (by simpa using ho) (by simpa using hp)
     cases it' with
     | q p => simpa [pre, z4g] using this
     | al b cs e =>
       obtain ⟨e1, e2, e3⟩ := this
       refine ⟨?_, by simpa [pre, z4g] using e2, by simpa [pre, z4g] using e3⟩
       cases it with
       | q _ => simpa [zdi] using e1
       | al _ _ _ => simp only [List.take_succ_cons, zdi, List.length_cons] at e1 ⊢; omega
 | [], _ :: _, _, _, h => h.elim
 | _ :: _, [], _, _, h => h.elim
def z7l (listed : Nat → Bool) : List Item → Nat → List AObj
 | [], _ => []
 | .q _ :: r, j => z7l listed r (j + 1)
 | .al _ cs e :: r, j => (bif listed j then .row cs e else .gone) :: z7l listed r (j + 1)
theorem zq0 {f g : Nat → Bool} : ∀ (l : List Item) (j : Nat), (∀ i b cs e, l[i]? = some (.al b cs e) → f (j + i) = g (j + i)) → z7l f l j = z7l g l j
 | [], _, _ => rfl
 | .q _ :: r, j, h => by
   simp only [z7l]
   exact zq0 r (j + 1) fun i b cs e hi => by have := h (i + 1) b cs e (by simpa using hi); rw [Nat.add_assoc, Nat.add_comm 1 i]; exact this
 | .al b cs e :: r, j, h => by
   simp only [z7l]
   have h0 := h 0 b cs e rfl
   rw [Nat.add_zero] at h0
   rw [h0]
   refine congrArg _ (zq0 r (j + 1) fun i b cs e hi => ?_)
   have := h (i + 1) b cs e (by simpa using hi); rw [Nat.add_assoc, Nat.add_comm 1 i]; exact this
theorem z14m {f : Nat → Bool} : ∀ (l : List Item) (j i : Nat) {b : Nat} {cs : List PV} {e : TypeId}, l[i]? = some (.al b cs e) → f (j + i) = false →
   (z7l f l j)[(zdi (l.take i)).length]? = some .gone ∧ z7l (fun k => f k || Nat.beq k (j + i)) l j = (z7l f l j).set (zdi (l.take i)).length (.row cs e)
 | [], _, _, _, _, _, h, _ => by simp at h
 | .q p :: r, j, 0, _, _, _, h, _ => by simp at h
 | .q p :: r, j, i + 1, b, cs, e, h, hf => by
   have := z14m r (j + 1) i (b := b) (cs := cs) (e := e) (f := f) (by simpa using h) (by rw [Nat.add_assoc, Nat.add_comm 1 i]; exact hf)
   simp only [z7l, List.take_succ_cons, zdi]
   rw [Nat.add_assoc, Nat.add_comm 1 i] at this
   exact this
 | .al b0 cs0 e0 :: r, j, 0, b, cs, e, h, hf => by
   simp only [List.getElem?_cons_zero, Option.some.injEq, Item.al.injEq] at h
   obtain ⟨rfl, rfl, rfl⟩ := h
   simp only [Nat.add_zero] at hf
   simp only [z7l, List.take_zero, zdi, List.length_nil, List.getElem?_cons_zero, List.set_cons_zero, hf, cond_false, Nat.add_zero, Nat.beq_refl, Bool.or_true, cond_true, List.cons.injEq, true_and]
   refine zq0 r (j + 1) fun i b cs e _ => ?_
   have : Nat.beq (j + 1 + i) j = false := by
     cases hb : Nat.beq (j + 1 + i) j with
     | false => rfl
     | true => have := Nat.eq_of_beq_eq_true hb; omega
   rw [this, Bool.or_false]
 | .al b0 cs0 e0 :: r, j, i + 1, b, cs, e, h, hf => by
   have := z14m r (j + 1) i (b := b) (cs := cs) (e := e) (f := f) (by simpa using h) (by rw [Nat.add_assoc, Nat.add_comm 1 i]; exact hf)
   rw [Nat.add_assoc, Nat.add_comm 1 i] at this
   simp only [z7l, List.take_succ_cons, zdi, List.length_cons, List.getElem?_cons_succ, List.set_cons_succ]
   refine ⟨this.1, ?_⟩
   rw [this.2]
   have hne : Nat.beq j (j + (i + 1)) = false := by
     cases hb : Nat.beq j (j + (i + 1)) with
     | false => rfl
     | true => have := Nat.eq_of_beq_eq_true hb; omega
   rw [hne, Bool.or_false]
theorem z14f {f : Nat → Bool} : ∀ (l : List Item) (j : Nat), (∀ i, i < l.length → f (j + i) = true) → z7l f l j = (zdi l).map fun x => .row x.1 x.2
 | [], _, _ => rfl
 | .q _ :: r, j, h => by
   simp only [z7l, zdi]
   exact z14f r (j + 1) fun i hi => by have := h (i + 1) (by simpa using hi); rw [Nat.add_assoc, Nat.add_comm 1 i]; exact this
 | .al b cs e :: r, j, h => by
   simp only [z7l, zdi, List.map_cons]
   have h0 := h 0 (by simp)
   rw [Nat.add_zero] at h0
   rw [h0, z14f r (j + 1) fun i hi => by have := h (i + 1) (by simpa using hi); rw [Nat.add_assoc, Nat.add_comm 1 i]; exact this]
   rfl
theorem z1hi {w : World} {c : Cx} {H : List AObj} {ts : List Bool} (g : Good w c H ts) {b : Nat} (hb : H[b]? = some .gone) {cs : List PV} {vs : Array Value} {e : TypeId} {fr : Nat × Nat}
   (hn : cs.length ≤ vs.size) (hf : nofz fr vs.size) (hlf : Leafs cs) (hv : VRs w c cs (fun i => vs[i]?)) :
   Good (grow w (.cells vs e fr)) { c with m := c.m.set b (some w.heap.size) } (H.set b (.row cs e)) ts ∧
     Ext w c (grow w (.cells vs e fr)) { c with m := c.m.set b (some w.heap.size) } ∧ (c.m.set b (some w.heap.size))[b]? = some (some w.heap.size) := by
 have hbl : b < c.m.length := by rw [g.len]; exact (List.getElem?_eq_some_iff.1 hb).1
 have hbn : c.m[b]? = some none := g.obj b _ hb
 have hself : (c.m.set b (some w.heap.size))[b]? = some (some w.heap.size) := List.getElem?_set_self hbl
 have hids : ∀ i k : Nat, c.m[i]? = some (some k) → (c.m.set b (some w.heap.size))[i]? = some (some k) := fun i k h => by
   have hne : b ≠ i := fun e => by subst e; rw [hbn] at h; cases h
   rw [List.getElem?_set_ne hne]; exact h
 have back : ∀ i k : Nat, (c.m.set b (some w.heap.size))[i]? = some (some k) → c.m[i]? = some (some k) ∨ (i = b ∧ k = w.heap.size) := fun i k h => by
   by_cases hi : b = i
   · subst hi; rw [hself] at h; cases h; exact .inr ⟨rfl, rfl⟩
   · rw [List.getElem?_set_ne hi] at h; exact .inl h
 have x : Ext w c (grow w (.cells vs e fr)) { c with m := c.m.set b (some w.heap.size) } := by
   refine Ext.of_grow _ rfl rfl rfl (by simp [grow]) (fun k hk => zhw w _ k hk) hids (fun k h => ?_) (fun i k j h => g.tlt h)
   rcases List.mem_or_eq_of_mem_set h with h | h
   · exact .inl h
   · cases h; exact .inr (Nat.le_refl _)
 refine ⟨⟨by simp [g.len], ?_, ?_, g.tl, g.tal, g.tdead, ?_, g.tinj, fun k e h => g.okn k e (Nat.le_trans x.size h), g.okm, g.okt, fun i k hi hk e => ?_, g.gl.ext x⟩, x, hself⟩
 · intro i j k hi hj
   rcases back i k hi with hi | ⟨ei, ek⟩ <;> rcases back j k hj with hj | ⟨ej, ek'⟩
   · exact g.inj i j k hi hj
   · have := ObjC.lt g hi; omega
   · have := ObjC.lt g hj; omega
   · omega
 · intro i o h
   by_cases hi : b = i
   · subst hi
     rw [List.getElem?_set_self (List.getElem?_eq_some_iff.1 hb).1] at h
     cases h
     exact .inr ⟨w.heap.size, vs, fr, hself, zoi w _, hf, hn, hlf, VRs.ext x cs (fun _ _ _ e => e) hv⟩
   · rw [List.getElem?_set_ne hi] at h
     refine (g.obj i o h).pass x (fun k h1 => ⟨x.ids _ _ h1, zhw w _ k (ObjC.lt g h1)⟩) fun ho => ?_
     show (c.m.set b (some w.heap.size))[i]? = some none
     rw [List.getElem?_set_ne hi]; exact ho
 · intro i k j h
   obtain ⟨h1, vs', e', fr', h2, h3⟩ := g.tok i k j h
   refine ⟨fun hm => ?_, vs', e', fr', (zhw w _ k (g.tlt h)).trans h2, h3⟩
   rcases List.mem_or_eq_of_mem_set hm with hm | hm
   · exact h1 hm
   · cases hm; have := g.tlt h; omega
 · rcases back i k hk with hk | ⟨_, rfl⟩
   · exact g.oko i k hi hk e
   · exact g.okn _ _ (Nat.le_refl _)
theorem z1f3 {w : World} {c : Cx} {H : List AObj} {ts : List Bool} (g : Good w c H ts) (n : Nat) :
   Good w { c with m := c.m ++ List.replicate n none } (H ++ List.replicate n .gone) ts ∧ Ext w c w { c with m := c.m ++ List.replicate n none } := by
 have hids : ∀ i k : Nat, c.m[i]? = some (some k) → (c.m ++ List.replicate n none)[i]? = some (some k) := fun i k h => by
   rw [List.getElem?_append_left (List.getElem?_eq_some_iff.1 h).1]; exact h
 have back : ∀ i k : Nat, (c.m ++ List.replicate n none)[i]? = some (some k) → c.m[i]? = some (some k) := fun i k h => by
   by_cases hi : i < c.m.length
   · rw [List.getElem?_append_left hi] at h; exact h
   · rw [List.getElem?_append_right (by omega), List.getElem?_replicate] at h
     split at h <;> simp at h
 have x : Ext w c w { c with m := c.m ++ List.replicate n none } :=
   Ext.of_grow _ rfl rfl rfl (Nat.le_refl _) (fun _ _ => rfl) hids (fun k h => by
     rcases List.mem_append.1 h with h | h
     · exact .inl h
     · rw [List.mem_replicate] at h; cases h.2) (fun i k j h => g.tlt h)
 refine ⟨⟨by simp [g.len], fun i j k h1 h2 => g.inj i j k (back i k h1) (back j k h2), ?_, g.tl, g.tal, g.tdead, ?_, g.tinj, g.okn, g.okm, g.okt, fun b k hb hk => g.oko b k hb (back b k hk), g.gl.ext x⟩, x⟩
 · intro i o h
   by_cases hi : i < H.length
   · rw [List.getElem?_append_left hi] at h
     refine (g.obj i o h).pass x (fun k h1 => ⟨hids _ _ h1, rfl⟩) fun ho => ?_
     show (c.m ++ List.replicate n none)[i]? = some none
     rw [List.getElem?_append_left (by rw [g.len]; exact hi)]; exact ho
   · rw [List.getElem?_append_right (by omega), List.getElem?_replicate] at h
     split at h
     · rename_i hlt
       cases h
       show (c.m ++ List.replicate n none)[i]? = some none
       rw [List.getElem?_append_right (by rw [g.len]; omega), List.getElem?_replicate, g.len, if_pos hlt]
     · cases h
 · intro i k j h
   obtain ⟨h1, h2⟩ := g.tok i k j h
   refine ⟨fun hm => ?_, h2⟩
   rcases List.mem_append.1 hm with hm | hm
   · exact h1 hm
   · rw [List.mem_replicate] at hm; cases hm.2
structure MidA (ops : Array Oper) (its : List Item) (σ : AS) (c : Cx) (lo hi : Nat) (listed : Array Bool) (a : Act) (w : World) : Prop where
 good : Good w c (σ.H ++ z7l (fun j => listed.getD j false) its lo) σ.ts
 size : a.tmps.size = σ.n
 sz : listed.size = ops.size
 old : ∀ t, t < σ.n → (∀ (j : Nat) o, lo ≤ j → listed.getD j false = true → ops[j]? = some o → o.dst ≠ some t) → VR w c (σ.get t) (a.tmps.getD t undef)
 new : ∀ (j : Nat) o it t, lo ≤ j → listed.getD j false = true → ops[j]? = some o → its[j - lo]? = some it → o.dst = some t → t < σ.n → VR w c it.pv (a.tmps.getD t undef)
 closed : zt3 ops listed
 ahead : ∀ j, j < lo → j < ops.size → listed.getD j false = true
 below : ∀ j, listed.getD j false = true → j < hi
def seg (ops : Array Oper) (lo hi : Nat) : List Oper := (ops.toList.drop lo).take (hi - lo)
theorem zek {ops : Array Oper} {lo hi j : Nat} (hl : lo ≤ j) (hh : j < hi) : (seg ops lo hi)[j - lo]? = ops[j]? := by
 unfold seg
 rw [List.getElem?_take, if_pos (by omega), List.getElem?_drop]
 have : lo + (j - lo) = j := by omega
 rw [this]; simp
def behind (l : List Oper) (its : List Item) (σ : AS) : AS := { z4g l (its.map Item.pv) σ with H := σ.H ++ (zdi its).map fun x => .row x.1 x.2 }
theorem seg_draw {P : Program} {ops : Array Oper} {σ : AS} {lo hi : Nat} {Q' : Exit → Act → World → Prop} (its : List Item) (hok : drawOkAt ops lo hi = true) (hsep : sepOk ops lo hi = true) (hlh : lo ≤ hi) (hle : hi ≤ ops.size)
   (hdn : ∀ o, o ∈ seg ops lo hi → o.dst.all (fun d => decide (d < σ.n)) = true) {OK : List AObj → Prop} (hX : ∀ f, OK (z7l f its lo)) (hq : Does P ops σ.H OK (seg ops lo hi) its σ.H.length σ) :
   ∀ (n fuel : Nat) (listed : Array Bool) (c : Cx) (a : Act) (w : World), left ops listed = n → n ≤ fuel → MidA ops its σ c lo hi listed a w →
     (∀ fuel listed' c' a' w', listed'.size = ops.size → (∀ j, j < ops.size → (listed'.getD j false = true ↔ j < hi)) → zt3 ops listed' → left ops listed' ≤ fuel → RelC w' c' (behind (seg ops lo hi) its σ) a' → Ext w c w' c' → a'.defers = a.defers →
       wpAny P .any ops Q' fuel listed' a' w') → wpAny P .any ops Q' fuel listed a w := by
 obtain ⟨hback, hdst, hpair⟩ := ztw hok
 obtain ⟨hlen0, hat⟩ := z11w hq
 have hlen : (seg ops lo hi).length = (its.map Item.pv).length := by rw [List.length_map]; exact hlen0
 have hsl : (seg ops lo hi).length = hi - lo := by simp [seg]; omega
 intro n
 induction n using Nat.strongRecOn with
 | _ n ih =>
   intro fuel listed c a w hn hf hmid hK
   by_cases hall : ∀ j, lo ≤ j → j < hi → listed.getD j false = true
   · -- the stretch is done
     refine hK fuel listed c a w hmid.sz (fun j hj => ⟨fun h => hmid.below j h, fun h => ?_⟩) hmid.closed (by omega) ⟨?_, ?_⟩ (Ext.refl _ _) rfl
     · by_cases hjl : j < lo
       · exact hmid.ahead j hjl hj
       · exact hall j (by omega) h
     · obtain ⟨h1, h2, h3⟩ := zaz (seg ops lo hi) (its.map Item.pv) σ
       simp only [behind, h3]
       rw [← z14f (f := fun j => listed.getD j false) its lo fun i hi' => hall (lo + i) (by omega) (by rw [← hlen0, hsl] at hi'; omega)]
       exact hmid.good
     · obtain ⟨h1, h2, h3⟩ := zaz (seg ops lo hi) (its.map Item.pv) σ
       refine ⟨by simp only [behind, h1]; exact hmid.size, fun t p hl ht => ?_⟩
       simp only [behind] at hl ht
       rw [h1] at ht
       have hg : (z4g (seg ops lo hi) (its.map Item.pv) σ).get t = p := by
         simp only [AS.get, h1, Nat.blt_eq.mpr ht, cond_true, hl, Option.getD_some]
       have hts : t < a.tmps.size := by rw [hmid.size]; exact ht
       refine ⟨a.tmps[t], by simp [hts], ?_⟩
       have hgd : a.tmps.getD t undef = a.tmps[t] := by simp [Array.getD_eq_getD_getElem?, hts]
       rw [← hgd]
       rcases zhs (seg ops lo hi) (its.map Item.pv) σ t hlen ht with ⟨j, o, p', h4, h5, h6, h7⟩ | ⟨h4, h5⟩
       · rw [← hg, h7]
         have hjl : j < hi - lo := by rw [← hsl]; exact (List.getElem?_eq_some_iff.1 h4).1
         have ho : ops[lo + j]? = some o := by
           rw [← zek (hi := hi) (Nat.le_add_right lo j) (by omega), Nat.add_sub_cancel_left]; exact h4
         rw [List.getElem?_map] at h5
         cases hit : its[j]? with
         | none => rw [hit] at h5; cases h5
         | some it =>
           rw [hit] at h5; simp only [Option.map_some, Option.some.injEq] at h5; subst h5
           exact hmid.new (lo + j) o it t (by omega) (hall _ (by omega) (by omega)) ho (by rw [Nat.add_sub_cancel_left]; exact hit) h6 ht
       · rw [← hg, h5]
         refine hmid.old t ht (fun j o hjl hD ho => h4 (j - lo) o ?_)
         rw [zek hjl (hmid.below j hD)]; exact ho
   · -- something is left
     have hex : ∃ j, lo ≤ j ∧ j < hi ∧ listed.getD j false = false := by
       apply Classical.byContradiction
       intro hno
       apply hall
       intro j h1 h2
       cases h : listed.getD j false with
       | true => rfl
       | false => exact absurd ⟨j, h1, h2, h⟩ hno
     obtain ⟨j0, hj0, hj1, hj2⟩ := hex
     have hpos := z1ad (ops := ops) (listed := listed) (i := j0) (by omega) hj2
     cases fuel with
     | zero => omega
     | succ fuel =>
       refine ⟨fun hr => ?_, fun i hi' => ?_⟩
       · -- some one is ready
         exfalso
         have : ∀ j, j ≤ j0 → listed.getD j false = true := by
           intro j
           induction j using Nat.strongRecOn with
           | _ j ihj =>
             intro hj
             cases hl : listed.getD j false with
             | true => rfl
             | false =>
               have hjs : j < ops.size := by omega
               have : j ∈ Region.ready .any ops listed := by
                 rw [zle hmid.sz]
                 refine ⟨hl, ops[j], by simp [hjs], fun e he hb => ?_⟩
                 have hlt := zgc hback (o := ops[j]) (Array.getElem?_eq_getElem hjs) (Array.mem_toList_iff.2 he) hb
                 exact ihj e.on hlt (by omega)
               rw [hr] at this; cases this
         have := this j0 (Nat.le_refl _)
         rw [hj2] at this; cases this
       · rw [zle hmid.sz] at hi'
         obtain ⟨hnD, o, ho, hedges⟩ := hi'
         have hil : i < ops.size := (Array.getElem?_eq_some_iff.1 ho).1
         have hlo : lo ≤ i := by
           apply Classical.byContradiction
           intro h
           have := hmid.ahead i (by omega) hil
           rw [hnD] at this; cases this
         have hhi : i < hi := by
           apply Classical.byContradiction
           intro h
           have hb := z1bv hsep (i := j0) (j := i) (by omega) hil hj0 hj1
           have := zls hback hmid.sz hmid.closed ho hedges hb (by omega)
           rw [hj2] at this; cases this
         have hp : ∃ it, its[i - lo]? = some it := by
           have : i - lo < its.length := by rw [← hlen0, hsl]; omega
           exact ⟨its[i - lo], by simp [this]⟩
         obtain ⟨it, hit⟩ := hp
         have hati := hat (i - lo) o it (by rw [zek hlo hhi]; exact ho) hit
         obtain ⟨d, hdd, hdl⟩ := hdst i o hlo hhi ho
         have hmemo : o ∈ seg ops lo hi := List.mem_of_getElem? (i := i - lo) (by rw [zek hlo hhi]; exact ho)
         have hdlt : d < σ.n := by
           have := hdn o hmemo
           rw [hdd] at this; simpa using this
         -- the slots that the operation looks at
         have hslo : SlotsR w c ((pre (seg ops lo hi) (its.map Item.pv) σ (i - lo)).keep (o.looksAt ops)) a.tmps := by
           obtain ⟨h1, h2, h3⟩ := zaz ((seg ops lo hi).take (i - lo)) ((its.map Item.pv).take (i - lo)) σ
           refine ⟨by simp only [AS.keep, pre, h1]; exact hmid.size, fun t q hl ht => ?_⟩
           simp only [AS.keep, pre, h1] at ht
           have hq' := zsq _ _ _ _ hl
           have hmem : t ∈ o.looksAt ops := by
             simp only [AS.keep] at hl
             clear hq' hat hq hK hmid hati hedges
             generalize o.looksAt ops = L at hl
             induction L with
             | nil => simp [look] at hl
             | cons s L ihL =>
               simp only [List.map_cons, look] at hl
               cases hb : Nat.beq s t with
               | true => rw [Nat.eq_of_beq_eq_true hb]; simp
               | false => rw [hb] at hl; simp [ihL (by simpa using hl)]
           have hts : t < a.tmps.size := by rw [hmid.size]; exact ht
           refine ⟨a.tmps[t], by simp [hts], ?_⟩
           have hgd : a.tmps.getD t undef = a.tmps[t] := by simp [Array.getD_eq_getD_getElem?, hts]
           rw [← hgd, ← hq']
           have hlen' : ((seg ops lo hi).take (i - lo)).length = ((its.map Item.pv).take (i - lo)).length := by simp only [List.length_take, hlen]
           rcases zhs ((seg ops lo hi).take (i - lo)) ((its.map Item.pv).take (i - lo)) σ t hlen' ht with ⟨j, oj, pj, h4, h5, h6, h7⟩ | ⟨h4, h5⟩
           · have hji : j < i - lo := by
               have := (List.getElem?_eq_some_iff.1 h4).1; simp at this; omega
             have hoj : ops[lo + j]? = some oj := by
               rw [List.getElem?_take, if_pos hji] at h4
               rw [← zek (hi := hi) (Nat.le_add_right lo j) (by omega), Nat.add_sub_cancel_left]; exact h4
             rw [List.getElem?_take, if_pos hji, List.getElem?_map] at h5
             cases hitj : its[j]? with
             | none => rw [hitj] at h5; cases h5
             | some itj =>
               rw [hitj] at h5; simp only [Option.map_some, Option.some.injEq] at h5; subst h5
               have : bef ops i (lo + j) = true := by
                 rcases (hpair (lo + j) i oj o (by omega) (by omega) hhi hoj ho).2 with hap | hb
                 · exact absurd hmem ((Oper.apart_spec hap).1 t h6)
                 · exact hb
               have hDj := zls hback hmid.sz hmid.closed ho hedges this (by omega)
               rw [show (pre (seg ops lo hi) (its.map Item.pv) σ (i - lo)).get t = itj.pv from h7]
               exact hmid.new (lo + j) oj itj t (by omega) hDj hoj (by rw [Nat.add_sub_cancel_left]; exact hitj) h6 ht
           · rw [show (pre (seg ops lo hi) (its.map Item.pv) σ (i - lo)).get t = σ.get t from h5]
             refine hmid.old t ht (fun j oj hjl hDj hoj he => ?_)
             have hjh := hmid.below j hDj
             by_cases hji : j < i
             · exact h4 (j - lo) oj (by rw [List.getElem?_take, if_pos (by omega), zek hjl hjh]; exact hoj) he
             · rcases Nat.lt_or_ge i j with hij | hij
               · rcases (hpair i j o oj hlo hij hjh ho hoj).2 with hap | hb
                 · exact absurd hmem ((Oper.apart_spec hap).2.2 t he)
                 · have := zlx hback (D := fun j => listed.getD j false = true) hmid.closed (fun j hj => zlj hmid.sz hj) j i hDj hb
                   rw [hnD] at this; cases this
               · have : j = i := by omega
                 subst this
                 rw [hnD] at hDj; cases hDj
         have hsi : i < listed.size := by rw [hmid.sz]; exact hil
         have hget : ∀ j, (listed.setIfInBounds i true).getD j false = true ↔ listed.getD j false = true ∨ j = i := fun j => zo6 hsi
         have hfun : (fun j => (listed.setIfInBounds i true).getD j false) = fun j => listed.getD j false || Nat.beq j i := by
           funext j
           rw [Bool.eq_iff_iff, hget, Bool.or_eq_true]
           exact ⟨fun h => h.imp id (fun e => by rw [e]; exact Nat.beq_refl _), fun h => h.imp id Nat.eq_of_beq_eq_true⟩
         -- behind the operation
         have hnext : ∀ v c2 w2, VR w2 c2 it.pv v → Good w2 c2 (σ.H ++ z7l (fun j => (listed.setIfInBounds i true).getD j false) its lo) σ.ts → Ext w c w2 c2 →
             wpAny P .any ops Q' fuel (listed.setIfInBounds i true) (a.put o.dst v) w2 := by
           intro v c2 w2 hv hg2 hx2
           have hds : d < a.tmps.size := by rw [hmid.size]; exact hdlt
           have hlt := z1b1 (ops := ops) hil hmid.sz hnD
           refine ih (left ops (listed.setIfInBounds i true)) (by omega) fuel _ c2 _ _ rfl (by omega) ?_ (fun fuel' listed' c' a' w' s1 s2 s3 s4 s5 s6 s7 => hK fuel' listed' c' a' w' s1 s2 s3 s4 s5 (hx2.trans s6) (s7.trans (Act.put_defers' _ _ _)))
           refine ⟨hg2, ?_, by simp [hmid.sz], ?_, ?_, ?_, ?_, ?_⟩
           · rw [hdd]; simp only [Act.put, Array.size_setIfInBounds]; exact hmid.size
           · intro t ht hno
             rw [hdd, zwg _ _ _ _ hds]
             have hne : d ≠ t := fun e => hno i o hlo ((hget i).2 (.inr rfl)) ho (by rw [hdd, e])
             rw [if_neg hne]
             exact (hmid.old t ht (fun j oj hjl hDj => hno j oj hjl ((hget j).2 (.inl hDj)))).ext hx2
           · intro j oj itj t hjl hDj hoj hpj hjt ht
             rw [hdd, zwg _ _ _ _ hds]
             by_cases hji : j = i
             · subst hji
               rw [ho] at hoj; cases hoj
               rw [hdd] at hjt; cases hjt
               rw [if_pos rfl]
               rw [hit] at hpj; cases hpj
               exact hv
             · have hDj' := ((hget j).1 hDj).resolve_right hji
               have hjh := hmid.below j hDj'
               have hne : d ≠ t := by
                 intro e
                 subst e
                 rcases Nat.lt_or_ge j i with h | h
                 · exact (hpair j i oj o hjl h hhi hoj ho).1 (by rw [hjt, hdd])
                 · exact (hpair i j o oj hlo (by omega) hjh ho hoj).1 (by rw [hjt, hdd])
               rw [if_neg hne]
               exact (hmid.new j oj itj t hjl hDj' hoj hpj hjt ht).ext hx2
           · intro j oj e hDj hoj he hb
             rcases (hget j).1 hDj with h | h
             · exact (hget _).2 (.inl (hmid.closed j oj e h hoj he hb))
             · subst h
               rw [ho] at hoj; cases hoj
               exact (hget _).2 (.inl (hedges e (by simpa using he) hb))
           · intro j hjl hjs
             exact (hget j).2 (.inl (hmid.ahead j hjl hjs))
           · intro j hDj
             rcases (hget j).1 hDj with h | h
             · exact hmid.below j h
             · subst h; exact hhi
         -- a value alone: the objects stay
         have hstay : (∀ b cs e, it ≠ .al b cs e) → z7l (fun j => (listed.setIfInBounds i true).getD j false) its lo = z7l (fun j => listed.getD j false) its lo := fun hne => by
           rw [hfun]
           refine zq0 its lo fun k b cs e hk => ?_
           have : Nat.beq (lo + k) i = false := by
             cases hb : Nat.beq (lo + k) i with
             | false => rfl
             | true =>
               have e1 := Nat.eq_of_beq_eq_true hb
               have : its[i - lo]? = some (.al b cs e) := by rw [← e1, Nat.add_sub_cancel_left]; exact hk
               rw [hit] at this; cases this
               exact absurd rfl (hne b cs e)
           simp only [this, Bool.or_false]
         unfold wpOp
         rw [ho]
         simp only
         cases it with
         | q p =>
           obtain ⟨g, hg, hstep⟩ := hati
           rw [z2p hslo hg]
           have hst := hstay (fun _ _ _ h => by cases h)
           cases g with
           | true =>
             simp only [if_true] at hstep ⊢
             obtain ⟨h1, h2, h3⟩ := zaz ((seg ops lo hi).take (i - lo)) ((its.map Item.pv).take (i - lo)) σ
             have hrel : RelC w c { (pre (seg ops lo hi) (its.map Item.pv) σ (i - lo)).keep (o.looksAt ops) with H := σ.H ++ z7l (fun j => listed.getD j false) its lo } a :=
               ⟨by simp only [AS.keep, pre, h3]; exact hmid.good, hslo⟩
             refine .inl (hstep _ (hX _) c a w _ Q' hrel fun v w2 hv hg2 hx2 => ?_)
             refine hnext v c w2 hv ?_ hx2
             rw [hst]
             simpa only [AS.keep, pre, h3] using hg2
           | false =>
             simp only [Bool.false_eq_true, if_false] at hstep ⊢
             subst hstep
             refine hnext undef c w zoa ?_ (Ext.refl _ _)
             rw [hst]; exact hmid.good
         | al b cs e =>
           obtain ⟨hbn, hg, hlays⟩ := hati
           rw [z2p hslo hg]
           simp only [if_true]
           obtain ⟨k1, k2⟩ := z14m (f := fun j => listed.getD j false) its lo (i - lo) hit (by rw [show lo + (i - lo) = i by omega]; exact hnD)
           rw [show lo + (i - lo) = i by omega] at k2
           have hgone : (σ.H ++ z7l (fun j => listed.getD j false) its lo)[b]? = some .gone := by
             rw [hbn, List.getElem?_append_right (by omega), Nat.add_sub_cancel_left]; exact k1
           have hset : (σ.H ++ z7l (fun j => listed.getD j false) its lo).set b (.row cs e) = σ.H ++ z7l (fun j => (listed.setIfInBounds i true).getD j false) its lo := by
             rw [hfun, k2, hbn, List.set_append_right _ _ (by omega), Nat.add_sub_cancel_left]
           have fin : ∀ vs : Array Value, vs.size = cs.length → Leafs cs → VRs w c cs (fun i => vs[i]?) → wpAny P .any ops Q' fuel (listed.setIfInBounds i true) (a.put o.dst (.pointer (some ⟨w.heap.size, 0, none⟩))) (grow w (.cells vs e (0, 0))) := by
             intro vs hvn hlf hvr
             obtain ⟨g2, x2, hs2⟩ := z1hi hmid.good hgone (e := e) (fr := (0, 0)) (Nat.le_of_eq hvn.symm) (zf4 _) hlf hvr
             refine hnext _ _ _ ?_ (hset ▸ g2) x2
             simp only [Item.pv, VR]
             exact ⟨w.heap.size, hs2, rfl⟩
           refine .inl ?_
           rcases hlays with ⟨z, hop, hz, hzn, hzl, hcs⟩ | ⟨x, p, hop, hx, hst, hcs⟩
           · obtain ⟨zv, z1, z2, z3⟩ := zb5 (w := w) hz
             refine z9z (v := .pointer (some ⟨w.heap.size, 0, none⟩)) (w' := grow w (.cells zv.cells e (0, 0))) ?_ (fin zv.cells (by rw [← hzn]; exact z2) hzl (hcs w c _ ⟨_, _, hmid.good⟩ (z3 c)))
             simp only [execOp, hop, Instr.alloc, newVar, newRow, Sem.run_bind, z1, run_newObj, Result.andThen_ok, Sem.run_pure]; rfl
           · have hv := hslo.eval x
             rw [hx] at hv
             obtain ⟨h1, h2, h3⟩ := zza hst hv
             refine z9z (v := .pointer (some ⟨w.heap.size, 0, none⟩)) (w' := grow w (.cells (a.eval x).cells e (0, 0))) ?_ (fin _ (by rw [hcs]; exact h1) (hcs ▸ h2) (hcs ▸ h3))
             simp only [execOp, hop, Instr.box, newVar, newRow, Sem.run_bind, run_newObj, Result.andThen_ok, Sem.run_pure]; rfl
def barOk (ops : Array Oper) (j : Nat) : Bool := zdd ops && (List.range ops.size).all fun k => Nat.beq k j || (bif Nat.blt k j then bef ops j k else bef ops k j)
theorem z1qc {P : Program} {ops : Array Oper} {j : Nat} {o : Oper} {listed : Array Bool} {a : Act} {w : World} {fuel : Nat} {Q' : Exit → Act → World → Prop} (hb : barOk ops j = true) (ho : ops[j]? = some o) (hs : listed.size = ops.size)
   (hl : ∀ k, k < ops.size → (listed.getD k false = true ↔ k < j)) (hc : zt3 ops listed) (hf : left ops listed ≤ fuel)
   (h : ∀ fuel listed', listed'.size = ops.size → (∀ k, k < ops.size → (listed'.getD k false = true ↔ k < j + 1)) → zt3 ops listed' → left ops listed' ≤ fuel → wpOp P ops Q' j (wpAny P .any ops Q' fuel listed') a w) :
   wpAny P .any ops Q' fuel listed a w := by
 simp only [barOk, Bool.and_eq_true] at hb
 obtain ⟨hback, hb⟩ := hb
 have hjs : j < ops.size := (Array.getElem?_eq_some_iff.1 ho).1
 have hnj : listed.getD j false = false := by
   cases h : listed.getD j false with
   | false => rfl
   | true => have := (hl j hjs).1 h; omega
 have hpos := z1ad (ops := ops) hjs hnj
 have hedge : ∀ e, e ∈ o.after → Region.binds .any e = true → listed.getD e.on false = true := fun e he hbe => by
   have hlt := zgc hback ho (Array.mem_toList_iff.2 he) hbe
   exact (hl e.on (by omega)).2 hlt
 cases fuel with
 | zero => omega
 | succ fuel =>
   refine ⟨fun hr => ?_, fun i hi => ?_⟩
   · exfalso
     have : j ∈ Region.ready .any ops listed := by rw [zle hs]; exact ⟨hnj, o, ho, hedge⟩
     rw [hr] at this; cases this
   · rw [zle hs] at hi
     obtain ⟨hni, oi, hoi, hei⟩ := hi
     have his : i < ops.size := (Array.getElem?_eq_some_iff.1 hoi).1
     have hij : i = j := by
       apply Classical.byContradiction
       intro hne
       have hge : j < i := by
         rcases Nat.lt_or_ge i j with h | h
         · have := (hl i his).2 h; rw [hni] at this; cases this
         · omega
       have := List.all_eq_true.1 hb i (by simpa using his)
       simp only [Bool.or_eq_true] at this
       rcases this with h | h
       · exact hne (Nat.eq_of_beq_eq_true h)
       · have hnb : Nat.blt i j = false := by
           cases h2 : Nat.blt i j with
           | false => rfl
           | true => have := Nat.blt_eq.mp h2; omega
         rw [hnb] at h
         have := zls hback hs hc hoi hei h (by omega)
         rw [hnj] at this; cases this
     subst hij
     have hsi : i < listed.size := by omega
     have hlt := z1b1 (ops := ops) hjs hs hnj
     refine h fuel _ (by simp [hs]) (fun k hk => ?_) (fun k o' e hk ho' he hbe => ?_) (by omega)
     · rw [zo6 hsi, hl k hk]; omega
     · rw [zo6 hsi] at hk ⊢
       rcases hk with hk | hk
       · exact .inl (hc k o' e hk ho' he hbe)
       · subst hk
         rw [ho] at ho'; cases ho'
         exact .inl (hedge e (by simpa using he) hbe)
theorem z1qo {P : Program} {ops : Array Oper} {listed : Array Bool} {a : Act} {w : World} {Q' : Exit → Act → World → Prop} (hs : listed.size = ops.size) (hl : ∀ k, k < ops.size → listed.getD k false = true) (h : Q' .normal a w) :
   ∀ fuel, wpAny P .any ops Q' fuel listed a w := by
 have hr : Region.ready .any ops listed = [] := by
   apply List.eq_nil_iff_forall_not_mem.2
   intro j hj
   rw [zle hs] at hj
   obtain ⟨h1, o, h2, _⟩ := hj
   have := hl j (Array.getElem?_eq_some_iff.1 h2).1
   rw [h1] at this; cases this
 intro fuel
 cases fuel with
 | zero => exact ⟨hr, h⟩
 | succ fuel => exact ⟨fun _ => h, fun i hi => by rw [hr] at hi; cases hi⟩
end Go.Ab
set_option linter.unusedSimpArgs false
set_option linter.unusedVariables false
namespace Go.Ab
theorem z1p0 {P : Program} {o : Oper} {σ : AS} {t t2 e : TypeId} {x y : Operand} {len m sz nb : Nat} {cs news : List PV}
   (ho : o.op = .call { callee := .builtin .append, args := #[x, y], argTypes := #[t, t2] }) (ht : P.underlying t = some (.slice e)) (he : ElemT P e sz nb) (ht2 : srcTy P t2 = true)
   (hx : σ.eval x = .tr len cs .full) (hcs : cs.length = len * sz) (hsrc : SrcOK P σ y m sz news) (hb : (len + m) * nb ≤ 2 ^ 47) : QStep P o σ (.tr (len + m) (cs ++ news) .no) := by
 intro c a w K Q hr hK
 have hv := hr.2.eval x
 rw [hx] at hv
 simp only [VR] at hv
 obtain ⟨hnl, hnlf, hsr⟩ := hsrc
 obtain ⟨hlen, us, hus, husz, husv⟩ := hsr w c a hr
 have done : ∀ (v : Value) (w' : World), (Builtin.append_ #[t, t2] o.type #[a.eval x, a.eval y]).run P w = .ok v w' →
     Good w' c σ.H σ.ts → Ext w c w' c → VR w' c (.tr (len + m) (cs ++ news) .no) v → o.wp P a w K Q := by
   intro v w' hrun hg hxt hvr
   refine z9z (v := v) (w' := w') (zal ho ?_) (hK v w' hvr hg hxt)
   simp only [List.map_toArray, List.map_cons, List.map_nil, builtin, Sem.run_bind, hrun, Result.andThen_ok]; rfl
 have growing : ∀ (b : Option Addr) (cap : Nat), a.eval x = .slice b len cap → (∃ os : Array Value, (∀ n, (Builtin.firstCells sz len (.slice b len cap)).run P { w with drawn := n } = .ok os { w with drawn := n }) ∧
     os.size = len * sz ∧ VRs w c cs (fun i => os[i]?)) → Leafs cs → ¬ len + m ≤ cap → o.wp P a w K Q := by
   intro b cap hxe ⟨os, hos, hosz, hosv⟩ hlf hroom
   obtain ⟨rest, ncap, hn1, hn2, hrun⟩ := zpy (P := P) (t := t) (t2 := t2) ht he ht2 hlen hos hus hroom hb o.type
   rw [← hxe] at hrun
   have hq := zhm hr.1 (w.drawn + 1)
   obtain ⟨g2, x2⟩ := z16o hq.1 (.cells (os ++ us ++ rest) e (0, 0))
   refine done _ _ hrun g2 (hq.2.trans x2) ?_
   simp only [VR]
   refine .inr ⟨_, ncap, rfl, hn1, Foot.new hr.1 (by simp [grow]) _ _ _ rfl, trivial, fun q hq => (List.mem_append.1 hq).elim (hlf q) (hnlf q), z2d fun i p hp => ?_⟩
   show ∃ v, (grow _ _).cell? ⟨w.heap.size, 0 + i, none⟩ = some v ∧ _
   have hnew : (grow { w with drawn := w.drawn + 1 } (.cells (os ++ us ++ rest) e (0, 0))).heap[w.heap.size]? = some (.cells (os ++ us ++ rest) e (0, 0)) := zoi _ _
   rw [zhf hnew, Nat.zero_add]
   by_cases hi : i < len * sz
   · rw [List.getElem?_append_left (by omega)] at hp
     obtain ⟨v, h1, h2⟩ := z0s hosv hp
     refine ⟨v, ?_, h2.ext (hq.2.trans x2)⟩
     rw [Array.append_assoc, Array.getElem?_append_left (by omega)]; exact h1
   · have hi2 := (List.getElem?_eq_some_iff.1 hp).1
     simp [hcs, hnl] at hi2
     rw [List.getElem?_append_right (by omega), hcs] at hp
     obtain ⟨v, h1, h2⟩ := z0s husv hp
     refine ⟨v, ?_, h2.ext (hq.2.trans x2)⟩
     rw [Array.append_assoc, Array.getElem?_append_right (by omega), Array.getElem?_append_left (by omega), hosz]; exact h1
 rcases hv with ⟨hxe, hl0, hc0, hnt⟩ | ⟨ad, cap, hxe, hcap, hft, htail, hlf, hcells⟩
 · subst hl0; subst hc0
   by_cases hm : m = 0
   · subst hm
     have hn0 : news = [] := List.eq_nil_of_length_eq_zero (by rw [hnl]; simp)
     subst hn0
     have hrun := zj3 (P := P) (w := w) (t := t) (t2 := t2) (b := none) (len := 0) (cap := 0) ht he.size ht2 hlen (hus w.drawn) (by rw [husz]; simp) (Nat.le_refl _) o.type
     rw [← hxe] at hrun
     refine done _ w hrun hr.1 (Ext.refl _ _) ?_
     rw [hxe]; simp only [VR]; exact .inl ⟨trivial, trivial, by simp, rfl⟩
   · exact growing none 0 hxe ⟨#[], fun n => rfl, by simp, by simp only [VRs]⟩ (fun q hq => by cases hq) (by omega)
 · have hread : ∃ os : Array Value, (∀ n, (Builtin.firstCells sz len (.slice (some ad) len cap)).run P { w with drawn := n } = .ok os { w with drawn := n }) ∧
       os.size = len * sz ∧ VRs w c cs (fun i => os[i]?) := by
     obtain ⟨os, h1, h2, h3⟩ := z1rq (P := P) cs hft hcells
     refine ⟨os, fun n => ?_, by rw [h2, hcs], h3⟩
     show (loadCells ad (len * sz)).run P _ = _
     rw [← hcs]; exact h1 n
   have hce : cap = len := htail
   by_cases hm : m = 0
   · subst hm
     have hn0 : news = [] := List.eq_nil_of_length_eq_zero (by rw [hnl]; simp)
     subst hn0
     have hrun := zj3 (P := P) (w := w) (t := t) (t2 := t2) (b := some ad) (len := len) (cap := cap) ht he.size ht2 hlen (hus w.drawn) (by rw [husz]; simp) hcap o.type
     rw [← hxe] at hrun
     refine done _ w hrun hr.1 (Ext.refl _ _) ?_
     rw [hxe]; simp only [VR]
     exact .inr ⟨ad, cap, rfl, hcap, by simpa using hft, trivial, by simpa using hlf, by simpa using hcells⟩
   · exact growing (some ad) cap hxe hread hlf (by omega)
def z1k (σ : AS) (x : Option Operand) (d n : Nat) : Prop :=
 match x with
 | some y => ∃ k i, σ.eval y = .val (.int k i) ∧ 0 ≤ i ∧ i.toNat = n
 | none => n = d
theorem zf3 {P : Program} {w : World} {k : IntKind} {i : Int} {y : Nat} {code : BoundsCode} (h0 : 0 ≤ i) (h1 : i.toNat ≤ y) : (Instr.sliceBound (.int k i) y code).run P w = .ok i.toNat w := by
 unfold Instr.sliceBound
 simp only [Sem.run_bind, zni, Result.andThen_ok]
 rw [if_pos ⟨h0, by omega⟩]; rfl
theorem zhp {P : Program} {w : World} {c : Cx} {σ : AS} {a : Act} (hr : RelC w c σ a) {lo hi : Option Operand} {b : Bool} {len cap l h : Nat} (hl : z1k σ lo 0 l) (hh : z1k σ hi len h) (h1 : l ≤ h) (h2 : h ≤ cap) :
   (Instr.sliceBounds b len cap (lo.map a.eval) (hi.map a.eval) none).run P w = .ok (l, h, cap) w := by
 unfold Instr.sliceBounds
 cases hi with
 | none =>
   simp only [z1k] at hh; subst hh
   cases lo with
   | none =>
     simp only [z1k] at hl; subst hl
     simp
   | some y =>
     obtain ⟨k, i, e, h0, rfl⟩ := hl
     have ev := z0r hr.2 e
     simp [ev, zf3 h0 h1]
 | some z =>
   obtain ⟨k', i', e', h0', rfl⟩ := hh
   have ev' := z0r hr.2 e'
   cases lo with
   | none =>
     simp only [z1k] at hl; subst hl
     simp [ev', zf3 h0' h2]
   | some y =>
     obtain ⟨k, i, e, h0, rfl⟩ := hl
     have ev := z0r hr.2 e
     simp [ev, ev', zf3 h0' h2, zf3 h0 h1]
theorem z1lh {P : Program} {o : Oper} {σ : AS} {t : TypeId} {x : Operand} {lo hi : Option Operand} {s : ByteArray} {l h : Nat} (ho : o.op = .slice t x lo hi none) (ht : P.underlying t = some .string)
   (hx : σ.eval x = .val (.string s)) (hl : z1k σ lo 0 l) (hh : z1k σ hi s.size h) (h1 : l ≤ h) (h2 : h ≤ s.size) : QStep P o σ (.val (.string (s.extract l h))) :=
 q_run fun w c a hr => by
   have e := z0r hr.2 hx
   refine ⟨_, ?_, z4f rfl⟩
   simp only [execOp, ho, e, Instr.sliceAt, Instr.slice, Sem.run_bind, run_underlying ht, Result.andThen_ok, Option.map_none, Option.isSome_none, Bool.false_eq_true, if_false, zhp hr hl hh h1 h2, Sem.run_pure]
theorem z1n6 {P : Program} {o : Oper} {σ : AS} {t e : TypeId} {x : Operand} {lo hi : Option Operand} {len sz l h : Nat} {cs : List PV} {tl : Tail} (ho : o.op = .slice t x lo hi none) (ht : P.underlying t = some (.slice e)) (hs : tySz P e = some sz)
   (hx : σ.eval x = .tr len cs tl) (hcs : cs.length = len * sz) (hl : z1k σ lo 0 l) (hh : z1k σ hi len h) (h1 : l ≤ h) (h2 : h ≤ len) : QStep P o σ (.tr (h - l) ((cs.drop (l * sz)).take ((h - l) * sz)) .no) :=
 q_run fun w c a hr => by
   have hv := hr.2.eval x
   rw [hx] at hv
   have hv' := hv
   simp only [VR] at hv
   rcases hv with ⟨hxe, hl0, hc0, hnt⟩ | ⟨ad, cap, hxe, hcap, hft, htail, hlf, hcells⟩
   · subst hl0; subst hc0
     have e1 : h = 0 := by omega
     have e2 : l = 0 := by omega
     subst e1; subst e2
     refine ⟨.slice none 0 0, ?_, ?_⟩
     · simp only [execOp, ho, hxe, Instr.sliceAt, Instr.slice, Sem.run_bind, run_underlying ht, Result.andThen_ok, Option.map_none, zhp hr hl hh (Nat.le_refl 0) (Nat.le_refl 0), run_sizeOf hs]
       rfl
     · simp only [VR]; exact .inl ⟨by simp, by simp, by simp, rfl⟩
   · refine ⟨.slice (if cap = l then some ad else (some ad).map (·.add (l * sz))) (h - l) (cap - l), ?_, ?_⟩
     · simp only [execOp, ho, hxe, Instr.sliceAt, Instr.slice, Sem.run_bind, run_underlying ht, Result.andThen_ok, Option.map_none, zhp hr hl hh h1 (show h ≤ cap by omega), run_sizeOf hs]
       rfl
     · by_cases hcl : cap = l
       · have e1 : h = l := by omega
         simp only [VR]
         rw [if_pos hcl]
         refine .inr ⟨ad, cap - l, rfl, by omega, .inl (by simp [e1]), trivial, ?_, ?_⟩
         · intro q hq; simp [e1] at hq
         · rw [e1, Nat.sub_self, Nat.zero_mul, List.take_zero]; simp only [VRs]
       · rw [if_neg hcl]
         have hmul : l * sz + (h - l) * sz ≤ len * sz := by rw [← Nat.add_mul]; exact Nat.mul_le_mul_right _ (by omega)
         have hfz := zq6 hr.1 hft hlf hcells (l * sz)
         simp only [VR] at hfz
         obtain ⟨a', e1, f1, f2, f3⟩ := hfz
         simp only [Value.pointer.injEq, Option.some.injEq] at e1
         subst e1
         simp only [VR, Option.map_some]
         refine .inr ⟨ad.add (l * sz), cap - l, rfl, by omega, ?_, trivial, fun q hq => f2 q (List.mem_of_mem_take hq), z14t f3 _⟩
         have := hft.le hr.1 (m := (h - l) * sz) (l * sz) (by omega)
         have hlen : ((cs.drop (l * sz)).take ((h - l) * sz)).length = (h - l) * sz := by simp; omega
         rw [hlen]; exact this
end Go.Ab
set_option linter.unusedSimpArgs false
set_option linter.unusedVariables false
namespace Go.Ab
mutual
def PV.ren (f : Nat → Option Nat) : PV → PV
 | .val v => .val v
 | .ptr b off => match f b with
   | some j => .ptr j off
   | none => .one
 | .fz cs => .fz (rens f cs)
 | .sl b off len sz => match f b with
   | some j => .sl j off len sz
   | none => .one
 | .tr len cs t => .tr len (rens f cs) t
 | .fn g caps => .fn g (rens f caps)
 | .agg cs => .agg (rens f cs)
 | .tup cs => .tup (rens f cs)
 | .ifc t p => .ifc t (p.ren f)
 | .one => .one
 | .dead => .dead
def rens (f : Nat → Option Nat) : List PV → List PV
 | [] => []
 | p :: ps => p.ren f :: rens f ps
end
theorem z13m (f : Nat → Option Nat) : ∀ ps : List PV, rens f ps = ps.map (PV.ren f)
 | [] => rfl
 | p :: ps => by simp only [rens, List.map_cons, z13m f ps]
theorem zl7 (f : Nat → Option Nat) (ps : List PV) : (rens f ps).length = ps.length := by rw [z13m]; simp
theorem z1pf (f : Nat → Option Nat) (p : PV) : leaf (p.ren f) = leaf p := by
 cases p <;> first | rfl | (simp only [PV.ren]; split <;> rfl)
theorem zm2 {f : Nat → Option Nat} {ps : List PV} (h : Leafs ps) : Leafs (rens f ps) := fun q hq => by
 rw [z13m] at hq
 simp only [List.mem_map] at hq
 obtain ⟨p, hp, rfl⟩ := hq
 rw [z1pf]; exact h p hp
structure Mv (f : Nat → Option Nat) (w : World) (c : Cx) (w' : World) (c' : Cx) : Prop where
 noT : c.T = []
 id : ∀ b j k : Nat, f b = some j → c.m[b]? = some (some k) → c'.m[j]? = some (some k)
 foot : ∀ a n, Foot w c a n → Foot w' c' a n
 cell : ∀ (a : Addr) n, Foot w c a n → ∀ i v, i < n → w.cell? ⟨a.block, a.off + i, none⟩ = some v → w'.cell? ⟨a.block, a.off + i, none⟩ = some v
 room : ∀ (k : Nat) (vs : Array Value) (e : TypeId) (fr : Nat × Nat), w.heap[k]? = some (Obj.cells vs e fr) → ∃ (vs' : Array Value) (fr' : Nat × Nat), w'.heap[k]? = some (Obj.cells vs' e fr') ∧ vs'.size = vs.size
mutual
theorem VR.move {f : Nat → Option Nat} {w w' : World} {c c' : Cx} (x : Mv f w c w' c') : ∀ (p : PV) {v : Value}, VR w c p v → VR w' c' (p.ren f) v
 | .val _, _, h => by simp only [VR, PV.ren] at h ⊢; exact h
 | .ptr b off, _, h => by
   simp only [VR, PV.ren] at h ⊢
   obtain ⟨k, h1, rfl⟩ := h
   cases hf : f b with
   | none => simp only [VR]; rfl
   | some j => simp only [VR]; exact ⟨k, x.id _ _ _ hf h1, rfl⟩
 | .fz cs, _, h => by
   simp only [VR, PV.ren] at h ⊢
   obtain ⟨a, h1, h2, h3, h4⟩ := h
   rw [zl7]
   exact ⟨a, h1, x.foot _ _ h2, zm2 h3, VRs.move x cs (fun i hi v hv => x.cell a _ h2 i v hi hv) h4⟩
 | .sl b off len sz, _, h => by
   simp only [VR, PV.ren] at h ⊢
   cases hf : f b with
   | none =>
     simp only [VR]
     rcases h with ⟨⟨_, rfl⟩, _⟩ | ⟨k, cap, off', _, rfl, _⟩ <;> rfl
   | some j =>
     simp only [VR]
     rcases h with h | ⟨k, cap, off', h1, h2, h0, h3, vs, e, fr, h4, h5⟩
     · exact .inl h
     · obtain ⟨vs', fr', h6, h7⟩ := x.room k vs e fr h4
       exact .inr ⟨k, cap, off', x.id _ _ _ hf h1, h2, h0, h3, vs', e, fr', h6, by omega⟩
 | .tr len cs t, _, h => by
   simp only [VR, PV.ren] at h ⊢
   rw [zl7]
   rcases h with ⟨h1, h2, h3, h4⟩ | ⟨a, cap, h1, hc, h2, h4, h5, h3⟩
   · exact .inl ⟨h1, h2, by rw [h3]; rfl, h4⟩
   · refine .inr ⟨a, cap, h1, hc, x.foot _ _ h2, ?_, zm2 h5, VRs.move x cs (fun i hi v hv => x.cell a _ h2 i v hi hv) h3⟩
     cases t with
     | no => trivial
     | full => exact h4
     | tok i sz => have := h4.1; rw [x.noT] at this; simp at this
 | .fn g caps, _, h => by
   simp only [VR, PV.ren] at h ⊢
   obtain ⟨cv, h1, h2, h3⟩ := h
   exact ⟨cv, h1, by rw [zl7]; exact h2, VRs.move x caps (fun _ _ _ e => e) h3⟩
 | .agg cs, _, h => by
   simp only [VR, PV.ren] at h ⊢
   obtain ⟨cv, h1, h2, h4, h3⟩ := h
   exact ⟨cv, h1, by rw [zl7]; exact h2, zm2 h4, VRs.move x cs (fun _ _ _ e => e) h3⟩
 | .tup cs, _, h => by
   simp only [VR, PV.ren] at h ⊢
   obtain ⟨cv, h1, h2, h3⟩ := h
   exact ⟨cv, h1, by rw [zl7]; exact h2, VRs.move x cs (fun _ _ _ e => e) h3⟩
 | .ifc t p, _, h => by
   simp only [VR, PV.ren] at h ⊢
   obtain ⟨v, h1, h2⟩ := h
   exact ⟨v, h1, VR.move x p h2⟩
 | .one, _, h => by simp only [VR, PV.ren] at h ⊢; exact h
 | .dead, _, _ => by simp only [VR, PV.ren]
theorem VRs.move {f : Nat → Option Nat} {w w' : World} {c c' : Cx} (x : Mv f w c w' c') : ∀ (ps : List PV) {g g' : Nat → Option Value},
   (∀ i, i < ps.length → ∀ v, g i = some v → g' i = some v) → VRs w c ps g → VRs w' c' (rens f ps) g'
 | [], _, _, _, _ => by simp only [VRs, rens]
 | p :: ps, g, g', hfg, h => by
   simp only [VRs, rens] at h ⊢
   obtain ⟨⟨v, h1, h2⟩, h3⟩ := h
   exact ⟨⟨v, hfg 0 (by simp) v h1, VR.move x p h2⟩, VRs.move x ps (fun i hi u hu => hfg (i + 1) (by simp; omega) u hu) h3⟩
end
mutual
theorem z1b4 {f : Nat → Option Nat} : ∀ {p : PV}, Pure p → p.ren f = p
 | .val _, _ => rfl
 | .ptr _ _, h => by simp only [Pure] at h
 | .fz cs, h => by simp only [Pure, PV.ren] at h ⊢; rw [z8b h]
 | .sl _ _ _ _, h => by simp only [Pure] at h
 | .tr _ cs t, h => by simp only [Pure, PV.ren] at h ⊢; rw [z8b h.2]
 | .fn _ caps, h => by simp only [Pure, PV.ren] at h ⊢; rw [z8b h]
 | .agg cs, h => by simp only [Pure, PV.ren] at h ⊢; rw [z8b h]
 | .tup cs, h => by simp only [Pure, PV.ren] at h ⊢; rw [z8b h]
 | .ifc _ p, h => by simp only [Pure, PV.ren] at h ⊢; rw [z1b4 h]
 | .one, _ => rfl
 | .dead, _ => rfl
theorem z8b {f : Nat → Option Nat} : ∀ {ps : List PV}, Pures ps → rens f ps = ps
 | [], _ => rfl
 | p :: ps, h => by simp only [Pures, rens] at h ⊢; rw [z1b4 h.1, z8b h.2]
end
def reCx (c : Cx) (ρ : List (Option Nat)) : Cx := { c with m := ρ.map fun o => o.bind fun b => (c.m[b]?).join }
theorem zro {c : Cx} {ρ : List (Option Nat)} {j k : Nat} (h : (reCx c ρ).m[j]? = some (some k)) : ∃ b, ρ[j]? = some (some b) ∧ c.m[b]? = some (some k) := by
 simp only [reCx, List.getElem?_map, Option.map_eq_some_iff] at h
 obtain ⟨o, h1, h2⟩ := h
 cases o with
 | none => simp at h2
 | some b =>
   simp only [Option.bind_some] at h2
   cases hm : c.m[b]? with
   | none => rw [hm] at h2; simp at h2
   | some m =>
     rw [hm] at h2
     simp only [Option.join_some] at h2
     exact ⟨b, h1, by rw [← h2]; exact hm⟩
theorem z1e7 {c : Cx} {ρ : List (Option Nat)} {j b k : Nat} (h : ρ[j]? = some (some b)) (hk : c.m[b]? = some (some k)) : (reCx c ρ).m[j]? = some (some k) := by
 simp only [reCx, List.getElem?_map, h, Option.map_some, Option.bind_some, hk, Option.join_some]
theorem z1f6 {c : Cx} {ρ : List (Option Nat)} {j : Nat} (h : ρ[j]? = some none) : (reCx c ρ).m[j]? = some none := by
 simp only [reCx, List.getElem?_map, h, Option.map_some, Option.bind_none]
theorem z1ld {c : Cx} {ρ : List (Option Nat)} {j b : Nat} (h : ρ[j]? = some (some b)) (hb : c.m[b]? = some none) : (reCx c ρ).m[j]? = some none := by
 simp only [reCx, List.getElem?_map, h, Option.map_some, Option.bind_some, hb, Option.join_some]
theorem z1i1 {c : Cx} {ρ : List (Option Nat)} {k : Nat} (h : some k ∈ (reCx c ρ).m) : some k ∈ c.m := by
 obtain ⟨j, hj⟩ := List.mem_iff_getElem?.1 h
 obtain ⟨b, _, hb⟩ := zro hj
 exact List.mem_iff_getElem?.2 ⟨b, hb⟩
structure Names (pn : Nat) (ρ : List (Option Nat)) : Prop where
 inj : ∀ i j b : Nat, ρ[i]? = some (some b) → ρ[j]? = some (some b) → i = j
 pin : ∀ b : Nat, b < pn → ρ[b]? = some (some b)
theorem z16j {w : World} {c : Cx} {ρ : List (Option Nat)} {a : Addr} {n : Nat} (h : Foot w c a n) : Foot w (reCx c ρ) a n := by
 rcases h with h | ⟨h1, h2, h3, h4, h5⟩
 · exact .inl h
 · exact .inr ⟨h1, h2, fun hm => h3 (z1i1 hm), h4, h5⟩
theorem z1rd {w : World} {c : Cx} {ρ : List (Option Nat)} {f : Nat → Option Nat} (hT : c.T = []) (hf : ∀ b j : Nat, f b = some j → ρ[j]? = some (some b)) : Mv f w c w (reCx c ρ) where
 noT := hT
 id := fun b j k hl hk => z1e7 (hf b j hl) hk
 foot := fun a n h => z16j h
 cell := fun a n _ i v _ hv => hv
 room := fun k vs e fr h => ⟨vs, fr, h, rfl⟩
theorem z1ri {w : World} {c : Cx} {H H2 : List AObj} (g : Good w c H []) {ρ : List (Option Nat)} (hρ : Names c.pn ρ) (hl : H2.length = ρ.length)
   (hobj : ∀ (j : Nat) o, H2[j]? = some o → (ρ[j]? = some none ∧ (o = .gone ∨ ∃ e, o = .row [] e)) ∨ (∃ b cs e cs2, ρ[j]? = some (some b) ∧ H[b]? = some (.row cs e) ∧ o = .row cs2 e ∧ cs2.length = cs.length ∧ Leafs cs2 ∧
     ∀ fv, VRs w c cs fv → VRs w (reCx c ρ) cs2 fv) ∨ ∃ b, ρ[j]? = some (some b) ∧ o = .gone ∧ ∀ k : Nat, c.m[b]? ≠ some (some k)) : Good w (reCx c ρ) H2 [] where
 len := by simp [reCx, hl]
 inj := fun i j k h1 h2 => by
   obtain ⟨b, e1, e2⟩ := zro h1
   obtain ⟨b', e3, e4⟩ := zro h2
   have := g.inj b b' k e2 e4
   subst this
   exact hρ.inj i j b e1 e3
 obj := fun j o ho => by
   rcases hobj j o ho with ⟨h1, rfl | ⟨e, rfl⟩⟩ | ⟨b, cs, e, cs2, h1, h2, rfl, h3, h4, h5⟩ | ⟨b, h1, rfl, h2⟩
   · exact z1f6 h1
   · exact .inl ⟨rfl, z1f6 h1⟩
   · rcases g.obj b _ h2 with ⟨h6, h7⟩ | ⟨k, vs, fr, h6, h7, h8, h9, h10, h11⟩
     · exact .inl ⟨List.length_eq_zero_iff.1 (by rw [h3, h6]; rfl), z1ld h1 h7⟩
     · exact .inr ⟨k, vs, fr, z1e7 h1 h6, h7, h8, by rw [h3]; exact h9, h4, h5 _ h11⟩
   · show (reCx c ρ).m[j]? = some none
     simp only [reCx, List.getElem?_map, h1, Option.map_some, Option.bind_some]
     congr 1
     cases hm : c.m[b]? with
     | none => rfl
     | some m =>
       cases m with
       | none => rfl
       | some k => exact absurd hm (h2 k)
 tl := g.tl
 tal := g.tal
 tdead := g.tdead
 tok := fun i k j h => by
   have hT0 : c.T = [] := List.eq_nil_of_length_eq_zero (by rw [g.tl]; rfl)
   simp only [reCx, hT0] at h
   simp at h
 tinj := g.tinj
 okn := g.okn
 okm := g.okm
 okt := g.okt
 oko := fun j k hj h e => by
   obtain ⟨b, e1, e2⟩ := zro h
   refine g.oko b k ?_ e2 e
   apply Classical.byContradiction
   intro hlt
   have hb : b < c.pn := by omega
   have := hρ.inj j b b e1 (hρ.pin b hb)
   have hj' : c.pn ≤ j := hj
   omega
 gl := g.gl.sub (fun k h => by
   obtain ⟨j, hj⟩ := List.mem_iff_getElem?.1 h
   obtain ⟨b, _, e2⟩ := zro hj
   exact List.mem_iff_getElem?.2 ⟨b, e2⟩) fun i k j h => ⟨i, h⟩
end Go.Ab
set_option linter.unusedSimpArgs false
set_option linter.unusedVariables false
namespace Go.Ab
structure ExtP (p : Nat) (w : World) (c : Cx) (w' : World) (c' : Cx) : Prop where
 os : w'.os = w.os
 tape : w'.tape = w.tape
 output : w'.output = w.output
 size : w.heap.size ≤ w'.heap.size
 new : ∀ k : Nat, some k ∈ c'.m → some k ∈ c.m ∨ w.heap.size ≤ k
 blocks : ∀ k : Nat, k < w.heap.size → some k ∉ c.m → w'.heap[k]? = w.heap[k]?
 ok : c'.ok = c.ok
 pn : c'.pn = c.pn
 pin : ∀ b k : Nat, b < p → c.m[b]? = some (some k) → c'.m[b]? = some (some k)
 room : ∀ (k : Nat) (vs : Array Value) (e : TypeId) (fr : Nat × Nat), w.heap[k]? = some (Obj.cells vs e fr) → ∃ (vs' : Array Value) (fr' : Nat × Nat), w'.heap[k]? = some (Obj.cells vs' e fr') ∧ vs'.size = vs.size
def z1ns (P : Program) (f : FuncId) (pn : Nat) (args : List PV) (H : List AObj) (R : PV → List AObj → Prop) : Prop :=
 ∀ w c (vs : Array Value), Good w c H [] → c.pn = pn → vs.size = args.length → VRs w c args (fun i => vs[i]?) →
   Calls P f vs w fun e w' => ∃ v p H' c', e = .returned v ∧ R p H' ∧ Good w' c' H' [] ∧ VR w' c' p v ∧ ExtP pn w c w' c'
structure Hand (c : Cx) (n pn : Nat) (ρ : List Nat) : Prop where
 lt : ∀ j b : Nat, ρ[j]? = some b → b < n
 inj : ∀ i j b : Nat, ρ[i]? = some b → ρ[j]? = some b → i = j
 own : ∀ j b : Nat, pn ≤ j → ρ[j]? = some b → c.pn ≤ b
 pnl : pn ≤ ρ.length
def z2v (w : World) (c : Cx) (pn : Nat) (ρ : List Nat) : Cx where
 m := ρ.map fun b => (c.m[b]?).join
 T := []
 pn := pn
 ok := fun k e => k < w.heap.size → (∃ j b : Nat, pn ≤ j ∧ ρ[j]? = some b ∧ c.m[b]? = some (some k)) ∨ (some k ∉ c.m ∧ c.ok k e)
theorem join_some {l : List (Option Nat)} {b k : Nat} (h : (l[b]?).join = some k) : l[b]? = some (some k) := by
 cases hm : l[b]? with
 | none => rw [hm] at h; simp at h
 | some m => rw [hm] at h; simp only [Option.join_some] at h; rw [h]
theorem zpw {w : World} {c : Cx} {pn : Nat} {ρ : List Nat} {j k : Nat} (h : (z2v w c pn ρ).m[j]? = some (some k)) : ∃ b, ρ[j]? = some b ∧ c.m[b]? = some (some k) := by
 simp only [z2v, List.getElem?_map, Option.map_eq_some_iff] at h
 obtain ⟨b, h1, h2⟩ := h
 exact ⟨b, h1, join_some h2⟩
theorem zev {w : World} {c : Cx} {pn : Nat} {ρ : List Nat} {j b : Nat} {o : Option Nat} (h : ρ[j]? = some b) (hb : c.m[b]? = some o) : (z2v w c pn ρ).m[j]? = some o := by
 simp only [z2v, List.getElem?_map, h, Option.map_some, hb, Option.join_some]
theorem zeo {w : World} {c : Cx} {pn : Nat} {ρ : List Nat} {k : Nat} (h : some k ∈ (z2v w c pn ρ).m) : ∃ j b : Nat, ρ[j]? = some b ∧ c.m[b]? = some (some k) := by
 obtain ⟨j, hj⟩ := List.mem_iff_getElem?.1 h
 obtain ⟨b, h1, h2⟩ := zpw hj
 exact ⟨j, b, h1, h2⟩
theorem noT {w : World} {c : Cx} {H : List AObj} (g : Good w c H []) : c.T = [] := List.eq_nil_of_length_eq_zero (by rw [g.tl]; rfl)
theorem z1rn {w : World} {c : Cx} {H : List AObj} (g : Good w c H []) {pn : Nat} {ρ : List Nat} {f : Nat → Option Nat} (hf : ∀ b j : Nat, f b = some j → ρ[j]? = some b) : Mv f w c w (z2v w c pn ρ) where
 noT := noT g
 id := fun b j k hl hk => zev (hf b j hl) hk
 foot := fun a n h => by
   rcases h with h | ⟨h1, h2, h3, h4, h5⟩
   · exact .inl h
   · refine .inr ⟨h1, h2, fun hm => ?_, fun i k h => by simp [z2v] at h, fun _ => .inr ⟨h3, h5⟩⟩
     obtain ⟨j, b, _, hb⟩ := zeo hm
     exact h3 (List.mem_iff_getElem?.2 ⟨b, hb⟩)
 cell := fun a n _ i v _ hv => hv
 room := fun k vs e fr h => ⟨vs, fr, h, rfl⟩
theorem z1fu {w : World} {c : Cx} {H Hc : List AObj} (g : Good w c H []) {pn : Nat} {ρ : List Nat} (hh : Hand c H.length pn ρ) (hl : Hc.length = ρ.length)
   (hobj : ∀ (j b : Nat) o, ρ[j]? = some b → Hc[j]? = some o → (H[b]? = some .gone ∧ o = .gone) ∨ ∃ cs e cs2, H[b]? = some (.row cs e) ∧ o = .row cs2 e ∧ cs2.length = cs.length ∧ Leafs cs2 ∧
     ∀ fv, VRs w c cs fv → VRs w (z2v w c pn ρ) cs2 fv) : Good w (z2v w c pn ρ) Hc [] where
 len := by simp [z2v, hl]
 inj := fun i j k h1 h2 => by
   obtain ⟨b, e1, e2⟩ := zpw h1
   obtain ⟨b', e3, e4⟩ := zpw h2
   have := g.inj b b' k e2 e4
   subst this
   exact hh.inj i j b e1 e3
 obj := fun j o ho => by
   have hj : j < ρ.length := by rw [← hl]; exact (List.getElem?_eq_some_iff.1 ho).1
   have hb := List.getElem?_eq_getElem hj
   generalize ρ[j] = b at hb
   rcases hobj j b o hb ho with ⟨h1, rfl⟩ | ⟨cs, e, cs2, h1, rfl, h3, h4, h5⟩
   · exact zev hb (g.obj b _ h1)
   · rcases g.obj b _ h1 with ⟨h6, h7⟩ | ⟨k, vs, fr, h6, h7, h8, h9, h10, h11⟩
     · exact .inl ⟨List.length_eq_zero_iff.1 (by rw [h3, h6]; rfl), zev hb h7⟩
     · exact .inr ⟨k, vs, fr, zev hb h6, h7, h8, by rw [h3]; exact h9, h4, h5 _ h11⟩
 tl := rfl
 tal := fun i h => by simp at h
 tdead := fun i h => by simp at h
 tok := fun i k j h => by simp [z2v] at h
 tinj := fun i i' k j j' h => by simp [z2v] at h
 okn := fun k e h hk => absurd hk (Nat.not_lt.2 h)
 okm := fun k e e' h he hk => by
   rcases h hk with h | ⟨h1, h2⟩
   · exact .inl h
   · exact .inr ⟨h1, g.okm k e e' h2 he⟩
 okt := fun i k j h => by simp [z2v] at h
 oko := fun j k hj h e _ => by
   obtain ⟨b, h1, h2⟩ := zpw h
   exact .inl ⟨j, b, hj, h1, h2⟩
 gl := g.gl.sub (fun k h => by
   obtain ⟨j, b, _, hb⟩ := zeo h
   exact List.mem_iff_getElem?.2 ⟨b, hb⟩) fun i k j h => by simp [z2v] at h
def posOf (ρ : List Nat) (b : Nat) : Option Nat := ρ.findIdx? (Nat.beq b)
theorem zb2 {ρ : List Nat} {b j : Nat} (h : posOf ρ b = some j) : ρ[j]? = some b := by
 unfold posOf at h
 rw [List.findIdx?_eq_some_iff_getElem] at h
 obtain ⟨h1, h2, _⟩ := h
 rw [List.getElem?_eq_getElem h1, Nat.eq_of_beq_eq_true h2]
theorem zvh {ρ : List Nat} {b : Nat} (h : posOf ρ b = none) (j : Nat) : ρ[j]? ≠ some b := by
 intro hj
 unfold posOf at h
 rw [List.findIdx?_eq_none_iff] at h
 have := h b (List.mem_iff_getElem?.2 ⟨j, hj⟩)
 rw [Nat.beq_refl] at this; cases this
def z1j (c c' : Cx) (n pn : Nat) (ρ : List Nat) : Cx :=
 { c with m := (List.range n).map (fun b => match posOf ρ b with
     | some j => if j < pn then (c'.m[j]?).join else none
     | none => (c.m[b]?).join) ++ c'.m.drop pn }
def zy0 (n pn : Nat) (ρ : List Nat) (j : Nat) : Nat := if j < pn then (ρ[j]?).getD 0 else n + (j - pn)
theorem zff {c c' : Cx} {n pn : Nat} {ρ : List Nat} {b : Nat} (hb : b < n) : (z1j c c' n pn ρ).m[b]? = some (match posOf ρ b with
     | some j => if j < pn then (c'.m[j]?).join else none
     | none => (c.m[b]?).join) := by
 simp only [z1j]
 rw [List.getElem?_append_left (by simpa using hb)]
 simp [hb]
theorem z1bl {c c' : Cx} {n pn : Nat} {ρ : List Nat} {b : Nat} (hb : n ≤ b) : (z1j c c' n pn ρ).m[b]? = c'.m[pn + (b - n)]? := by
 simp only [z1j]
 rw [List.getElem?_append_right (by simpa using hb), List.getElem?_drop]
 simp
theorem zo7 {c c' : Cx} {n pn : Nat} {ρ : List Nat} {b k : Nat} (h : (z1j c c' n pn ρ).m[b]? = some (some k)) :
   (b < n ∧ ∃ j, j < pn ∧ ρ[j]? = some b ∧ c'.m[j]? = some (some k)) ∨ (b < n ∧ (∀ j : Nat, ρ[j]? ≠ some b) ∧ c.m[b]? = some (some k)) ∨ (n ≤ b ∧ c'.m[pn + (b - n)]? = some (some k)) := by
 rcases Nat.lt_or_ge b n with hb | hb
 · rw [zff hb] at h
   simp only [Option.some.injEq] at h
   split at h
   · rename_i j hj
     split at h
     · rename_i hlt
       exact .inl ⟨hb, j, hlt, zb2 hj, join_some h⟩
     · cases h
   · rename_i hn
     exact .inr (.inl ⟨hb, zvh hn, join_some h⟩)
 · rw [z1bl hb] at h
   exact .inr (.inr ⟨hb, h⟩)
theorem z1bx {w w' : World} {c c' : Cx} {H H' H3 : List AObj} (g : Good w c H []) {pn : Nat} {ρ : List Nat} (hh : Hand c H.length pn ρ) (g' : Good w' c' H' []) (x : ExtP pn w (z2v w c pn ρ) w' c') (hpn : pn ≤ H'.length)
   (hlen : H3.length = H.length + (H'.length - pn))
   (hpin : ∀ j b : Nat, j < pn → ρ[j]? = some b → ∃ o o', H'[j]? = some o ∧ H3[b]? = some o' ∧ ((o = .gone ∧ o' = .gone) ∨ ∃ cs e cs2, o = .row cs e ∧ o' = .row cs2 e ∧ cs2.length = cs.length ∧ Leafs cs2 ∧ ∀ fv, VRs w' c' cs fv → VRs w' (z1j c c' H.length pn ρ) cs2 fv))
   (hand : ∀ j b : Nat, pn ≤ j → ρ[j]? = some b → H3[b]? = some .gone)
   (hold : ∀ (b : Nat) o, b < H.length → (∀ j : Nat, ρ[j]? ≠ some b) → H3[b]? = some o → ObjC w' (z1j c c' H.length pn ρ) b o)
   (hnew : ∀ j : Nat, pn ≤ j → j < H'.length → ∃ o o', H'[j]? = some o ∧ H3[H.length + (j - pn)]? = some o' ∧ ((o = .gone ∧ o' = .gone) ∨ ∃ cs e cs2, o = .row cs e ∧ o' = .row cs2 e ∧ cs2.length = cs.length ∧ Leafs cs2 ∧ ∀ fv, VRs w' c' cs fv → VRs w' (z1j c c' H.length pn ρ) cs2 fv)) :
   Good w' (z1j c c' H.length pn ρ) H3 [] ∧ ExtP c.pn w c w' (z1j c c' H.length pn ρ) := by
 have hT := noT g
 have hc'len := g'.len
 -- ids of the callee's, with the caller
 have ids : ∀ j k : Nat, c'.m[j]? = some (some k) → (∃ i b : Nat, ρ[i]? = some b ∧ c.m[b]? = some (some k)) ∨ w.heap.size ≤ k := fun j k h => by
   rcases x.new k (List.mem_iff_getElem?.2 ⟨j, h⟩) with h | h
   · exact .inl (zeo h)
   · exact .inr h
 have pinned : ∀ j b k : Nat, j < pn → ρ[j]? = some b → c.m[b]? = some (some k) → c'.m[j]? = some (some k) := fun j b k hj hb hk => x.pin j k hj (zev hb hk)
 -- an untouched one's id is not the callee's
 have apart : ∀ b j k : Nat, (∀ i : Nat, ρ[i]? ≠ some b) → c.m[b]? = some (some k) → c'.m[j]? = some (some k) → False := fun b j k hb hk hj => by
   rcases ids j k hj with ⟨i, b', h1, h2⟩ | h
   · have := g.inj b b' k hk h2
     subst this
     exact hb i h1
   · have := ObjC.lt g hk; omega
 have hm3 : ∀ k : Nat, some k ∈ (z1j c c' H.length pn ρ).m → some k ∈ c.m ∨ w.heap.size ≤ k := fun k hk => by
   obtain ⟨b, hb⟩ := List.mem_iff_getElem?.1 hk
   have key : ∀ j : Nat, c'.m[j]? = some (some k) → some k ∈ c.m ∨ w.heap.size ≤ k := fun j h => by
     rcases ids j k h with ⟨i, b', _, h2⟩ | h
     · exact .inl (List.mem_iff_getElem?.2 ⟨b', h2⟩)
     · exact .inr h
   rcases zo7 hb with ⟨_, j, _, _, h⟩ | ⟨_, _, h⟩ | ⟨_, h⟩
   · exact key j h
   · exact .inl (List.mem_iff_getElem?.2 ⟨b, h⟩)
   · exact key _ h
 have inj3 : ∀ b b' k : Nat, (z1j c c' H.length pn ρ).m[b]? = some (some k) → (z1j c c' H.length pn ρ).m[b']? = some (some k) → b = b' := by
   intro b b' k h1 h2
   rcases zo7 h1 with ⟨l1, j1, p1, q1, r1⟩ | ⟨l1, q1, r1⟩ | ⟨l1, r1⟩ <;> rcases zo7 h2 with ⟨l2, j2, p2, q2, r2⟩ | ⟨l2, q2, r2⟩ | ⟨l2, r2⟩
   · have := g'.inj j1 j2 k r1 r2
     subst this
     rw [q1] at q2; exact Option.some.inj q2
   · exact (apart b' j1 k q2 r2 r1).elim
   · have := g'.inj j1 _ k r1 r2; omega
   · exact (apart b j2 k q1 r1 r2).elim
   · exact g.inj b b' k r1 r2
   · exact (apart b _ k q1 r1 r2).elim
   · have := g'.inj _ j2 k r1 r2; omega
   · exact (apart b' _ k q2 r2 r1).elim
   · have := g'.inj _ _ k r1 r2; omega
 -- what comes from the callee's heap
 have from' : ∀ (j b : Nat) o o', H'[j]? = some o → (z1j c c' H.length pn ρ).m[b]? = c'.m[j]? → ((o = .gone ∧ o' = .gone) ∨ ∃ cs e cs2, o = .row cs e ∧ o' = .row cs2 e ∧ cs2.length = cs.length ∧ Leafs cs2 ∧ ∀ fv, VRs w' c' cs fv → VRs w' (z1j c c' H.length pn ρ) cs2 fv) →
     ObjC w' (z1j c c' H.length pn ρ) b o' := by
   intro j b o o' ho hm h
   have hob := g'.obj j o ho
   rcases h with ⟨rfl, rfl⟩ | ⟨cs, e, cs2, rfl, rfl, h3, h4, h5⟩
   · exact hm.trans hob
   · rcases hob with ⟨h6, h7⟩ | ⟨k, vs, fr, h6, h7, h8, h9, h10, h11⟩
     · exact .inl ⟨List.length_eq_zero_iff.1 (by rw [h3, h6]; rfl), hm.trans h7⟩
     · exact .inr ⟨k, vs, fr, hm.trans h6, h7, h8, by rw [h3]; exact h9, h4, h5 _ h11⟩
 refine ⟨{ len := ?_, inj := inj3, obj := ?_, tl := by rw [show (z1j c c' H.length pn ρ).T = c.T from rfl, hT]; rfl, tal := fun i h => by simp at h, tdead := fun i h => by simp at h, tok := ?_, tinj := ?_, okn := ?_, okm := g.okm, okt := ?_, oko := ?_, gl := ⟨g'.gl.sz, fun k h => ?_, fun i k j h => by simp only [z1j, hT] at h; simp at h, g'.gl.var⟩ }, ?_⟩
 · simp only [z1j, List.length_append, List.length_map, List.length_range, List.length_drop]; omega
 · intro b o ho
   rcases Nat.lt_or_ge b H.length with hb | hb
   · cases hp : posOf ρ b with
     | some j =>
       have hj := zb2 hp
       by_cases hlt : j < pn
       · obtain ⟨o1, o2, h1, h2, h3⟩ := hpin j b hlt hj
         rw [ho] at h2; cases h2
         refine from' j b o1 o h1 ?_ h3
         rw [zff hb, hp]
         simp only [if_pos hlt]
         have hjl : j < c'.m.length := by rw [hc'len]; omega
         rw [List.getElem?_eq_getElem hjl]; rfl
       · rw [hand j b (by omega) hj] at ho
         cases ho
         show (z1j c c' H.length pn ρ).m[b]? = some none
         rw [zff hb, hp]
         simp only [if_neg hlt]
     | none =>
       exact hold b o hb (zvh hp) ho
   · have hb3 : b < H3.length := (List.getElem?_eq_some_iff.1 ho).1
     obtain ⟨o1, o2, h1, h2, h3⟩ := hnew (pn + (b - H.length)) (by omega) (by omega)
     rw [show H.length + (pn + (b - H.length) - pn) = b by omega, ho] at h2
     cases h2
     exact from' _ b o1 o h1 (z1bl hb) h3
 · intro i k j h; simp only [z1j, hT] at h; simp at h
 · intro i i' k j j' h; simp only [z1j, hT] at h; simp at h
 · exact fun k e h => g.okn k e (Nat.le_trans x.size h)
 · intro i k j h; simp only [z1j, hT] at h; simp at h
 · intro b k hb h e
   have hb' : c.pn ≤ b := hb
   show c.ok k e
   have key : ∀ j : Nat, c'.m[j]? = some (some k) → (∀ i b' : Nat, ρ[i]? = some b' → c.m[b']? = some (some k) → c.pn ≤ b') → c.ok k e := fun j hj hq => by
     rcases ids j k hj with ⟨i, b', h1, h2⟩ | h
     · exact g.oko b' k (hq i b' h1 h2) h2 e
     · exact g.okn k e h
   rcases zo7 h with ⟨l1, j1, p1, q1, r1⟩ | ⟨l1, q1, r1⟩ | ⟨l1, r1⟩
   · refine key j1 r1 fun i b' h1 h2 => ?_
     by_cases hi : i < pn
     · have := g'.inj i j1 k (pinned i b' k hi h1 h2) r1
       subst this
       rw [q1] at h1; cases h1; exact hb'
     · exact hh.own i b' (by omega) h1
   · exact g.oko b k hb' r1 e
   · refine key _ r1 fun i b' h1 h2 => ?_
     by_cases hi : i < pn
     · have := g'.inj i _ k (pinned i b' k hi h1 h2) r1; omega
     · exact hh.own i b' (by omega) h1
 · obtain ⟨b, hb⟩ := List.mem_iff_getElem?.1 h
   rcases zo7 hb with ⟨l1, j1, p1, q1, r1⟩ | ⟨l1, q1, r1⟩ | ⟨l1, r1⟩
   · exact g'.gl.m k (List.mem_iff_getElem?.2 ⟨_, r1⟩)
   · exact g.gl.m k (List.mem_iff_getElem?.2 ⟨_, r1⟩)
   · exact g'.gl.m k (List.mem_iff_getElem?.2 ⟨_, r1⟩)
 · refine ⟨x.os, x.tape, x.output, x.size, hm3, fun k hk hm => x.blocks k hk fun h => ?_, rfl, rfl, fun b k hb hk => ?_, x.room⟩
   · obtain ⟨j, b, _, h2⟩ := zeo h
     exact hm (List.mem_iff_getElem?.2 ⟨b, h2⟩)
   · have hbl : b < H.length := by rw [← g.len]; exact (List.getElem?_eq_some_iff.1 hk).1
     rw [zff hbl]
     cases hp : posOf ρ b with
     | some j =>
       have hj := zb2 hp
       by_cases hlt : j < pn
       · simp only [if_pos hlt, pinned j b k hlt hj hk, Option.join_some]
       · have := hh.own j b (by omega) hj; omega
     | none => simp only [hk, Option.join_some]
theorem z1m3 {w w' : World} {c c' : Cx} {H H' H3 : List AObj} (g : Good w c H []) {pn : Nat} {ρ : List Nat} (hh : Hand c H.length pn ρ) (g' : Good w' c' H' []) (x : ExtP pn w (z2v w c pn ρ) w' c') (hpn : pn ≤ H'.length)
   (hlen : H3.length = H.length + (H'.length - pn))
   (hpin : ∀ j b : Nat, j < pn → ρ[j]? = some b → ∃ o o', H'[j]? = some o ∧ H3[b]? = some o' ∧ ((o = .gone ∧ o' = .gone) ∨ ∃ cs e cs2, o = .row cs e ∧ o' = .row cs2 e ∧ cs2.length = cs.length ∧ Leafs cs2 ∧ ∀ fv, VRs w' c' cs fv → VRs w' (z1j c c' H.length pn ρ) cs2 fv))
   (hand : ∀ j b : Nat, pn ≤ j → ρ[j]? = some b → H3[b]? = some .gone)
   (hold : ∀ b : Nat, b < H.length → (∀ j : Nat, ρ[j]? ≠ some b) → (H[b]? = some .gone ∧ H3[b]? = some .gone) ∨ ∃ cs e cs2, H[b]? = some (.row cs e) ∧ H3[b]? = some (.row cs2 e) ∧ cs2.length = cs.length ∧ Leafs cs2 ∧ ∀ fv, VRs w c cs fv → VRs w' (z1j c c' H.length pn ρ) cs2 fv)
   (hnew : ∀ j : Nat, pn ≤ j → j < H'.length → ∃ o o', H'[j]? = some o ∧ H3[H.length + (j - pn)]? = some o' ∧ ((o = .gone ∧ o' = .gone) ∨ ∃ cs e cs2, o = .row cs e ∧ o' = .row cs2 e ∧ cs2.length = cs.length ∧ Leafs cs2 ∧ ∀ fv, VRs w' c' cs fv → VRs w' (z1j c c' H.length pn ρ) cs2 fv)) :
   Good w' (z1j c c' H.length pn ρ) H3 [] ∧ ExtP c.pn w c w' (z1j c c' H.length pn ρ) := by
 refine z1bx g hh g' x hpn hlen hpin hand (fun b o hb hno ho => ?_) hnew
 have hp : posOf ρ b = none := by
   cases hp : posOf ρ b with
   | none => rfl
   | some j => exact absurd (zb2 hp) (hno j)
 have hm : (z1j c c' H.length pn ρ).m[b]? = c.m[b]? := by
   rw [zff hb, hp]
   have hbl : b < c.m.length := by rw [g.len]; exact hb
   rw [List.getElem?_eq_getElem hbl]; rfl
 rcases hold b hb hno with ⟨h1, h2⟩ | ⟨cs, e, cs2, h1, h2, h3, h4, h5⟩
 · rw [ho] at h2; cases h2
   exact hm.trans (g.obj b _ h1)
 · rw [ho] at h2; cases h2
   rcases g.obj b _ h1 with ⟨h6, h7⟩ | ⟨k, vs, fr, h6, h7, h8, h9, h10, h11⟩
   · exact .inl ⟨List.length_eq_zero_iff.1 (by rw [h3, h6]; rfl), hm.trans h7⟩
   · refine .inr ⟨k, vs, fr, hm.trans h6, ?_, h8, by rw [h3]; exact h9, h4, h5 _ h11⟩
     rw [x.blocks k (ObjC.lt g h6) fun hk => ?_]
     · exact h7
     · obtain ⟨i, b', h12, h13⟩ := zeo hk
       have := g.inj b b' k h6 h13
       subst this
       exact hno i h12
end Go.Ab