/- An abstract calculus over the model's weakest preconditions, part 15: arrays and structs of plain parts, compared. -/
import Derived.Test.YtfjikgkcleefiaaDoorAb14
import Derived.DeepKeys
set_option linter.unusedSimpArgs false
set_option linter.unusedVariables false
namespace Go.Ab

/-- types whose values are compared part by part -/
def eqTy (P : Program) : Nat → TypeId → Bool
  | 0, _ => false
  | n + 1, t =>
    match P.underlying t with
    | some .bool | some (.int _) | some .string => true
    | some (.array k e) => eqTy P n e && P.cellsOf t == k * P.cellsOf e
    | some (.struct fs) => fs.toList.all (fun f => f.name != "_" && eqTy P n f.type) && tilesFrom P fs.toList 0 (P.cellsOf t) && !P.stoodInHeld t
    | _ => false

/-- what cells of such a type look like -/
def Shaped (P : Program) : Nat → TypeId → List Value → Prop
  | 0, _, _ => False
  | n + 1, t, cs =>
    match P.underlying t with
    | some .bool => ∃ b, cs = [.bool b]
    | some (.int k) => ∃ x, cs = [.int k x]
    | some .string => ∃ s, cs = [.string s]
    | some (.array k e) => cs.length = P.cellsOf t ∧ ∀ i, i < k → Shaped P n e ((cs.drop (i * P.cellsOf e)).take (P.cellsOf e))
    | some (.struct fs) => cs.length = P.cellsOf t ∧ ∀ f, f ∈ fs.toList → Shaped P n f.type ((cs.drop f.offset).take (P.cellsOf f.type))
    | _ => False

theorem chunk_ext {α : Type} {xs ys : List α} {n c : Nat} (hx : xs.length = n * c) (hy : ys.length = n * c) (h : ∀ i, i < n → (xs.drop (i * c)).take c = (ys.drop (i * c)).take c) : xs = ys := by
  refine List.ext_getElem? fun j => ?_
  by_cases hj : j < n * c
  · have hc : 0 < c := Nat.pos_of_ne_zero fun e => by subst e; simp at hj
    have hi : j / c < n := by rw [Nat.div_lt_iff_lt_mul hc]; exact hj
    have := congrArg (fun l => l[j % c]?) (h (j / c) hi)
    simp only [List.getElem?_take_of_lt (Nat.mod_lt j hc), List.getElem?_drop] at this
    have e : j / c * c + j % c = j := Nat.div_add_mod' j c
    rw [e] at this; exact this
  · rw [List.getElem?_eq_none (by omega), List.getElem?_eq_none (by omega)]

theorem tiles_ext {α : Type} {P : Program} {xs ys : List α} : ∀ {fs : List Field} {off n : Nat}, tilesFrom P fs off n = true → (∀ f, f ∈ fs → (xs.drop f.offset).take (P.cellsOf f.type) = (ys.drop f.offset).take (P.cellsOf f.type)) →
    ∀ j, off ≤ j → j < n → xs[j]? = ys[j]?
  | [], off, n, ht, _, j, h1, h2 => by simp [tilesFrom] at ht; omega
  | f :: fs, off, n, ht, h, j, h1, h2 => by
    simp only [tilesFrom, Bool.and_eq_true, beq_iff_eq] at ht
    obtain ⟨rfl, ht⟩ := ht
    by_cases hj : j < f.offset + P.cellsOf f.type
    · have := congrArg (fun l => l[j - f.offset]?) (h f (by simp))
      simp only [List.getElem?_take_of_lt (show j - f.offset < P.cellsOf f.type by omega), List.getElem?_drop] at this
      rw [show f.offset + (j - f.offset) = j by omega] at this; exact this
    · exact tiles_ext ht (fun g hg => h g (by simp [hg])) j (by omega) h2

section
variable {P : Program} (w : World)

theorem shaped_len {n m : Nat} {t : TypeId} {cs ds : List Value} (h : Shaped P n t cs) (h2 : Shaped P m t ds) : cs.length = ds.length := by
  cases n with
  | zero => cases h
  | succ n =>
    cases m with
    | zero => cases h2
    | succ m =>
      simp only [Shaped] at h h2
      cases hu : P.underlying t with
      | none => rw [hu] at h; cases h
      | some u =>
        rw [hu] at h h2
        cases u <;> simp only at h h2
        · obtain ⟨_, rfl⟩ := h; obtain ⟨_, rfl⟩ := h2; rfl
        · obtain ⟨_, rfl⟩ := h; obtain ⟨_, rfl⟩ := h2; rfl
        · obtain ⟨_, rfl⟩ := h; obtain ⟨_, rfl⟩ := h2; rfl
        · rw [h.1, h2.1]
        · rw [h.1, h2.1]

/-- a part of a value's cells, taken out -/
theorem run_part_shaped {e : TypeId} {n off : Nat} {xs : Array Value} (ha : Shaped P n e ((xs.toList.drop off).take (P.cellsOf e))) :
    ∃ a, (part e xs off).run P w = .ok a w ∧ a.formed P e = true ∧ a.cells.toList = (xs.toList.drop off).take (P.cellsOf e) := by
  cases n with
  | zero => cases ha
  | succ n =>
    simp only [Shaped] at ha
    cases hu : P.underlying e with
    | none => rw [hu] at ha; cases ha
    | some kd =>
      rw [hu] at ha
      have agg : (match kd with | .array _ _ | .struct _ => true | _ => false) = true → ((xs.toList.drop off).take (P.cellsOf e)).length = P.cellsOf e →
          ∃ a, (part e xs off).run P w = .ok a w ∧ a.formed P e = true ∧ a.cells.toList = (xs.toList.drop off).take (P.cellsOf e) := fun hk hlen => by
        obtain ⟨i, hi⟩ := info_of_underlying hu
        have hl : (xs.extract off (off + P.cellsOf e)).toList = (xs.toList.drop off).take (P.cellsOf e) := by
          rw [Array.toList_extract]; simp [List.extract]
        have hs : (xs.extract off (off + P.cellsOf e)).size = P.cellsOf e := by rw [← Array.length_toList, hl, hlen]
        refine ⟨.agg (xs.extract off (off + P.cellsOf e)), ?_, ?_, hl⟩
        · cases kd <;> simp at hk <;> simp [part, isAgg, Go.run_underlying hu, Go.run_sizeOf w hi]
        · cases kd <;> simp at hk <;> simp [Value.formed, hu, hs]
      cases kd <;> simp only at ha
      · obtain ⟨b, hb⟩ := ha
        exact ⟨Value.bool b, by simp [part, isAgg, Go.run_underlying hu, getElem?_of_chunk hb], by simp [Value.formed, hu], by rw [hb]; rfl⟩
      · rename_i q
        obtain ⟨b, hb⟩ := ha
        exact ⟨Value.int q b, by simp [part, isAgg, Go.run_underlying hu, getElem?_of_chunk hb], by simp [Value.formed, hu], by rw [hb]; rfl⟩
      · obtain ⟨b, hb⟩ := ha
        exact ⟨Value.string b, by simp [part, isAgg, Go.run_underlying hu, getElem?_of_chunk hb], by simp [Value.formed, hu], by rw [hb]; rfl⟩
      · exact agg rfl ha.1
      · exact agg rfl ha.1

def EqS (P : Program) (dd n : Nat) (e : TypeId) : Prop :=
  ∀ (w : World) (a b : Value), a.formed P e = true → b.formed P e = true → Shaped P n e a.cells.toList → Shaped P n e b.cells.toList →
    ∃ r : Bool, (Op.equalIn dd e a b).run P w = .ok r w ∧ (r = true ↔ a.cells.toList = b.cells.toList)

theorem run_step_shaped {e : TypeId} {dd n off : Nat} (IH : EqS P dd n e) {xs ys : Array Value}
    (ha : Shaped P n e ((xs.toList.drop off).take (P.cellsOf e))) (hb : Shaped P n e ((ys.toList.drop off).take (P.cellsOf e))) :
    ∃ a b r, (part e xs off).run P w = .ok a w ∧ (part e ys off).run P w = .ok b w ∧ (Op.equalIn dd e a b).run P w = .ok r w ∧
      (r = true ↔ (xs.toList.drop off).take (P.cellsOf e) = (ys.toList.drop off).take (P.cellsOf e)) := by
  obtain ⟨a, p1, f1, c1⟩ := run_part_shaped w ha
  obtain ⟨b, p2, f2, c2⟩ := run_part_shaped w hb
  obtain ⟨r, hr, hiff⟩ := IH w a b f1 f2 (by rw [c1]; exact ha) (by rw [c2]; exact hb)
  exact ⟨a, b, r, p1, p2, hr, by rw [hiff, c1, c2]⟩

theorem run_eqFields_shaped (dd n : Nat) (xs ys : Array Value) : ∀ (fs : List Field), (∀ f ∈ fs, f.name ≠ "_" ∧ EqS P dd n f.type) →
    (∀ f ∈ fs, Shaped P n f.type ((xs.toList.drop f.offset).take (P.cellsOf f.type))) → (∀ f ∈ fs, Shaped P n f.type ((ys.toList.drop f.offset).take (P.cellsOf f.type))) →
    ∃ r : Bool, (Op.eqFields dd xs ys fs).run P w = .ok r w ∧ (r = true ↔ ∀ f ∈ fs, (xs.toList.drop f.offset).take (P.cellsOf f.type) = (ys.toList.drop f.offset).take (P.cellsOf f.type))
  | [], _, _, _ => ⟨true, by simp [Op.eqFields], by simp⟩
  | f :: fs, hall, ha, hb => by
    obtain ⟨hn, hp⟩ := hall f (by simp)
    obtain ⟨a, b, r, p1, p2, p3, hiff⟩ := run_step_shaped w hp (ha f (by simp)) (hb f (by simp))
    obtain ⟨r', hr', hiff'⟩ := run_eqFields_shaped dd n xs ys fs (fun g hg => hall g (by simp [hg])) (fun g hg => ha g (by simp [hg])) (fun g hg => hb g (by simp [hg]))
    simp only [Op.eqFields, hn, ne_eq, not_false_eq_true, if_true, Sem.run_bind, p1, p2, p3, Result.andThen_ok]
    cases r
    · exact ⟨false, by simp, ⟨fun h => (by cases h), fun h => hiff.2 (h f (by simp))⟩⟩
    · refine ⟨r', by simpa using hr', ?_⟩
      rw [hiff']
      exact ⟨fun h g hg => (List.mem_cons.1 hg).elim (fun e => by subst e; exact hiff.1 rfl) (h g), fun h g hg => h g (by simp [hg])⟩

theorem run_eqItems_shaped (dd n : Nat) {e : TypeId} (IH : EqS P dd n e) (xs ys : Array Value) : ∀ (is : List Nat),
    (∀ i ∈ is, Shaped P n e ((xs.toList.drop (i * P.cellsOf e)).take (P.cellsOf e))) → (∀ i ∈ is, Shaped P n e ((ys.toList.drop (i * P.cellsOf e)).take (P.cellsOf e))) →
    ∃ r : Bool, (Op.eqItems dd e (P.cellsOf e) xs ys is).run P w = .ok r w ∧ (r = true ↔ ∀ i ∈ is, (xs.toList.drop (i * P.cellsOf e)).take (P.cellsOf e) = (ys.toList.drop (i * P.cellsOf e)).take (P.cellsOf e))
  | [], _, _ => ⟨true, by simp [Op.eqItems], by simp⟩
  | i :: is, ha, hb => by
    obtain ⟨a, b, r, p1, p2, p3, hiff⟩ := run_step_shaped w IH (ha i (by simp)) (hb i (by simp))
    obtain ⟨r', hr', hiff'⟩ := run_eqItems_shaped dd n IH xs ys is (fun g hg => ha g (by simp [hg])) (fun g hg => hb g (by simp [hg]))
    simp only [Op.eqItems, Sem.run_bind, p1, p2, p3, Result.andThen_ok]
    cases r
    · exact ⟨false, by simp, ⟨fun h => (by cases h), fun h => hiff.2 (h i (by simp))⟩⟩
    · refine ⟨r', by simpa using hr', ?_⟩
      rw [hiff']
      exact ⟨fun h g hg => (List.mem_cons.1 hg).elim (fun e => by subst e; exact hiff.1 rfl) (h g), fun h g hg => h g (by simp [hg])⟩
end

theorem eq_shaped {P : Program} (d : Nat) : ∀ (n : Nat) (t : TypeId), eqTy P n t = true → EqS P (d + n) n t
  | 0, _, h => by cases h
  | n + 1, t, hk => by
    intro w x y fx fy hx hy
    simp only [eqTy] at hk
    simp only [Shaped] at hx hy
    cases hu : P.underlying t with
    | none => rw [hu] at hk; cases hk
    | some kd =>
      rw [hu] at hk hx hy
      cases kd <;> simp only [Bool.false_eq_true] at hk hx hy
      · obtain ⟨a, ha⟩ := hx
        obtain ⟨b, hb⟩ := hy
        have hxv : x = .bool a := by cases x <;> simp_all [Value.cells, Value.formed]
        have hyv : y = .bool b := by cases y <;> simp_all [Value.cells, Value.formed]
        subst hxv; subst hyv
        exact ⟨a == b, run_equalIn_bool w (d + n) t a b hu, by simp [Value.cells]⟩
      · rename_i q
        obtain ⟨a, ha⟩ := hx
        obtain ⟨b, hb⟩ := hy
        have hxv : x = .int q a := by cases x <;> simp_all [Value.cells, Value.formed]
        have hyv : y = .int q b := by cases y <;> simp_all [Value.cells, Value.formed]
        subst hxv; subst hyv
        exact ⟨a == b, run_equalIn_int w (d + n) t q q a b hu, by simp [Value.cells]⟩
      · obtain ⟨a, ha⟩ := hx
        obtain ⟨b, hb⟩ := hy
        have hxv : x = .string a := by cases x <;> simp_all [Value.cells, Value.formed]
        have hyv : y = .string b := by cases y <;> simp_all [Value.cells, Value.formed]
        subst hxv; subst hyv
        exact ⟨a.toList == b.toList, run_equalIn_string w (d + n) t a b hu, by
          simp [Value.cells, ByteArray.toList_eq]
          exact ⟨fun h => by cases a; cases b; simpa using h, fun h => by rw [h]⟩⟩
      · rename_i k e
        simp only [Bool.and_eq_true, beq_iff_eq] at hk
        cases x <;> simp only [Value.formed, hu, Bool.false_eq_true] at fx
        cases y <;> simp only [Value.formed, hu, Bool.false_eq_true] at fy
        rename_i xs ys
        have hpe : ∃ i, P.info? e = some i := by
          cases n with
          | zero => simp [eqTy] at hk
          | succ m =>
            have h1 := hk.1
            simp only [eqTy] at h1
            cases hue : P.underlying e with
            | none => simp [hue] at h1
            | some _ => exact info_of_underlying hue
        obtain ⟨i, hi⟩ := hpe
        simp only [Value.cells] at hx hy ⊢
        obtain ⟨r, hr, hiff⟩ := run_eqItems_shaped w (d + n) n (eq_shaped d n e hk.1) xs ys (List.range k) (fun i hi => hx.2 i (by simpa using hi)) (fun i hi => hy.2 i (by simpa using hi))
        refine ⟨r, by rw [show d + (n + 1) = (d + n) + 1 from rfl, run_equalIn_array w (d + n) xs ys hu hi]; exact hr, ?_⟩
        rw [hiff]
        exact ⟨fun h => chunk_ext (by rw [hx.1, hk.2]) (by rw [hy.1, hk.2]) fun i hi => h i (by simpa using hi), fun h i _ => by rw [h]⟩
      · rename_i fs
        simp only [Bool.and_eq_true, Bool.not_eq_true'] at hk
        cases x <;> simp only [Value.formed, hu, Bool.false_eq_true] at fx
        cases y <;> simp only [Value.formed, hu, Bool.false_eq_true] at fy
        rename_i xs ys
        simp only [Value.cells] at hx hy ⊢
        have hfs : P.fieldsOf t = fs := by simp [Program.fieldsOf, hu]
        obtain ⟨r, hr, hiff⟩ := run_eqFields_shaped w (d + n) n xs ys fs.toList (fun f hf => by
          have := List.all_eq_true.1 hk.1.1 f hf
          simp only [Bool.and_eq_true, bne_iff_ne, ne_eq] at this
          exact ⟨this.1, eq_shaped d n f.type this.2⟩) hx.2 hy.2
        refine ⟨r, by rw [show d + (n + 1) = (d + n) + 1 from rfl, run_equalIn_struct w (d + n) t xs ys (by rw [hfs]; exact hu) hk.2, hfs]; exact hr, ?_⟩
        rw [hiff]
        refine ⟨fun h => List.ext_getElem? fun j => ?_, fun h f _ => by rw [h]⟩
        by_cases hj : j < P.cellsOf t
        · exact tiles_ext hk.1.2 h j (by omega) hj
        · rw [List.getElem?_eq_none (by rw [hx.1]; omega), List.getElem?_eq_none (by rw [hy.1]; omega)]

theorem VRs_vals {w : World} {c : Cx} : ∀ {vs : List Value} {f : Nat → Option Value}, VRs w c (vs.map PV.val) f → ∀ i, i < vs.length → f i = vs[i]?
  | [], f, h, i, hi => by simp at hi
  | v :: vs, f, h, i, hi => by
    simp only [List.map_cons, VRs] at h
    obtain ⟨⟨u, hu, hr⟩, h2⟩ := h
    rw [VR_val_iff] at hr
    cases i with
    | zero => rw [hu, hr.1]; rfl
    | succ i => simpa using VRs_vals h2 i (by simpa using hi)

theorem agg_vals {w : World} {c : Cx} {vs : List Value} {v : Value} (h : VR w c (.agg (vs.map PV.val)) v) : v = .agg vs.toArray := by
  simp only [VR] at h
  obtain ⟨cs, rfl, hl, _, hv⟩ := h
  congr 1
  rw [← Array.toList_inj]
  refine List.ext_getElem? fun i => ?_
  have hl' : cs.toList.length = vs.length := by simpa using hl
  by_cases hi : i < vs.length
  · have := VRs_vals hv i hi
    simpa using this
  · rw [List.getElem?_eq_none (by rw [hl']; omega), List.getElem?_eq_none (by simp; omega)]

theorem equal_aggs {P : Program} {w : World} {n : Nat} {t : TypeId} {vs us : List Value} {r : Bool} (hn : n ≤ 10000) (ht : eqTy P n t = true) (ha : tyAgg P t = some true) (h1 : Shaped P n t vs) (h2 : Shaped P n t us) (hr : r = true ↔ vs = us) :
    (Op.equalIn 10000 t (.agg vs.toArray) (.agg us.toArray)).run P w = .ok r w := by
  have form : ∀ ws : List Value, Shaped P n t ws → (Value.agg ws.toArray).formed P t = true := fun ws hs => by
    cases n with
    | zero => cases hs
    | succ n =>
      simp only [Shaped] at hs
      unfold tyAgg at ha
      cases hu : P.underlying t with
      | none => rw [hu] at ha; cases ha
      | some kd =>
        rw [hu] at ha hs
        cases kd <;> simp at ha <;> simp only at hs <;> simp [Value.formed, hu, hs.1]
  obtain ⟨r', hr', hiff⟩ := eq_shaped (P := P) (10000 - n) n t ht w (.agg vs.toArray) (.agg us.toArray) (form _ h1) (form _ h2) (by simpa [Value.cells] using h1) (by simpa [Value.cells] using h2)
  rw [show 10000 - n + n = 10000 by omega] at hr'
  have : r' = r := by
    rw [Bool.eq_iff_iff, hiff, hr]; simp [Value.cells]
  rw [← this]; exact hr'

theorem q_eqAgg {P : Program} {o : Oper} {σ : AS} {n : Nat} {t yt : TypeId} {x y : Operand} {vs us : List Value} {r : Bool} (ho : o.op = .binOp .eql t x y yt) (hg : P.eqGuardType P.depth t = false) (hn : n ≤ 10000) (ht : eqTy P n t = true)
    (ha : tyAgg P t = some true) (hx : σ.eval x = .agg (vs.map PV.val)) (hy : σ.eval y = .agg (us.map PV.val)) (h1 : Shaped P n t vs) (h2 : Shaped P n t us) (hr : r = true ↔ vs = us) : QStep P o σ (.val (.bool r)) :=
  q_run fun w c a hR => ⟨_, by
    have e1 : a.eval x = .agg vs.toArray := agg_vals (hx ▸ hR.2.eval x)
    have e2 : a.eval y = .agg us.toArray := agg_vals (hy ▸ hR.2.eval y)
    simp only [execOp, ho, e1, e2, Sem.run_bind, run_eqGuard_agg w .eql t x y vs.toArray us.toArray hg, Result.andThen_ok]
    rw [run_eql_struct, equal_aggs hn ht ha h1 h2 hr]; rfl, VR_val_iff.2 ⟨rfl, rfl⟩⟩

theorem q_neAgg {P : Program} {o : Oper} {σ : AS} {n : Nat} {t yt : TypeId} {x y : Operand} {vs us : List Value} {r : Bool} (ho : o.op = .binOp .neq t x y yt) (hg : P.eqGuardType P.depth t = false) (hn : n ≤ 10000) (ht : eqTy P n t = true)
    (ha : tyAgg P t = some true) (hx : σ.eval x = .agg (vs.map PV.val)) (hy : σ.eval y = .agg (us.map PV.val)) (h1 : Shaped P n t vs) (h2 : Shaped P n t us) (hr : r = true ↔ vs = us) : QStep P o σ (.val (.bool (!r))) :=
  q_run fun w c a hR => ⟨_, by
    have e1 : a.eval x = .agg vs.toArray := agg_vals (hx ▸ hR.2.eval x)
    have e2 : a.eval y = .agg us.toArray := agg_vals (hy ▸ hR.2.eval y)
    simp only [execOp, ho, e1, e2, Sem.run_bind, run_eqGuard_agg w .neq t x y vs.toArray us.toArray hg, Result.andThen_ok]
    rw [run_neq_struct, equal_aggs hn ht ha h1 h2 hr]; rfl, VR_val_iff.2 ⟨rfl, rfl⟩⟩

theorem shaped_bools {P : Program} {n : Nat} {t e : TypeId} {k : Nat} {bs : List Bool} (hu : P.underlying t = some (.array k e)) (hc : P.cellsOf t = k) (hce : P.cellsOf e = 1) (he : P.underlying e = some .bool) (hl : bs.length = k) :
    Shaped P (n + 2) t (bs.map Value.bool) := by
  simp only [Shaped, hu, hce, he, hc]
  refine ⟨by simpa using hl, fun i hi => ?_⟩
  have hi' : i < (bs.map Value.bool).length := by simp; omega
  rw [Nat.mul_one, List.drop_eq_getElem_cons hi']
  simp

theorem wrap_inU (n : Int) (h : 0 ≤ n ∧ n ≤ 18446744073709551615) : IntKind.u64.wrap n = n := by
  have e : IntKind.u64.wrap n = if (false && decide (n % 18446744073709551616 ≥ 9223372036854775808)) = true then n % 18446744073709551616 - 18446744073709551616 else n % 18446744073709551616 := rfl
  rw [e, if_neg (by simp)]; omega
theorem addU {a b : Int} (h : 0 ≤ a + b ∧ a + b ≤ 18446744073709551615) : binInt .add .u64 a b = some (.int .u64 (a + b)) := by simp only [binInt, wrap_inU _ h]
theorem subU {a b : Int} (h : 0 ≤ a - b ∧ a - b ≤ 18446744073709551615) : binInt .sub .u64 a b = some (.int .u64 (a - b)) := by simp only [binInt, wrap_inU _ h]
theorem mulU {a b : Int} (h : 0 ≤ a * b ∧ a * b ≤ 18446744073709551615) : binInt .mul .u64 a b = some (.int .u64 (a * b)) := by simp only [binInt, wrap_inU _ h]

end Go.Ab
