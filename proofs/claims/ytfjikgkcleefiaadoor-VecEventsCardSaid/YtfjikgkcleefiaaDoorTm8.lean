/- The typed machine, part 8: operations, regions. -/
import Derived.Test.YtfjikgkcleefiaaDoorTm7
set_option linter.unusedSimpArgs false
set_option linter.unusedVariables false
namespace Go.Tm
open Go.Ab

/-! ### parts of strings and of slices -/
@[reducible] def subOk (l h : Int) (n : Nat) : Bool := leI 0 l && leI l h && leI h n
def subL {α : Type} (s : List α) (l h : Int) : List α := (s.drop l.toNat).take (h.toNat - l.toNat)

/-- a bound, or what stands for it -/
def bndK {R : Type} (σ : TS) (x : Option Operand) (d : Int) (k : Int → Option R) : Option R :=
  match x with
  | none => k d
  | some y => match σ.eval y with
    | .v (.int _) i => k i
    | _ => none

def sliceK {R : Type} (P : Program) (σ : TS) (t : TypeId) (a : TV) (lo hi mx : Option Operand) (k : TV → Option R) : Option R :=
  match mx with
  | some _ => none
  | none =>
    match P.underlying t, a with
    | some .string, .v .str s => bndK σ lo 0 fun l => bndK σ hi (List.length s) fun h => bif subOk l h (List.length s) then k (.v .str (subL s l h)) else none
    | some (.slice e), .v (.sl u) s => bif fitTy P e u then bndK σ lo 0 fun l => bndK σ hi (List.length s) fun h => bif subOk l h (List.length s) then k (.v (.sl u) (subL s l h)) else none else none
    | some (.slice e), .fsl u s => bif fitTy P e u then bndK σ lo 0 fun l => bndK σ hi (List.length s) fun h => bif subOk l h (List.length s) then k (.v (.sl u) (subL s l h)) else none else none
    | _, _ => none

theorem bnd_some {R : Type} {σ : TS} {x : Option Operand} {d : Int} {k : Int → Option R} {r : R} (h : bndK σ x d k = some r) : ∃ i, k i = some r ∧ ∀ n, 0 ≤ d → (0 ≤ i → BoundIs σ.flat x d.toNat i.toNat) ∧ (n = i → True) := by
  unfold bndK at h
  split at h
  · exact ⟨d, h, fun n _ => ⟨fun _ => rfl, fun _ => trivial⟩⟩
  · rename_i y
    split at h
    · rename_i kd i hy
      exact ⟨i, h, fun n _ => ⟨fun h0 => ⟨kd, i, eval_eq hy (by simp), h0, rfl⟩, fun _ => trivial⟩⟩
    · cases h

theorem subL_mem {α : Type} {s : List α} {l h : Int} {x : α} (hx : x ∈ subL s l h) : x ∈ s := List.mem_of_mem_drop (List.mem_of_mem_take hx)

theorem ba_sub (s : List Int) (l h : Nat) : (ba s).extract l h = ba ((s.drop l).take (h - l)) := by
  apply ByteArray.ext
  simp only [ba, ByteArray.data_extract]
  apply Array.ext'
  simp [List.extract, List.map_take, List.map_drop]

theorem slice_spec {R : Type} {P : Program} {o : Oper} {σ : TS} {t : TypeId} {x : Operand} {lo hi mx : Option Operand} {k : TV → Option R} {r : R} (ho : o.op = .slice t x lo hi mx) (hw : σ.wf) (h : sliceK P σ t (σ.eval x) lo hi mx k = some r) :
    ∃ q, k q = some r ∧ TQ P o σ q := by
  have hwx := eval_wf hw x
  unfold sliceK at h
  split at h
  · cases h
  · generalize hx : σ.eval x = a at h hwx
    have slc : ∀ {u : U} {s : List u.T} {e : TypeId} {tl : Tail}, P.underlying t = some (.slice e) → σ.flat.eval x = .tr s.length (rowU u s) tl → (∀ y, y ∈ s → wfU u y) →
        (bif fitTy P e u then bndK σ lo 0 fun l => bndK σ hi (List.length s) fun h => bif subOk l h (List.length s) then k (.v (.sl u) (subL s l h)) else none else none) = some r → ∃ q, k q = some r ∧ TQ P o σ q := by
      intro u s e tl hu ex hws h
      cases hc : fitTy P e u with
      | false => rw [hc] at h; cases h
      | true =>
        rw [hc] at h
        simp only [cond_true] at h
        obtain ⟨l, h, hl⟩ := bnd_some h
        obtain ⟨hh, h, hhb⟩ := bnd_some h
        cases hs : subOk l hh s.length with
        | false => rw [hs] at h; cases h
        | true =>
          rw [hs] at h
          simp only [Bool.and_eq_true, decide_eq_true_eq] at hs
          obtain ⟨⟨h0, h1⟩, h2⟩ := hs
          have hlb := (hl 0 (Int.le_refl 0)).1 h0
          have hhb' := (hhb 0 (by omega)).1 (by omega)
          have := fun Y => q_sliceTr (P := P) (σ := { σ.flat with H := σ.flat.H ++ Y }) ho hu (fitTy_spec hc).2 ex (by rw [rowU_len hws]) hlb (show BoundIs σ.flat hi s.length hh.toNat by simpa using hhb') (by omega) (by omega)
          rw [rowU_drop hws (by omega), rowU_take (fun y hy => hws y (List.mem_of_mem_drop hy)) (by rw [List.length_drop]; omega)] at this
          refine ⟨_, h, by simp only [TV.wf, wfU]; exact fun y hy => hws y (subL_mem hy), ?_⟩
          simp only [TV.pv, pvU]
          have e1 : (subL s l hh).length = hh.toNat - l.toNat := by simp only [subL, List.length_take, List.length_drop]; omega
          rw [e1]
          exact this
    split at h
    · rename_i s hu
      obtain ⟨l, h, hl⟩ := bnd_some h
      obtain ⟨hh, h, hhb⟩ := bnd_some h
      cases hs : subOk l hh (List.length s) with
      | false => rw [hs] at h; cases h
      | true =>
        rw [hs] at h
        simp only [Bool.and_eq_true, decide_eq_true_eq] at hs
        obtain ⟨⟨h0, h1⟩, h2⟩ := hs
        simp only [TV.wf, wfU] at hwx
        have ex : σ.flat.eval x = .val (.string (ba s)) := by rw [eval_eq hx (by simp)]; rfl
        have hlb := (hl 0 (Int.le_refl 0)).1 h0
        have hhb' := (hhb 0 (by omega)).1 (by omega)
        have := fun Y => q_sliceStr (P := P) (σ := { σ.flat with H := σ.flat.H ++ Y }) ho hu ex hlb (by rw [ba_size]; exact show BoundIs σ.flat hi s.length hh.toNat by simpa using hhb') (by omega) (by rw [ba_size]; omega)
        rw [ba_sub] at this
        exact ⟨_, h, by simp only [TV.wf, wfU]; exact fun y hy => hwx y (subL_mem hy), this⟩
    · rename_i e u s hu
      simp only [TV.wf, wfU] at hwx
      exact slc hu (by rw [eval_eq hx (by simp)]; rfl) hwx h
    · rename_i e u s hu
      simp only [TV.wf] at hwx
      exact slc hu (by rw [eval_eq hx (by simp)]; rfl) hwx h
    · cases h

/-! ### an append onto what has no room -/
/-- as much as a slice may be -/
def appG {R : Type} (n m nb : Nat) (k : Unit → Option R) : Option R := bif Nat.ble ((n + m) * nb) 140737488355328 then k () else none

def srcK {R : Type} (P : Program) (t2 : TypeId) (u : U) (b : TV) (k : List u.T → Option R) : Option R :=
  bif srcTy P t2 then
    match b with
    | .v (.sl v) l => castK (.sl v) (.sl u) l k
    | .fsl v l => castK (.sl v) (.sl u) l k
    | .nil => k []
    | .v .str s => castK (.sl (.int .u8)) (.sl u) s k
    | _ => none
  else none

def appendTo {R : Type} (P : Program) (t t2 : TypeId) (u : U) (l : List u.T) (b : TV) (k : TV → Option R) : Option R :=
  match P.underlying t with
  | some (.slice e) =>
    match zeroPV P e, (P.info? e).map (·.bytes) with
    | some z, some nb => bif fitTy P e u && !Nat.beq nb 0 && Nat.beq z.length u.size then srcK P t2 u b fun m => appG l.length m.length nb fun _ => k (.v (.sl u) (l ++ m)) else none
    | _, _ => none
  | _ => none

def appendK {R : Type} (P : Program) (xs : List TV) (ts : List TypeId) (k : TV → Option R) : Option R :=
  match xs, ts with
  | [.nil, b], [t, t2] => match P.underlying t with
    | some (.slice e) => match codeOf P eqFuel e with
      | some u => appendTo P t t2 u [] b k
      | none => none
    | _ => none
  | [.fsl u l, b], [t, t2] => appendTo P t t2 u l b k
  | _, _ => none

theorem src_spec {R : Type} {P : Program} {σ : TS} (hw : σ.wf) {t2 : TypeId} {u : U} {y : Operand} {k : List u.T → Option R} {r : R} (h : srcK P t2 u (σ.eval y) k = some r) :
    ∃ m, k m = some r ∧ (∀ x, x ∈ m → wfU u x) ∧ srcTy P t2 = true ∧ ∀ Y, SrcOK P { σ.flat with H := σ.flat.H ++ Y } y m.length u.size (rowU u m) := by
  have hwy := eval_wf hw y
  unfold srcK at h
  cases hc : srcTy P t2 with
  | false => rw [hc] at h; cases h
  | true =>
    rw [hc] at h
    simp only [cond_true] at h
    generalize hy : σ.eval y = b at h hwy
    split at h
    · rename_i v l
      obtain ⟨e, h⟩ := castK_some h
      cases e
      simp only [TV.wf, wfU] at hwy
      exact ⟨l, h, hwy, rfl, fun Y => src_tr (σ := { σ.flat with H := σ.flat.H ++ Y }) ((eval_eq hy (by simp)).trans rfl) (rowU_len hwy) (leafs_rowU hwy)⟩
    · rename_i v l
      obtain ⟨e, h⟩ := castK_some h
      cases e
      simp only [TV.wf] at hwy
      exact ⟨l, h, hwy, rfl, fun Y => src_tr (σ := { σ.flat with H := σ.flat.H ++ Y }) ((eval_eq hy (by simp)).trans rfl) (rowU_len hwy) (leafs_rowU hwy)⟩
    · exact ⟨[], h, fun x hx => (by cases hx), rfl, fun Y => src_tr (σ := { σ.flat with H := σ.flat.H ++ Y }) ((eval_eq hy (by simp)).trans rfl) (by simp [rowU]) (fun p hp => by simp [rowU] at hp)⟩
    · rename_i s
      obtain ⟨e, h⟩ := castK_some h
      cases e
      simp only [TV.wf, wfU] at hwy
      have hb : ∀ x, x ∈ s → wfU (.int .u8) x := fun x hx => by
        have := hwy x hx
        simp only [wfU]; exact ⟨by show (0 : Int) ≤ x; omega, by show x ≤ 255; omega⟩
      have := fun Y => src_str (P := P) (σ := { σ.flat with H := σ.flat.H ++ Y }) (y := y) (s := ba s) ((eval_eq hy (by simp)).trans rfl)
      have e1 : ((ba s).data.toList.map fun b => PV.val (.int .u8 b.toNat)) = rowU (.int .u8) s := by
        simp only [ba, rowU, cellU, List.map_map]
        have key : ∀ l : List Int, (∀ x, x ∈ l → 0 ≤ x ∧ x < 256) → l.map ((fun b : UInt8 => PV.val (.int .u8 b.toNat)) ∘ fun n : Int => UInt8.ofNat n.toNat) = l.flatMap fun x => [PV.val (.int .u8 x)] := by
          intro l
          induction l with
          | nil => intro _; rfl
          | cons x l ih =>
            intro hl
            have hx := hl x (by simp)
            simp only [List.map_cons, List.flatMap_cons, Function.comp, List.singleton_append, List.cons.injEq, PV.val.injEq, Value.int.injEq, true_and]
            refine ⟨by simp; omega, ?_⟩
            have := ih (fun z hz => hl z (by simp [hz]))
            simpa [Function.comp] using this
        exact key s hwy
      simp only [e1, ba_size] at this
      exact ⟨s, h, hb, rfl, this⟩
    · cases h

theorem appendTo_spec {R : Type} {P : Program} {o : Oper} {σ : TS} {t t2 : TypeId} {x y : Operand} {u : U} {l : List u.T} {k : TV → Option R} {r : R} (ho : o.op = .call { callee := .builtin .append, args := #[x, y], argTypes := #[t, t2] }) (hw : σ.wf)
    (hx : σ.flat.eval x = .tr l.length (rowU u l) .full) (hl : ∀ x, x ∈ l → wfU u x) (h : appendTo P t t2 u l (σ.eval y) k = some r) : ∃ q, k q = some r ∧ TQ P o σ q := by
  unfold appendTo at h
  split at h
  · rename_i e hu
    split at h
    · rename_i z nb hz hnb
      cases hc : fitTy P e u && !Nat.beq nb 0 && Nat.beq z.length u.size with
      | false => rw [hc] at h; cases h
      | true =>
        rw [hc] at h
        simp only [cond_true] at h
        simp only [Bool.and_eq_true, Bool.not_eq_true'] at hc
        obtain ⟨m, h, hm, hs, hsrc⟩ := src_spec hw h
        unfold appG at h
        cases hb : Nat.ble ((l.length + m.length) * nb) 140737488355328 with
        | false => rw [hb] at h; cases h
        | true =>
          rw [hb] at h
          have hall : ∀ x, x ∈ l ++ m → wfU u x := fun x hx => (List.mem_append.1 hx).elim (hl x) (hm x)
          have he : ElemT P e u.size nb := ⟨(fitTy_spec hc.1.1).2, hnb, fun e0 => by rw [e0] at hc; simp at hc, z, hz, Nat.eq_of_beq_eq_true hc.2⟩
          have := fun Y => q_append (P := P) (σ := { σ.flat with H := σ.flat.H ++ Y }) ho hu he hs hx (rowU_len hl) (hsrc Y) (by have := Nat.le_of_ble_eq_true hb; omega)
          refine ⟨_, h, by simp only [TV.wf, wfU]; exact hall, ?_⟩
          simp only [TV.pv, pvU]
          rw [List.length_append]
          have e1 : List.flatMap (fun x => cellU u x) (l ++ m) = rowU u l ++ rowU u m := rowU_append l m
          rw [e1]; exact this
    · cases h
  · cases h

theorem append_spec {R : Type} {P : Program} {o : Oper} {σ : TS} {xs : Array Operand} {ts : Array TypeId} {k : TV → Option R} {r : R} (ho : o.op = .call { callee := .builtin .append, args := xs, argTypes := ts }) (hw : σ.wf)
    (h : appendK P (xs.toList.map σ.eval) ts.toList k = some r) : ∃ q, k q = some r ∧ TQ P o σ q := by
  unfold appendK at h
  generalize hm : xs.toList.map σ.eval = m at h
  generalize hts : ts.toList = l at h
  have two : ∀ {a b}, m = [a, b] → ∃ x y, xs = #[x, y] ∧ σ.eval x = a ∧ σ.eval y = b := fun {a b} e => by
    rw [e] at hm
    obtain ⟨x, l', h1, h2, h3⟩ := List.map_eq_cons_iff.1 hm
    obtain ⟨y, l'', g1, g2, g3⟩ := List.map_eq_cons_iff.1 h3
    have := List.map_eq_nil_iff.1 g3
    subst this; subst g1
    exact ⟨x, y, arr_of_list' h1, h2, g2⟩
  split at h
  · rename_i b t t2
    obtain ⟨x, y, rfl, hx, hy⟩ := two rfl
    have e := arr_of_list' hts; subst e
    split at h
    · split at h
      · rename_i u _
        rw [← hy] at h
        exact appendTo_spec ho hw (by rw [eval_eq hx (by simp)]; rfl) (fun x hx => by cases hx) h
      · cases h
    · cases h
  · rename_i u l' b t t2
    obtain ⟨x, y, rfl, hx, hy⟩ := two rfl
    have e := arr_of_list' hts; subst e
    rw [← hy] at h
    have hwx := eval_wf hw x
    rw [hx] at hwx
    simp only [TV.wf] at hwx
    exact appendTo_spec ho hw (by rw [eval_eq hx (by simp)]; rfl) hwx h
  · cases h

/-! ### a quiet operation -/
def nilCheckK {R : Type} (a : TV) (k : TV → Option R) : Option R :=
  match a with
  | .ptr b r p => k (.ptr b r p)
  | .ref u x => k (.ref u x)
  | .fn f c => k (.fn f c)
  | _ => none

theorem nilCheck_spec {R : Type} {P : Program} {o : Oper} {σ : TS} {x : Operand} {k : TV → Option R} {r : R} (ho : o.op = .nilCheck x) (hw : σ.wf) (h : nilCheckK (σ.eval x) k = some r) : ∃ q, k q = some r ∧ TQ P o σ q := by
  have hwx := eval_wf hw x
  unfold nilCheckK at h
  generalize hx : σ.eval x = a at h hwx
  split at h
  · exact ⟨_, h, hwx, by exact fun Y => q_nilCheck_ptr (σ := { σ.flat with H := σ.flat.H ++ Y }) ho ((eval_eq hx (by simp)).trans (by simp only [TV.pv]))⟩
  · exact ⟨_, h, hwx, by exact fun Y => q_nilCheck_fz (σ := { σ.flat with H := σ.flat.H ++ Y }) ho ((eval_eq hx (by simp)).trans (by simp only [TV.pv]))⟩
  · exact ⟨_, h, hwx, by exact fun Y => q_nilCheck_fn (σ := { σ.flat with H := σ.flat.H ++ Y }) ho ((eval_eq hx (by simp)).trans (by simp only [TV.pv]))⟩
  · cases h

def quietK {R : Type} (P : Program) (E : List Ent) (o : Oper) (σ : TS) (k : TV → Option R) : Option R :=
  match o.op with
  | .move x => k (σ.eval x)
  | .assign x => k (σ.eval x)
  | .pick c x y => pickK (σ.eval c) (σ.eval x) (σ.eval y) k
  | .binOp op t x y _ => binK P op t (σ.eval x) (σ.eval y) k
  | .unOp op _ x => unK op (σ.eval x) k
  | .convert s t x => convK P s t (σ.eval x) k
  | .load t x => loadK P σ.H t (σ.eval x) k
  | .fieldAddr t x i => fieldAddrK P t i (σ.eval x) k
  | .indexAddr t x y => indexAddrK P t (σ.eval x) (σ.eval y) k
  | .field t x i => fieldK P t i (σ.eval x) k
  | .index t x y => indexK P t (σ.eval x) (σ.eval y) k
  | .build t parts => buildK P t (parts.toList.map fun x => (x.1, σ.eval x.2)) k
  | .buildSlice t len parts => buildSliceK P t len (parts.toList.map fun x => (x.1, σ.eval x.2)) k
  | .extract x i => extractK i (σ.eval x) k
  | .nilCheck x => nilCheckK (σ.eval x) k
  | .slice t x lo hi mx => sliceK P σ t (σ.eval x) lo hi mx k
  | .call { callee := .builtin .append, args := xs, argTypes := ts } => appendK P (xs.toList.map σ.eval) ts.toList k
  | .call { callee := .builtin b, args := xs, argTypes := ts } => biK P b (xs.toList.map σ.eval) ts.toList k
  | .call { callee := .value fo, args := xs, argTypes := _ } => callTK E (σ.eval fo) (xs.toList.map σ.eval) k
  | _ => none

theorem quiet_spec {R : Type} {P : Program} {E : List Ent} (hE : EnvOK P E) {o : Oper} {σ : TS} {k : TV → Option R} {r : R} (hw : σ.wf) (h : quietK P E o σ k = some r) : ∃ q, k q = some r ∧ TQ P o σ q := by
  unfold quietK at h
  split at h
  · rename_i x ho; exact ⟨_, h, eval_wf hw x, fun Y => qle (q_move ho rfl) (eval_ple σ x)⟩
  · rename_i x ho; exact ⟨_, h, eval_wf hw x, fun Y => qle (q_assign ho rfl) (eval_ple σ x)⟩
  · rename_i ho; exact pick_spec ho hw h
  · rename_i ho; exact bin_spec ho hw h
  · rename_i ho; exact un_spec ho h
  · rename_i ho; exact conv_spec ho hw h
  · rename_i t x ho
    obtain ⟨q, h1, h2, h3⟩ := load_spec hw (eval_wf hw x) h
    refine ⟨q, h1, h2, ?_⟩
    rcases eval_flat σ x with e | e
    · exact fun Y => q_load (σ := { σ.flat with H := σ.flat.H ++ Y }) ho e (h3 Y)
    · rw [e] at h; simp [loadK] at h
  · rename_i ho; exact fieldAddr_spec ho hw h
  · rename_i ho; exact indexAddr_spec ho hw h
  · rename_i ho; exact field_spec ho hw h
  · rename_i ho; exact index_spec ho hw h
  · rename_i ho; exact build_spec ho hw h
  · rename_i ho; exact buildSlice_spec ho hw h
  · rename_i ho; exact extract_spec ho hw h
  · rename_i ho; exact nilCheck_spec ho hw h
  · rename_i ho; exact slice_spec ho hw h
  · rename_i ho; exact append_spec ho hw h
  · rename_i ho; exact bi_spec ho hw h
  · rename_i ho; exact call_spec hE ho hw h
  · cases h

/-! ### one operation -/
def TStep (P : Program) (o : Oper) (σ : TS) (N : TS → Prop) : Prop :=
  ∀ c a w (K : Act → World → Prop) Q, RelC w c σ.flat a →
    (∀ c' a' w' σ', N σ' → σ'.wf → RelC w' c' σ'.flat a' → Ext w c w' c' → a'.defers = a.defers → K a' w') → o.wp P a w K Q

def OLe : AObj → AObj → Prop
  | .row cs e, .row ds e' => e = e' ∧ CLe cs ds ∧ Leafs ds
  | a, b => a = b

theorem Good.le {w : World} {c : Cx} {H H' : List AObj} {ts : List Bool} (g : Ab.Good w c H ts) (hl : H.length = H'.length) (h : ∀ (i : Nat) o o', H[i]? = some o → H'[i]? = some o' → OLe o o') : Ab.Good w c H' ts where
  len := by rw [g.len, hl]
  inj := g.inj
  obj := fun b o' ho' => by
    have hb : b < H.length := by rw [hl]; exact (List.getElem?_eq_some_iff.1 ho').1
    have ho := List.getElem?_eq_getElem hb
    have hob := g.obj b _ ho
    have hle := h b _ _ ho ho'
    generalize H[b] = o at hob hle
    cases o with
    | row cs e =>
      cases o' with
      | row ds e' =>
        obtain ⟨rfl, h1, h2⟩ := hle
        obtain ⟨k, vs, fr, g1, g2, g3, g4, g5, g6⟩ := hob
        exact ⟨k, vs, fr, g1, g2, g3, by rw [g4, h1.1], h2, VRs_le ⟨_, _, g⟩ h1 g6⟩
      | raw _ => simp [OLe] at hle
      | gone => simp [OLe] at hle
    | raw o => 
      have : o' = .raw o := by cases o' <;> simp [OLe] at hle ⊢; exact hle.symm
      subst this; exact hob
    | gone =>
      have : o' = .gone := by cases o' <;> simp [OLe] at hle ⊢
      subst this; exact hob
  tl := g.tl
  tal := g.tal
  tdead := g.tdead
  tok := g.tok
  tinj := g.tinj
  okn := g.okn
  okm := g.okm
  okt := g.okt

theorem quiet_step {P : Program} {o : Oper} {σ : TS} {q : TV} {N : TS → Prop} (hw : σ.wf) (h : TQ P o σ q) (hN : N (σ.put o.dst q)) : TStep P o σ N := by
  intro c a w K Q hr hK
  have h2 := h.2 []
  rw [List.append_nil] at h2
  refine h2 c a w K Q hr fun v w' hv hg hx => hK c _ w' _ hN (put_wf hw _ h.1) ?_ hx (Act.put_defers' _ _ _)
  rw [flat_put]
  refine ⟨?_, (hr.2.ext hx).put o.dst hv⟩
  cases o.dst <;> simpa [AS.put] using hg

def effK {R : Type} (P : Program) (E : List Ent) (o : Oper) (σ : TS) (k : TS → Option R) : Option R :=
  match o.op with
  | .box t x => bif (σ.eval x).stores then k { σ.put o.dst (.ptr σ.H.length (.one (σ.eval x).lay) []) with H := σ.H ++ [.ob t (.var (σ.eval x))] } else none
  | .alloc t => match zeroK P t with
    | some z => k { σ.put o.dst (.ptr σ.H.length (.one z.lay) []) with H := σ.H ++ [.ob t (.var z)] }
    | none => none
  | .store t x y =>
    match o.dst, tySz P t, σ.eval x with
    | none, some n, .ptr b r p =>
      match σ.H[b]? with
      | some (.ob e ob) => bif r.beq ob.lay && (σ.eval y).stores && Nat.beq n (σ.eval y).lay.size then setO ob p (σ.eval y) fun ob' => k { σ with H := σ.H.set b (.ob e ob') } else none
      | _ => none
    | _, _, _ => none
  | _ => quietK P E o σ fun q => k (σ.put o.dst q)

theorem put_H (σ : TS) (d : Option Nat) (p : TV) : (σ.put d p).H = σ.H ∧ (σ.put d p).n = σ.n := by cases d <;> exact ⟨rfl, rfl⟩

theorem put_new_flat (σ : TS) (d : Option Nat) (p : TV) (e : TypeId) (o : Ob) :
    TS.flat { σ.put d p with H := σ.H ++ [.ob e o] } = { σ.flat with slots := match d with | some d => (d, p.pv) :: σ.flat.slots | none => σ.flat.slots, H := σ.flat.H ++ [.row o.cells e] } := by
  cases d <;> simp [TS.flat, TS.put, TOb.flat]

theorem put_new_wf {σ : TS} (hw : σ.wf) (d : Option Nat) {p : TV} (hp : p.wf) (e : TypeId) {o : Ob} (ho : o.wf) : TS.wf { σ.put d p with H := σ.H ++ [.ob e o] } :=
  ⟨(put_wf hw d hp).slots, fun q hq => by
    rcases List.mem_append.1 hq with hq | hq
    · exact hw.H q hq
    · simp only [List.mem_singleton] at hq; subst hq; exact ho⟩

theorem step_t {P : Program} {o : Oper} {σ : TS} {σ' : TS} {τ : AS} {N : TS → Prop} (hN : N σ') (hw : σ'.wf) (h : Step P o σ.flat (· = τ)) (hle : ∀ w c a, RelC w c τ a → RelC w c σ'.flat a) : TStep P o σ N :=
  fun c a w K Q hr hK => h c a w K Q hr fun c' a' w' _ hs hr' hx hd => hK c' a' w' σ' hN hw (hle _ _ _ (hs ▸ hr')) hx hd

theorem eff_spec {R : Type} {P : Program} {E : List Ent} (hE : EnvOK P E) {o : Oper} {σ : TS} {k : TS → Option R} {r : R} (hw : σ.wf) (h : effK P E o σ k = some r) : TStep P o σ (fun σ' => k σ' = some r ∧ σ'.n = σ.n) := by
  unfold effK at h
  split at h
  · rename_i t x ho
    cases hs : (σ.eval x).stores with
    | false => rw [hs] at h; cases h
    | true =>
      rw [hs] at h
      have hwx := eval_wf hw x
      have ex : σ.flat.eval x = (σ.eval x).pv := by
        rcases eval_flat σ x with e | e
        · exact e
        · rw [e] at hs; cases hs
      refine step_t ⟨h, (put_H _ _ _).2⟩ (put_new_wf hw _ (by simp only [TV.wf]) _ ⟨hwx, hs⟩) (step_box ho ex (stor_of hwx hs) rfl) fun w c a hr => ?_
      rw [put_new_flat]
      cases hd : o.dst <;> rw [hd] at hr <;> simpa only [TV.pv, Rt.off, U.off, TS.flat, List.length_map, Ob.cells, TV.cells] using hr
  · rename_i t ho
    split at h
    · rename_i z hz
      obtain ⟨z1, z2, zp, z3, z4, z5⟩ := zeroK_spec hz
      refine step_t ⟨h, (put_H _ _ _).2⟩ (put_new_wf hw _ (by simp only [TV.wf]) _ ⟨z1, z2⟩) (step_alloc ho z3 z4 rfl) fun w c a hr => ?_
      rw [put_new_flat]
      refine ⟨?_, ?_⟩
      · refine Good.le hr.1 (by simp) fun i o1 o2 h1 h2 => ?_
        simp only [TS.flat] at h1 h2
        by_cases hi : i < (σ.H.map TOb.flat).length
        · rw [List.getElem?_append_left hi] at h1 h2
          rw [h1] at h2; cases h2
          have := List.mem_of_getElem? h1
          simp only [List.mem_map] at this
          obtain ⟨q, hq, rfl⟩ := this
          cases q with
          | gone => rfl
          | ob e ob =>
            refine ⟨rfl, CLe.refl _, ?_⟩
            have := hw.H _ hq
            cases ob with
            | var t => exact leafs_cells this.1 this.2
            | row u l => exact leafs_rowU this
        · rw [List.getElem?_append_right (by omega)] at h1 h2
          cases hj : i - (σ.H.map TOb.flat).length with
          | zero =>
            rw [hj] at h1 h2
            simp at h1 h2
            subst h1; subst h2
            exact ⟨rfl, z5, leafs_cells z1 z2⟩
          | succ n => rw [hj] at h1; simp at h1
      · have h2 := hr.2
        cases hd : o.dst <;> rw [hd] at h2 <;> simp only [TV.pv, Rt.off, U.off, TS.flat, List.length_map] at h2 ⊢ <;> exact h2
    · cases h
  · rename_i t x y ho
    split at h
    · rename_i n b rt p hd hn hx
      split at h
      · rename_i e ob hb
        cases hc : rt.beq ob.lay && (σ.eval y).stores && Nat.beq n (σ.eval y).lay.size with
        | false => rw [hc] at h; cases h
        | true =>
          rw [hc] at h
          simp only [Bool.and_eq_true] at hc
          obtain ⟨⟨c1, c2⟩, c3⟩ := hc
          have e1 := Rt.beq_eq c1
          subst e1
          have e3 := Nat.eq_of_beq_eq_true c3
          have hwy := eval_wf hw y
          have hob := hw.H _ (List.mem_of_getElem? hb)
          obtain ⟨ob', h1, h2⟩ := setO_spec ob p hob hwy h
          have ex : σ.flat.eval x = .ptr b (ob.lay.off p) := by rw [eval_eq hx (by simp)]; simp only [TV.pv]
          have ey : σ.flat.eval y = (σ.eval y).pv := by
            rcases eval_flat σ y with e | e
            · exact e
            · rw [e] at c2; cases c2
          have hl := cells_len _ hwy
          have hblt : b < σ.H.length := (List.getElem?_eq_some_iff.1 hb).1
          refine step_t ⟨h1, rfl⟩ ⟨hw.slots, fun q hq => ?_⟩ (step_store ho hd hn ex ey (stor_of hwy c2) (by rw [e3]; exact hl) (flatH hb) (by rw [e3, ← hl]; exact h2.le) rfl) fun w c a hr => ?_
          · rcases List.mem_or_eq_of_mem_set hq with hq | hq
            · exact hw.H q hq
            · rw [hq]; exact h2.wf
          · refine ⟨Good.le hr.1 (by simp [TS.flat]) fun i o1 o2 g1 g2 => ?_, hr.2⟩
            simp only [TS.flat] at g1 g2
            by_cases hi : b = i
            · subst hi
              rw [List.getElem?_set_self (by simpa using hblt)] at g1
              rw [List.getElem?_map, List.getElem?_set_self hblt] at g2
              cases g1
              simp only [Option.map_some, TOb.flat, Option.some.injEq] at g2
              subst g2
              exact ⟨rfl, h2.cells, h2.leafs⟩
            · rw [List.getElem?_set_ne hi] at g1
              rw [List.getElem?_map, List.getElem?_set_ne hi, ← List.getElem?_map, g1] at g2
              cases g2
              have := List.mem_of_getElem? g1
              simp only [List.mem_map] at this
              obtain ⟨q, hq, rfl⟩ := this
              cases q with
              | gone => rfl
              | ob e ob =>
                refine ⟨rfl, CLe.refl _, ?_⟩
                have := hw.H _ hq
                cases ob with
                | var t => exact leafs_cells this.1 this.2
                | row u l => exact leafs_rowU this
      · cases h
    · cases h
  · obtain ⟨q, h1, h2⟩ := quiet_spec hE hw h
    exact quiet_step hw h2 ⟨h1, (put_H _ _ _).2⟩

theorem eff_wf {R : Type} {P : Program} {E : List Ent} (hE : EnvOK P E) {o : Oper} {σ : TS} {k : TS → Option R} {r : R} (hw : σ.wf) (h : effK P E o σ k = some r) : ∃ σ', σ'.wf ∧ k σ' = some r := by
  unfold effK at h
  split at h
  · rename_i t x ho
    cases hs : (σ.eval x).stores with
    | false => rw [hs] at h; cases h
    | true => rw [hs] at h; exact ⟨_, put_new_wf hw _ (by simp only [TV.wf]) _ (o := .var (σ.eval x)) ⟨eval_wf hw x, hs⟩, h⟩
  · rename_i t ho
    split at h
    · rename_i z hz
      obtain ⟨z1, z2, _⟩ := zeroK_spec hz
      exact ⟨_, put_new_wf hw _ (by simp only [TV.wf]) _ (o := .var z) ⟨z1, z2⟩, h⟩
    · cases h
  · rename_i t x y ho
    split at h
    · rename_i n b rt p hd hn hx
      split at h
      · rename_i e ob hb
        cases hc : rt.beq ob.lay && (σ.eval y).stores && Nat.beq n (σ.eval y).lay.size with
        | false => rw [hc] at h; cases h
        | true =>
          rw [hc] at h
          obtain ⟨ob', h1, h2⟩ := setO_spec ob p (hw.H _ (List.mem_of_getElem? hb)) (eval_wf hw y) h
          refine ⟨{ σ with H := σ.H.set b (.ob e ob') }, ⟨hw.slots, fun q hq => ?_⟩, h1⟩
          rcases List.mem_or_eq_of_mem_set hq with hq | hq
          · exact hw.H q hq
          · rw [hq]; exact h2.wf
      · cases h
    · cases h
  · obtain ⟨q, h1, h2⟩ := quiet_spec hE hw h
    exact ⟨_, put_wf hw _ h2.1, h1⟩

/-! ### guards -/
def refineL (d : Nat) (b : Bool) : List (Nat × TV) → List (Nat × TV)
  | [] => []
  | (t, p) :: r => bif Nat.beq t d then (t, .v .bool b) :: r else (t, p) :: refineL d b r

def TS.refine (σ : TS) (d : Nat) (b : Bool) : TS := { σ with slots := refineL d b σ.slots }

theorem refineL_flat {d : Nat} {b : Bool} : ∀ {l : List (Nat × TV)}, lookT l d = some (.v .bool b) → (refineL d b l).map (fun x => (x.1, x.2.pv)) = l.map fun x => (x.1, x.2.pv)
  | [], h => by simp [lookT] at h
  | (t, p) :: r, h => by
    simp only [lookT] at h
    simp only [refineL]
    cases hb : Nat.beq t d with
    | true => rw [hb] at h; simp only [cond_true, Option.some.injEq] at h ⊢; rw [h]
    | false => rw [hb] at h; simp only [cond_false] at h ⊢; simp only [List.map_cons, refineL_flat h]

theorem refineL_mem {d : Nat} {b : Bool} : ∀ {l : List (Nat × TV)} {x : Nat × TV}, x ∈ refineL d b l → x ∈ l ∨ x.2 = .v .bool b
  | [], x, h => by cases h
  | (t, p) :: r, x, h => by
    simp only [refineL] at h
    cases hb : Nat.beq t d with
    | true =>
      rw [hb] at h
      rcases List.mem_cons.1 h with rfl | h
      · exact .inr rfl
      · exact .inl (by simp [h])
    | false =>
      rw [hb] at h
      rcases List.mem_cons.1 h with rfl | h
      · exact .inl (by simp)
      · rcases refineL_mem h with h | h
        · exact .inl (by simp [h])
        · exact .inr h

theorem refine_flat {σ : TS} {d : Nat} {b : Bool} (h : σ.get d = .v .bool b) : (σ.refine d b).flat = σ.flat := by
  unfold TS.get at h
  cases hn : Nat.blt d σ.n with
  | false => rw [hn] at h; cases h
  | true =>
    rw [hn] at h
    simp only [cond_true] at h
    cases hl : lookT σ.slots d with
    | none => rw [hl] at h; cases h
    | some p => rw [hl] at h; simp only [Option.getD_some] at h; subst h; simp only [TS.flat, TS.refine, refineL_flat hl]

theorem refine_wf {σ : TS} (hw : σ.wf) (d : Nat) (b : Bool) : (σ.refine d b).wf :=
  ⟨fun x hx => by
    rcases refineL_mem hx with hx | hx
    · exact hw.slots x hx
    · rw [hx]; simp only [TV.wf, wfU], hw.H⟩

def guardK {R : Type} (ops : Array Oper) (o : Oper) (view σ : TS) (yes no : TS → Option R) : Option R :=
  match o.guard with
  | none => yes σ
  | some (j, want) =>
    match (ops[j]?).bind (·.dst) with
    | none => no σ
    | some d =>
      match view.get d with
      | .v .bool β => cond β (cond want (yes (σ.refine d true)) (no (σ.refine d true))) (cond want (no (σ.refine d false)) (yes (σ.refine d false)))
      | .tup _ => no σ
      | _ => none

theorem guard_spec {R : Type} {ops : Array Oper} {o : Oper} {view σ : TS} {yes no : TS → Option R} {r : R} (hw : σ.wf) (hv : ∀ d b, view.get d = .v .bool b → σ.get d = .v .bool b) (h : guardK ops o view σ yes no = some r) :
    ∃ g σ', guardOf ops view.flat o = some g ∧ σ'.flat = σ.flat ∧ σ'.wf ∧ (if g = true then yes σ' else no σ') = some r := by
  unfold guardK at h
  unfold guardOf
  split at h
  · rename_i hg; rw [hg]; exact ⟨true, σ, rfl, rfl, hw, h⟩
  · rename_i j want hg
    rw [hg]
    split at h
    · rename_i hd; simp only [hd]; exact ⟨false, σ, rfl, rfl, hw, h⟩
    · rename_i d hd
      simp only [hd]
      rw [flat_get]
      split at h
      · rename_i β hβ
        rw [hβ]
        have hσ := hv d β hβ
        refine ⟨β == want, σ.refine d β, rfl, refine_flat hσ, refine_wf hw d β, ?_⟩
        cases β <;> cases want <;> exact h
      · rename_i hβ; rw [hβ]; exact ⟨false, σ, by simp only [TV.pv], rfl, hw, h⟩
      · cases h

/-! ### regions in the text's order -/
def opsK {R : Type} (P : Program) (E : List Ent) (ops : Array Oper) : List Oper → TS → (TS → Option R) → Option R
  | [], σ, k => k σ
  | o :: r, σ, k => guardK ops o σ σ (fun σ => effK P E o σ fun σ' => opsK P E ops r σ' k) (fun σ => opsK P E ops r (σ.put o.dst (.tup [])) k)

theorem tup_wf : (TV.tup []).wf := by simp only [TV.wf, TV.wfs]

theorem ops_spec {R : Type} {P : Program} {E : List Ent} (hE : EnvOK P E) {ops : Array Oper} {k : TS → Option R} {r : R} : ∀ (l : List Oper) (i : Nat) {σ : TS} {c : Cx} {a : Act} {w : World} {Q' : Exit → Act → World → Prop},
    ops.toList.drop i = l → σ.wf → opsK P E ops l σ k = some r → RelC w c σ.flat a →
    (∀ c' a' w' σ', k σ' = some r → σ'.wf → RelC w' c' σ'.flat a' → Ext w c w' c' → a'.defers = a.defers → Q' .normal a' w') → wpOps P ops Q' (List.range' i l.length) a w
  | [], i, σ, c, a, w, Q', hd, hw, h, hr, hK => hK c a w σ (by simpa only [opsK] using h) hw hr (Ext.refl _ _) rfl
  | o :: l, i, σ, c, a, w, Q', hd, hw, h, hr, hK => by
    have ho : ops[i]? = some o := by
      have : ops.toList[i]? = some o := by
        have h3 : (ops.toList.drop i)[0]? = some o := by rw [hd]; rfl
        rw [List.getElem?_drop] at h3; simpa using h3
      simpa using this
    have hd' : ops.toList.drop (i + 1) = l := by
      have : ops.toList.drop (i + 1) = (ops.toList.drop i).drop 1 := by rw [List.drop_drop]
      rw [this, hd]; rfl
    simp only [opsK] at h
    obtain ⟨g, σ', hg, hf, hw', h⟩ := guard_spec hw (fun _ _ e => e) h
    simp only [List.length_cons, List.range'_succ, wpOps, ho]
    rw [wanted_of_guardOf hr.2 hg]
    cases g with
    | true =>
      simp only [if_true] at h ⊢
      refine .inl (eff_spec hE hw' h c a w _ Q' (by rw [hf]; exact hr) fun c' a' w' σ2 hk hw2 hr2 hx hdf => ?_)
      exact ops_spec hE l (i + 1) hd' hw2 hk.1 hr2 fun c3 a3 w3 σ3 hk3 hw3 hr3 hx3 hd3 => hK c3 a3 w3 σ3 hk3 hw3 hr3 (hx.trans hx3) (hd3.trans hdf)
    | false =>
      simp only [Bool.false_eq_true, if_false] at h ⊢
      refine ops_spec hE l (i + 1) hd' (put_wf hw' _ tup_wf) h ?_ fun c3 a3 w3 σ3 hk3 hw3 hr3 hx3 hd3 => hK c3 a3 w3 σ3 hk3 hw3 hr3 hx3 (hd3.trans (Act.put_defers' _ _ _))
      rw [flat_put, hf]
      refine ⟨?_, by simp only [TV.pv, TV.pvs]; exact hr.2.put o.dst VR_undef⟩
      have := hr.1
      cases o.dst <;> simpa [AS.put] using this

theorem ops_wf {R : Type} {P : Program} {E : List Ent} (hE : EnvOK P E) {ops : Array Oper} {k : TS → Option R} {r : R} : ∀ (l : List Oper) {σ : TS}, σ.wf → opsK P E ops l σ k = some r → ∃ σ', σ'.wf ∧ k σ' = some r
  | [], σ, hw, h => ⟨σ, hw, by simpa only [opsK] using h⟩
  | o :: l, σ, hw, h => by
    simp only [opsK] at h
    obtain ⟨g, σ', hg, hf, hw', h⟩ := guard_spec hw (fun _ _ e => e) h
    cases g with
    | true =>
      simp only [if_true] at h
      obtain ⟨σ2, h1, h2⟩ := eff_wf hE hw' h
      exact ops_wf hE l h1 h2
    | false =>
      simp only [Bool.false_eq_true, if_false] at h
      exact ops_wf hE l (put_wf hw' _ tup_wf) h

/-! ### regions that draw their order: quiet operations, and such as lay new objects -/
def drawK {R : Type} (P : Program) (E : List Ent) (ops : Array Oper) (base : List TOb) : List Oper → TS → (TS → Option R) → Option R
  | [], σ, k => k σ
  | o :: r, σ, k => guardK ops o (σ.keep (o.looksAt ops)) σ
      (fun σ => match o.op with
        | .box t x => bif ((σ.keep (o.looksAt ops)).eval x).stores then drawK P E ops base r { σ.put o.dst (.ptr σ.H.length (.one ((σ.keep (o.looksAt ops)).eval x).lay) []) with H := σ.H ++ [.ob t (.var ((σ.keep (o.looksAt ops)).eval x))] } k else none
        | .alloc t => match zeroK P t with
          | some z => drawK P E ops base r { σ.put o.dst (.ptr σ.H.length (.one z.lay) []) with H := σ.H ++ [.ob t (.var z)] } k
          | none => none
        | _ => quietK P E o { σ.keep (o.looksAt ops) with H := base } fun p => drawK P E ops base r (σ.put o.dst p) k)
      (fun σ => drawK P E ops base r (σ.put o.dst (.tup [])) k)

theorem keep_get {σ : TS} {l : List Nat} {t : Nat} {p : TV} (h : (σ.keep l).get t = p) (hp : p ≠ .dead) : σ.get t = p := by
  unfold TS.get at h
  cases hn : Nat.blt t (σ.keep l).n with
  | false => rw [hn] at h; exact absurd h.symm hp
  | true =>
    rw [hn] at h
    simp only [cond_true] at h
    have key : ∀ (l : List Nat) (q : TV), lookT (l.map fun t => (t, σ.get t)) t = some q → σ.get t = q := by
      intro l
      induction l with
      | nil => intro q h; simp [lookT] at h
      | cons s l ih =>
        intro q h
        simp only [List.map_cons, lookT] at h
        cases hb : Nat.beq s t with
        | true =>
          rw [hb] at h
          have := Nat.eq_of_beq_eq_true hb
          subst this
          simpa using h
        | false => rw [hb] at h; exact ih q (by simpa using h)
    cases hl : lookT (l.map fun t => (t, σ.get t)) t with
    | none => simp only [TS.keep, hl, Option.getD_none] at h; exact absurd h.symm hp
    | some q => simp only [TS.keep, hl, Option.getD_some] at h; exact h ▸ key l q hl

theorem guardOf_H (ops : Array Oper) (σ : AS) (H : List AObj) (o : Oper) : guardOf ops { σ with H := H } o = guardOf ops σ o := rfl

theorem eval_H (σ : AS) (H : List AObj) (x : Operand) : AS.eval { σ with H := H } x = σ.eval x := rfl

theorem keep_H (σ : AS) (H : List AObj) (l : List Nat) : AS.keep { σ with H := H } l = { σ.keep l with H := H } := rfl

theorem as_put_H (σ : AS) (H : List AObj) (d : Option Nat) (p : PV) : AS.put { σ with H := H } d p = { σ.put d p with H := H } := by cases d <;> rfl

theorem as_put_new (σ : AS) (d : Option Nat) (p : PV) (H : List AObj) : ({ σ with slots := match d with | some d => (d, p) :: σ.slots | none => σ.slots, H := H } : AS) = { σ.put d p with H := H } := by cases d <;> rfl

theorem putAll_H (l : List Oper) : ∀ (ps : List PV) (σ : AS) (H : List AObj), putAll l ps { σ with H := H } = { putAll l ps σ with H := H } := by
  induction l with
  | nil => intro ps σ H; cases ps <;> rfl
  | cons o l ih =>
    intro ps σ H
    cases ps with
    | nil => rfl
    | cons p ps => simp only [putAll, as_put_H]; exact ih ps _ H

/-- what a stretch does to a state -/
structure Drawn (P : Program) (ops : Array Oper) (base : List TOb) (l : List Oper) (its : List Ab.Item) (σ σ' : TS) : Prop where
  does : ∀ H0, Does P ops (base.map TOb.flat) (fun _ => True) l its σ.H.length { σ.flat with H := H0 }
  flat : σ'.flat = { putAll l (its.map Ab.Item.pv) σ.flat with H := σ.flat.H ++ (newObs its).map fun x => .row x.1 x.2 }

theorem draw_spec {R : Type} {P : Program} {E : List Ent} (hE : EnvOK P E) {ops : Array Oper} {base : List TOb} (hbase : ∀ q, q ∈ base → q.wf) {k : TS → Option R} {r : R} : ∀ (l : List Oper) {σ : TS}, σ.wf → drawK P E ops base l σ k = some r →
    ∃ its σ', Drawn P ops base l its σ σ' ∧ k σ' = some r ∧ σ'.wf
  | [], σ, hw, h => ⟨[], σ, ⟨fun _ => trivial, by simp [putAll, newObs]⟩, by simpa only [drawK] using h, hw⟩
  | o :: l, σ, hw, h => by
    simp only [drawK] at h
    obtain ⟨g, σ1, hg, hf, hw1, h⟩ := guard_spec hw (fun d b e => keep_get e (by simp)) h
    rw [flat_keep] at hg
    have hHlen : σ1.H.length = σ.H.length := by
      have := congrArg (fun τ : AS => τ.H.length) hf
      simpa [TS.flat] using this
    have hHf : σ1.flat.H = σ.flat.H := congrArg AS.H hf
    -- a new object
    have lay : g = true → ∀ (v : TV) (e : TypeId) (z : TV), z.wf → z.stores = true → v = .ptr σ1.H.length (.one z.lay) [] → drawK P E ops base l { σ1.put o.dst v with H := σ1.H ++ [.ob e (.var z)] } k = some r →
        Lays P o (σ.flat.keep (o.looksAt ops)) z.cells e → ∃ its σ', Drawn P ops base (o :: l) its σ σ' ∧ k σ' = some r ∧ σ'.wf := by
      intro hgt v e z hz hs hv h hl
      obtain ⟨its, σ', ⟨d1, d2⟩, k1, k2⟩ := draw_spec hE hbase l (put_new_wf hw1 o.dst (by rw [hv]; simp only [TV.wf]) e (o := .var z) ⟨hz, hs⟩) h
      have hvp : v.pv = .ptr σ.H.length 0 := by rw [hv, ← hHlen]; simp only [TV.pv, Rt.off, U.off]
      rw [put_new_flat, as_put_new, hf] at d1 d2
      refine ⟨Ab.Item.al σ.H.length z.cells e :: its, σ', ⟨fun H0 => ⟨⟨rfl, ?_, ?_⟩, ?_⟩, ?_⟩, k1, k2⟩
      · rw [hgt] at hg; exact hg
      · exact hl
      · have := d1 H0
        simp only [List.length_append, List.length_singleton, hHlen] at this
        rw [as_put_H]
        simp only [Ab.Item.pv]
        rw [hvp] at this
        exact this
      · rw [d2]
        simp only [newObs, List.map_cons, putAll, Ab.Item.pv, hHf, Ob.cells, hvp]
        rw [putAll_H]
        simp [List.append_assoc]
    have q0 : quietK P E o { σ1.keep (o.looksAt ops) with H := base } (fun p => drawK P E ops base l (σ1.put o.dst p) k) = some r → g = true → ∃ its σ', Drawn P ops base (o :: l) its σ σ' ∧ k σ' = some r ∧ σ'.wf := by
      intro h hgt
      obtain ⟨q, h1, h2, h3⟩ := quiet_spec hE (σ := { σ1.keep (o.looksAt ops) with H := base }) ⟨(keep_wf hw1 _).slots, hbase⟩ h
      obtain ⟨its, σ', ⟨d1, d2⟩, g2, g3⟩ := draw_spec hE hbase l (put_wf hw1 o.dst h2) h1
      rw [flat_put, hf] at d1 d2
      simp only [(put_H _ _ _).1, hHlen] at d1 d2
      refine ⟨Ab.Item.q q.pv :: its, σ', ⟨fun H0 => ⟨⟨g, hg, ?_⟩, ?_⟩, ?_⟩, g2, g3⟩
      · rw [if_pos hgt]
        intro X _
        have := h3 X
        have e : ((TS.flat { σ1.keep (o.looksAt ops) with H := base }) : AS) = { (σ1.keep (o.looksAt ops)).flat with H := base.map TOb.flat } := rfl
        rw [e, flat_keep, hf] at this
        exact this
      · rw [as_put_H]; exact d1 H0
      · rw [d2]; simp only [newObs, List.map_cons, putAll, Ab.Item.pv]; cases o.dst <;> rfl
    cases g with
    | true =>
      simp only [if_true] at h
      split at h
      · rename_i t x ho
        cases hs : ((σ1.keep (o.looksAt ops)).eval x).stores with
        | false => rw [hs] at h; cases h
        | true =>
          rw [hs] at h
          have hwx := eval_wf (keep_wf hw1 (o.looksAt ops)) x
          have ex : (σ1.keep (o.looksAt ops)).flat.eval x = ((σ1.keep (o.looksAt ops)).eval x).pv := by
            rcases eval_flat (σ1.keep (o.looksAt ops)) x with e | e
            · exact e
            · rw [e] at hs; cases hs
          rw [flat_keep, hf] at ex
          exact lay rfl _ t _ hwx hs rfl h (.inr ⟨x, _, ho, ex, stor_of hwx hs, rfl⟩)
      · rename_i t ho
        split at h
        · rename_i z hz
          obtain ⟨z1, z2, zp, z3, z4, z5⟩ := zeroK_spec hz
          exact lay rfl _ t z z1 z2 rfl h (.inl ⟨zp, ho, z3, z5.1, leafs_cells z1 z2, fun w c f hg hv => VRs_le hg z5 hv⟩)
        · cases h
      · exact q0 h rfl
    | false =>
      simp only [Bool.false_eq_true, if_false] at h
      obtain ⟨its, σ', ⟨d1, d2⟩, g2, g3⟩ := draw_spec hE hbase l (put_wf hw1 o.dst tup_wf) h
      rw [flat_put, hf] at d1 d2
      simp only [TV.pv, TV.pvs, (put_H _ _ _).1, hHlen] at d1 d2
      refine ⟨Ab.Item.q (.tup []) :: its, σ', ⟨fun H0 => ⟨⟨false, hg, by simp⟩, ?_⟩, ?_⟩, g2, g3⟩
      · rw [as_put_H]; exact d1 H0
      · rw [d2]; simp only [newObs, List.map_cons, putAll, Ab.Item.pv]; cases o.dst <;> rfl

/-! ### regions that draw their order: stretches of quiet operations, and others -/
def isEff (o : Oper) : Bool :=
  match o.op with
  | .store _ _ _ => true
  | _ => o.dst.isNone

def quietLen : List Oper → Nat
  | [] => 0
  | o :: r => bif isEff o then 0 else quietLen r + 1

def plan (ops : Array Oper) : Nat → Nat → Bool
  | 0, lo => Nat.beq lo ops.size
  | f + 1, lo => bif Nat.beq lo ops.size then true else
    match quietLen (ops.toList.drop lo) with
    | 0 => barOk ops lo && plan ops f (lo + 1)
    | m + 1 => drawOkAt ops lo (lo + (m + 1)) && sepOk ops lo (lo + (m + 1)) && plan ops f (lo + (m + 1))

def drawGo {R : Type} (P : Program) (E : List Ent) (ops : Array Oper) (k : TS → Option R) : Nat → Nat → TS → Option R
  | 0, _, σ => k σ
  | f + 1, lo, σ => bif Nat.beq lo ops.size then k σ else
    match quietLen (ops.toList.drop lo) with
    | 0 => match ops[lo]? with
      | some o => guardK ops o σ σ (fun σ => effK P E o σ fun σ' => drawGo P E ops k f (lo + 1) σ') (fun σ => drawGo P E ops k f (lo + 1) (σ.put o.dst (.tup [])))
      | none => none
    | m + 1 => drawK P E ops σ.H (seg ops lo (lo + (m + 1))) σ fun σ' => drawGo P E ops k f (lo + (m + 1)) σ'

theorem quietLen_le : ∀ l : List Oper, quietLen l ≤ l.length
  | [] => Nat.le_refl _
  | o :: r => by
    simp only [quietLen]
    cases isEff o with
    | true => simp
    | false => have := quietLen_le r; simp only [cond_false, List.length_cons]; omega

theorem draws_wf {R : Type} {P : Program} {E : List Ent} (hE : EnvOK P E) {ops : Array Oper} {k : TS → Option R} {r : R} : ∀ (f lo : Nat) {σ : TS}, σ.wf → drawGo P E ops k f lo σ = some r → ∃ σ', σ'.wf ∧ k σ' = some r := by
  intro f
  induction f with
  | zero => intro lo σ hw h; exact ⟨σ, hw, h⟩
  | succ f ih =>
    intro lo σ hw h
    simp only [drawGo] at h
    cases hend : Nat.beq lo ops.size with
    | true => rw [hend] at h; exact ⟨σ, hw, h⟩
    | false =>
      rw [hend] at h
      simp only [cond_false] at h
      split at h
      · split at h
        · obtain ⟨g, σ', hg, hfl, hw', h⟩ := guard_spec hw (fun _ _ e => e) h
          cases g with
          | true =>
            simp only [if_true] at h
            obtain ⟨σ2, h1, h2⟩ := eff_wf hE hw' h
            exact ih _ h1 h2
          | false =>
            simp only [Bool.false_eq_true, if_false] at h
            exact ih _ (put_wf hw' _ tup_wf) h
        · cases h
      · obtain ⟨its, σ', _, g2, g3⟩ := draw_spec hE hw.H _ hw h
        exact ih _ g3 g2

theorem putAll_n2 (l : List Oper) (ps : List PV) (σ : AS) : (putAll l ps σ).n = σ.n := (putAll_n l ps σ).1

theorem draws_spec {R : Type} {P : Program} {E : List Ent} (hE : EnvOK P E) {ops : Array Oper} {k : TS → Option R} {r : R} {Q' : Exit → Act → World → Prop} {n : Nat} (hdn : ∀ o, o ∈ ops.toList → o.dst.all (fun d => decide (d < n)) = true) :
    ∀ (f lo : Nat) {σ : TS} {c : Cx} {a : Act} {w : World} (fuel : Nat) (listed : Array Bool), σ.flat.n = n → plan ops f lo = true → lo ≤ ops.size → drawGo P E ops k f lo σ = some r → σ.wf → RelC w c σ.flat a →
    listed.size = ops.size → (∀ j, j < ops.size → (listed.getD j false = true ↔ j < lo)) → Closed ops listed → left ops listed ≤ fuel →
    (∀ c' a' w' σ', k σ' = some r → σ'.wf → RelC w' c' σ'.flat a' → Ext w c w' c' → a'.defers = a.defers → Q' .normal a' w') → wpAny P .any ops Q' fuel listed a w := by
  intro f
  induction f with
  | zero =>
    intro lo σ c a w fuel listed _ hp _ h hw hr hs hl hc hf hK
    have e := Nat.eq_of_beq_eq_true hp
    exact any_done hs (fun j hj => (hl j hj).2 (by omega)) (hK c a w σ h hw hr (Ext.refl _ _) rfl) fuel
  | succ f ih =>
    intro lo σ c a w fuel listed hn hp hle h hw hr hs hl hc hf hK
    simp only [plan] at hp
    simp only [drawGo] at h
    cases hend : Nat.beq lo ops.size with
    | true =>
      rw [hend] at h
      have e := Nat.eq_of_beq_eq_true hend
      exact any_done hs (fun j hj => (hl j hj).2 (by omega)) (hK c a w σ h hw hr (Ext.refl _ _) rfl) fuel
    | false =>
      rw [hend] at h hp
      simp only [cond_false] at h hp
      have hlt : lo < ops.size := by
        apply Classical.byContradiction
        intro hno
        have e : lo = ops.size := by omega
        rw [e, Nat.beq_refl] at hend; cases hend
      cases hq : quietLen (ops.toList.drop lo) with
      | zero =>
        rw [hq] at h hp
        simp only [Bool.and_eq_true] at hp
        simp only at h
        have ho : ops[lo]? = some ops[lo] := by simp [hlt]
        rw [ho] at h
        simp only at h
        obtain ⟨g, σ', hg, hfl, hw', h⟩ := guard_spec hw (fun _ _ e => e) h
        refine bar_step hp.1 ho hs hl hc hf fun fuel' listed' s1 s2 s3 s4 => ?_
        unfold wpOp
        rw [ho]
        simp only
        rw [wanted_of_guardOf hr.2 hg]
        cases g with
        | true =>
          simp only [if_true] at h ⊢
          refine .inl (eff_spec hE hw' h c a w _ Q' (by rw [hfl]; exact hr) fun c' a' w' σ2 hk hw2 hr2 hx hdf => ?_)
          have hn2 : σ2.flat.n = n := by
            have e1 : σ2.n = σ'.n := hk.2
            have e2 : σ'.n = σ.n := congrArg AS.n hfl
            exact e1.trans (e2.trans hn)
          exact ih (lo + 1) fuel' listed' hn2 hp.2 hlt hk.1 hw2 hr2 s1 s2 s3 s4 fun c3 a3 w3 σ3 hk3 hw3 hr3 hx3 hd3 => hK c3 a3 w3 σ3 hk3 hw3 hr3 (hx.trans hx3) (hd3.trans hdf)
        | false =>
          simp only [Bool.false_eq_true, if_false] at h ⊢
          refine ih (lo + 1) fuel' listed' ?_ hp.2 hlt h (put_wf hw' _ tup_wf) ?_ s1 s2 s3 s4 fun c3 a3 w3 σ3 hk3 hw3 hr3 hx3 hd3 => hK c3 a3 w3 σ3 hk3 hw3 hr3 hx3 (hd3.trans (Act.put_defers' _ _ _))
          · rw [flat_put, hfl]
            cases ops[lo].dst <;> exact hn
          · rw [flat_put, hfl]
            refine ⟨?_, by simp only [TV.pv, TV.pvs]; exact hr.2.put _ VR_undef⟩
            have := hr.1
            cases ops[lo].dst <;> simpa [AS.put] using this
      | succ m =>
        rw [hq] at h hp
        simp only [Bool.and_eq_true] at hp
        simp only at h
        have hql := quietLen_le (ops.toList.drop lo)
        rw [hq, List.length_drop] at hql
        simp only [Array.length_toList] at hql
        have hle' : lo + (m + 1) ≤ ops.size := by omega
        obtain ⟨its, σ', ⟨g1, g4⟩, g2, g3⟩ := draw_spec hE hw.H _ hw h
        have hseg : ∀ o, o ∈ seg ops lo (lo + (m + 1)) → o ∈ ops.toList := fun o ho => List.mem_of_mem_drop (List.mem_of_mem_take ho)
        obtain ⟨gd, xr⟩ := good_room hr.1 (newObs its).length
        have hlenH : σ.flat.H.length = σ.H.length := by simp [TS.flat]
        refine seg_draw its hp.1.1 hp.1.2 (by omega) hle' (fun o ho => by rw [hn]; exact hdn o (hseg o ho)) (OK := fun _ => True) (fun _ => trivial) (by rw [hlenH]; exact g1 σ.flat.H) (left ops listed) fuel listed
          { c with m := c.m ++ List.replicate (newObs its).length none } a w rfl hf ?_ ?_
        · refine ⟨?_, hr.2.1, hs, fun t ht _ => ?_, fun j o p t hjl hD ho => ?_, hc, fun j hjl hjs => (hl j hjs).2 hjl, fun j hD => ?_⟩
          · rw [objsAt_none its lo fun i _ => ?_]
            · exact gd
            · cases hD : listed.getD (lo + i) false with
              | false => rfl
              | true =>
                have := (hl _ (listed_lt hs hD)).1 hD; omega
          · have := hr.2.eval (.tmp t)
            have h2 : VR w c (σ.flat.get t) (a.tmps.getD t undef) := by simpa only [AS.eval, Act.eval] using this
            exact h2.ext xr
          · have hjs := listed_lt hs hD
            have := (hl j hjs).1 hD; omega
          · have hjs := listed_lt hs hD
            have := (hl j hjs).1 hD; omega
        · intro fuel' listed' c' a' w' s1 s2 s3 s4 s5 s6 s7
          have e4 : behind (seg ops lo (lo + (m + 1))) its σ.flat = σ'.flat := g4.symm
          rw [e4] at s5
          refine ih (lo + (m + 1)) fuel' listed' ?_ hp.2 hle' g2 g3 s5 s1 s2 s3 s4 fun c3 a3 w3 σ3 hk3 hw3 hr3 hx3 hd3 => hK c3 a3 w3 σ3 hk3 hw3 hr3 ((xr.trans s6).trans hx3) (hd3.trans s7)
          rw [g4]; exact (putAll_n2 _ _ _).trans hn

end Go.Tm
