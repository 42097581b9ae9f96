/- The typed machine, part 4: states; numbers, truths and strings. -/
import Derived.Test.YtfjikgkcleefiaaDoorTm3
set_option linter.unusedSimpArgs false
set_option linter.unusedVariables false
namespace Go.Tm
open Go.Ab

inductive Ob where
  | var (t : TV)
  | row (u : U) (l : List u.T)

def Ob.cells : Ob → List PV
  | .var t => t.cells
  | .row u l => rowU u l

def Ob.wf : Ob → Prop
  | .var t => t.wf ∧ t.stores = true
  | .row u l => ∀ x, x ∈ l → wfU u x

def Ob.lay : Ob → Rt
  | .var t => .one t.lay
  | .row u _ => .row u.canon

inductive TOb where
  | ob (e : TypeId) (o : Ob)
  | gone

def TOb.flat : TOb → AObj
  | .ob e o => .row o.cells e
  | .gone => .gone

def TOb.wf : TOb → Prop
  | .ob _ o => o.wf
  | .gone => True

structure TS where
  n : Nat
  slots : List (Nat × TV)
  H : List TOb

def lookT : List (Nat × TV) → Nat → Option TV
  | [], _ => none
  | (t, p) :: r, s => bif Nat.beq t s then some p else lookT r s

def TS.get (σ : TS) (t : Nat) : TV := bif Nat.blt t σ.n then (lookT σ.slots t).getD .dead else .dead

def bytesI (s : ByteArray) : List Int := s.data.toList.map fun b => (b.toNat : Int)

def ofVT : Value → TV
  | .bool b => .v .bool b
  | .int k n => bif decide (k.min ≤ n) && decide (n ≤ k.max) then .v (.int k) n else .dead
  | .string s => .v .str (bytesI s)
  | .pointer none => .nilp
  | .nilFunc => .nilf
  | .nilIface => .nili
  | .map none => .nilm
  | .slice none 0 0 => .nil
  | .func (.func f) ⟨[]⟩ ⟨[]⟩ => .fn f []
  | .tuple ⟨[]⟩ => .tup []
  | _ => .dead

def TS.eval (σ : TS) : Operand → TV
  | .tmp t => σ.get t
  | .const v => ofVT v
  | .global _ => .dead
  | .func f => .fn f []

def TS.put (σ : TS) (d : Option Nat) (p : TV) : TS :=
  match d with
  | some d => { σ with slots := (d, p) :: σ.slots }
  | none => σ

def TS.keep (σ : TS) (l : List Nat) : TS := { σ with slots := l.map fun t => (t, σ.get t) }

def TS.flat (σ : TS) : AS := ⟨σ.n, σ.slots.map fun x => (x.1, x.2.pv), σ.H.map TOb.flat, []⟩

structure TS.wf (σ : TS) : Prop where
  slots : ∀ x, x ∈ σ.slots → x.2.wf
  H : ∀ o, o ∈ σ.H → o.wf

theorem look_map : ∀ (l : List (Nat × TV)) (t : Nat), Ab.look (l.map fun x => (x.1, x.2.pv)) t = (lookT l t).map TV.pv
  | [], _ => rfl
  | (s, p) :: l, t => by
    simp only [List.map_cons, Ab.look, lookT]
    cases Nat.beq s t with
    | true => rfl
    | false => exact look_map l t

theorem flat_get (σ : TS) (t : Nat) : σ.flat.get t = (σ.get t).pv := by
  simp only [AS.get, TS.get, TS.flat, look_map]
  cases Nat.blt t σ.n with
  | false => simp [TV.pv]
  | true => cases lookT σ.slots t <;> simp [TV.pv]

theorem flat_put (σ : TS) (d : Option Nat) (p : TV) : (σ.put d p).flat = σ.flat.put d p.pv := by
  cases d <;> rfl

theorem flat_keep (σ : TS) (l : List Nat) : (σ.keep l).flat = σ.flat.keep l := by
  simp only [TS.keep, AS.keep, TS.flat, List.map_map]
  congr 1
  refine List.map_congr_left fun t _ => ?_
  have := flat_get σ t
  simp only [TS.flat] at this
  simp only [Function.comp, this]

theorem lookT_mem : ∀ {l : List (Nat × TV)} {t : Nat} {p : TV}, lookT l t = some p → ∃ x, x ∈ l ∧ x.2 = p
  | [], _, _, h => by simp [lookT] at h
  | (s, q) :: l, t, p, h => by
    simp only [lookT] at h
    cases hb : Nat.beq s t with
    | true => rw [hb] at h; simp at h; exact ⟨(s, q), by simp, h⟩
    | false => rw [hb] at h; obtain ⟨x, h1, h2⟩ := lookT_mem (by simpa using h); exact ⟨x, by simp [h1], h2⟩

theorem wf_dead : TV.dead.wf := by simp only [TV.wf]

theorem get_wf {σ : TS} (h : σ.wf) (t : Nat) : (σ.get t).wf := by
  unfold TS.get
  cases Nat.blt t σ.n with
  | false => exact wf_dead
  | true =>
    cases hl : lookT σ.slots t with
    | none => exact wf_dead
    | some p => obtain ⟨x, h1, rfl⟩ := lookT_mem hl; exact h.slots x h1

theorem put_wf {σ : TS} (h : σ.wf) (d : Option Nat) {p : TV} (hp : p.wf) : (σ.put d p).wf := by
  cases d with
  | none => exact h
  | some d => exact ⟨fun x hx => by
      simp only [TS.put, List.mem_cons] at hx
      rcases hx with rfl | hx
      · exact hp
      · exact h.slots x hx, h.H⟩

theorem keep_wf {σ : TS} (h : σ.wf) (l : List Nat) : (σ.keep l).wf :=
  ⟨fun x hx => by
    simp only [TS.keep, List.mem_map] at hx
    obtain ⟨t, _, rfl⟩ := hx
    exact get_wf h t, h.H⟩

theorem ba_bytesI (s : ByteArray) : ba (bytesI s) = s := by
  unfold ba bytesI
  rw [List.map_map]
  have : ((fun n : Int => UInt8.ofNat n.toNat) ∘ fun b : UInt8 => (b.toNat : Int)) = id := by
    funext b; simp
  rw [this, List.map_id]

theorem byteOk_bytesI (s : ByteArray) : byteOk (bytesI s) := by
  intro n hn
  simp only [bytesI, List.mem_map] at hn
  obtain ⟨b, _, rfl⟩ := hn
  have := b.toNat_lt
  omega

theorem wf_ofVT (v : Value) : (ofVT v).wf := by
  unfold ofVT
  split <;> try (simp only [TV.wf, wfU, TV.wfs]; done)
  · rename_i k n
    cases hc : decide (k.min ≤ n) && decide (n ≤ k.max) with
    | false => exact wf_dead
    | true => simp at hc; simpa only [cond_true, TV.wf, wfU] using hc
  · simp only [TV.wf, wfU]; exact byteOk_bytesI _

theorem eval_wf {σ : TS} (h : σ.wf) (x : Operand) : (σ.eval x).wf := by
  cases x with
  | tmp t => exact get_wf h t
  | const v => exact wf_ofVT v
  | global g => exact wf_dead
  | func f => simp only [TS.eval, TV.wf, TV.wfs]

theorem PLe_dead (p : PV) : PLe p .dead := fun _ _ _ _ _ => by simp only [VR]

theorem eval_flat (σ : TS) (x : Operand) : σ.flat.eval x = (σ.eval x).pv ∨ σ.eval x = .dead := by
  cases x with
  | tmp t => exact .inl (flat_get σ t)
  | global g => exact .inr rfl
  | func f => exact .inl (by simp [AS.eval, TS.eval, TV.pv, TV.pvs])
  | const v =>
    simp only [AS.eval, TS.eval]
    have key : ofV v = (ofVT v).pv ∨ ofVT v = .dead := by
      unfold ofV
      split
      · exact .inl rfl
      · rename_i k n
        have e : ofVT (.int k n) = bif decide (k.min ≤ n) && decide (n ≤ k.max) then .v (.int k) n else .dead := rfl
        rw [e]
        cases decide (k.min ≤ n) && decide (n ≤ k.max) with
        | false => exact .inr rfl
        | true => exact .inl rfl
      · rename_i s
        have e : ofVT (.string s) = .v .str (bytesI s) := rfl
        rw [e]
        exact .inl (by simp only [TV.pv, pvU, ba_bytesI])
      · exact .inl rfl
      · exact .inl rfl
      · exact .inl rfl
      · exact .inl rfl
      · exact .inl rfl
      · rename_i f
        have e : ofVT (.func (.func f) ⟨[]⟩ ⟨[]⟩) = .fn f [] := rfl
        rw [e]
        exact .inl (by simp only [TV.pv, TV.pvs])
      · have e : ofVT (.tuple ⟨[]⟩) = .tup [] := rfl
        rw [e]
        exact .inl (by simp only [TV.pv, TV.pvs])
      · rename_i h1 h2 h3 h4 h5 h6 h7 h8 h9 h10
        refine .inr ?_
        unfold ofVT
        split <;> first | rfl | (exfalso; first | exact h1 _ rfl | exact h2 _ _ rfl | exact h3 _ rfl | exact h4 rfl | exact h5 rfl | exact h6 rfl | exact h7 rfl | exact h8 rfl | exact h9 _ rfl | exact h10 rfl)
    exact key

theorem eval_ple (σ : TS) (x : Operand) : PLe (σ.flat.eval x) (σ.eval x).pv := by
  rcases eval_flat σ x with h | h
  · rw [h]; exact PLe.refl _
  · rw [h]; exact PLe_dead _

/-- what an operand is, where it isn't dead -/
theorem eval_eq {σ : TS} {x : Operand} {t : TV} (h : σ.eval x = t) (hd : t ≠ .dead) : σ.flat.eval x = t.pv := by
  rcases eval_flat σ x with h' | h'
  · rw [h', h]
  · exact absurd (h ▸ h') hd

theorem qle {P : Program} {o : Oper} {σ : AS} {p q : PV} (h : QStep P o σ p) (hpq : PLe p q) : QStep P o σ q :=
  fun c a w K Q hr hK => h c a w K Q hr fun v w' hv hg => hK v w' (hpq _ _ _ ⟨_, _, hg⟩ hv) hg

/-- A quiet operation hands over a typed value. -/
def TQ (P : Program) (o : Oper) (σ : TS) (t : TV) : Prop := t.wf ∧ ∀ Y, QStep P o { σ.flat with H := σ.flat.H ++ Y } t.pv

/-! ### truths of numbers -/
@[reducible] def eqI (a b : Int) : Bool := decide (a = b)
@[reducible] def neI (a b : Int) : Bool := !decide (a = b)
@[reducible] def ltI (a b : Int) : Bool := decide (a < b)
@[reducible] def leI (a b : Int) : Bool := decide (a ≤ b)

abbrev W64 (n : Int) : Int := IntKind.i64.wrap n
abbrev WU64 (n : Int) : Int := IntKind.u64.wrap n
abbrev W32 (n : Int) : Int := IntKind.i32.wrap n
abbrev WU32 (n : Int) : Int := IntKind.u32.wrap n
abbrev WU16 (n : Int) : Int := IntKind.u16.wrap n
abbrev WU8 (n : Int) : Int := IntKind.u8.wrap n

theorem wrap_range (k : IntKind) (n : Int) : k.min ≤ k.wrap n ∧ k.wrap n ≤ k.max := by
  cases k <;> simp only [IntKind.min, IntKind.max, IntKind.wrap, IntKind.bits, IntKind.signed] <;> simp <;> (try split) <;> omega

def bitI (op : BinOp) (k : IntKind) (a b : Int) : Int :=
  match op with
  | .and => k.wrap (BitVec.ofInt k.bits a &&& BitVec.ofInt k.bits b).toNat
  | .or => k.wrap (BitVec.ofInt k.bits a ||| BitVec.ofInt k.bits b).toNat
  | .xor => k.wrap (BitVec.ofInt k.bits a ^^^ BitVec.ofInt k.bits b).toNat
  | _ => k.wrap (BitVec.ofInt k.bits a &&& ~~~BitVec.ofInt k.bits b).toNat

def binIK {R : Type} (op : BinOp) (k : IntKind) (a b : Int) (κ : TV → Option R) : Option R :=
  match op with
  | .add => κ (.v (.int k) (k.wrap (a + b)))
  | .sub => κ (.v (.int k) (k.wrap (a - b)))
  | .mul => κ (.v (.int k) (k.wrap (a * b)))
  | .quo => bif eqI b 0 then none else κ (.v (.int k) (k.wrap (a.tdiv b)))
  | .rem => bif eqI b 0 then none else κ (.v (.int k) (a.tmod b))
  | .eql => κ (.v .bool (eqI a b))
  | .neq => κ (.v .bool (neI a b))
  | .lss => κ (.v .bool (ltI a b))
  | .leq => κ (.v .bool (leI a b))
  | .gtr => κ (.v .bool (ltI b a))
  | .geq => κ (.v .bool (leI b a))
  | .and => κ (.v (.int k) (bitI .and k a b))
  | .or => κ (.v (.int k) (bitI .or k a b))
  | .xor => κ (.v (.int k) (bitI .xor k a b))
  | .andNot => κ (.v (.int k) (bitI .andNot k a b))
  | _ => none

theorem tmod_range {k : IntKind} {a b : Int} (h : k.min ≤ a ∧ a ≤ k.max) : k.min ≤ a.tmod b ∧ a.tmod b ≤ k.max := by
  have h1 : (a.tmod b).natAbs ≤ a.natAbs := by rw [Int.natAbs_tmod]; exact Nat.mod_le _ _
  have h2 : 0 ≤ a → 0 ≤ a.tmod b := fun h => Int.tmod_nonneg b h
  have hm : k.min ≤ 0 ∧ 0 ≤ k.max := by cases k <;> decide
  by_cases h0 : 0 ≤ a
  · have := h2 h0; omega
  · have h3 : (-a).tmod b = -(a.tmod b) := by rw [Int.neg_tmod]
    have h4 : 0 ≤ (-a).tmod b := Int.tmod_nonneg b (by omega)
    omega

theorem binI_spec {R : Type} {P : Program} {o : Oper} {σ : TS} {op : BinOp} {t yt : TypeId} {x y : Operand} {k : IntKind} {a b : Int} {κ : TV → Option R} {r : R} (ho : o.op = .binOp op t x y yt)
    (hx : σ.eval x = .v (.int k) a) (hy : σ.eval y = .v (.int k) b) (hw : σ.wf) (h : binIK op k a b κ = some r) : ∃ q, κ q = some r ∧ TQ P o σ q := by
  have ex : σ.flat.eval x = .val (.int k a) := eval_eq hx (by simp)
  have ey : σ.flat.eval y = .val (.int k b) := eval_eq hy (by simp)
  have wa : k.min ≤ a ∧ a ≤ k.max := by have := eval_wf hw x; rw [hx] at this; simpa only [TV.wf, wfU] using this
  have num : ∀ n : Int, binInt op k a b = some (.int k (k.wrap n)) → κ (.v (.int k) (k.wrap n)) = some r → ∃ q, κ q = some r ∧ TQ P o σ q := fun n e hk =>
    ⟨_, hk, by simp only [TV.wf, wfU]; exact wrap_range k n, fun _ => q_bin ho ex ey e⟩
  have boo : ∀ c : Bool, binInt op k a b = some (.bool c) → κ (.v .bool c) = some r → ∃ q, κ q = some r ∧ TQ P o σ q := fun c e hk =>
    ⟨_, hk, by simp only [TV.wf, wfU], fun _ => q_bin ho ex ey e⟩
  unfold binIK at h
  split at h
  · exact num _ rfl h
  · exact num _ rfl h
  · exact num _ rfl h
  · cases hb : eqI b 0 with
    | true => rw [hb] at h; cases h
    | false => rw [hb] at h; exact ⟨_, h, by simp only [TV.wf, wfU]; exact wrap_range k _, fun _ => q_quo ho ex ey (by simpa using hb)⟩
  · cases hb : eqI b 0 with
    | true => rw [hb] at h; cases h
    | false => rw [hb] at h; exact ⟨_, h, by simp only [TV.wf, wfU]; exact tmod_range wa, fun _ => q_rem ho ex ey (by simpa using hb)⟩
  · exact boo _ (by simp only [binInt]; congr 2) h
  · exact boo _ (by simp only [binInt]; congr 2) h
  · exact boo _ rfl h
  · exact boo _ rfl h
  · exact boo _ rfl h
  · exact boo _ rfl h
  · exact num _ rfl h
  · exact num _ rfl h
  · exact num _ rfl h
  · exact num _ rfl h
  · cases h

/-! ### shifts -/
def shI (op : BinOp) (k : IntKind) (a b : Int) : Int :=
  match op with
  | .shl => k.wrap (a * 2 ^ min b.toNat k.bits)
  | _ => a.fdiv (2 ^ min b.toNat k.bits)

def shK {R : Type} (op : BinOp) (k : IntKind) (a b : Int) (κ : TV → Option R) : Option R :=
  match op with
  | .shl => bif ltI b 0 then none else κ (.v (.int k) (shI .shl k a b))
  | .shr => bif ltI b 0 then none else κ (.v (.int k) (shI .shr k a b))
  | _ => none

theorem fdiv_range {k : IntKind} {a : Int} (n : Nat) (h : k.min ≤ a ∧ a ≤ k.max) : k.min ≤ a.fdiv (2 ^ n) ∧ a.fdiv (2 ^ n) ≤ k.max := by
  have hp : (0 : Int) < 2 ^ n := by exact_mod_cast Nat.pow_pos (by omega)
  have e : a.fdiv (2 ^ n) = a / (2 ^ n) := Int.fdiv_eq_ediv_of_nonneg _ (by omega)
  rw [e]
  have hm : k.min ≤ 0 ∧ 0 ≤ k.max := by cases k <;> decide
  by_cases h0 : 0 ≤ a
  · have h1 : a / (2 ^ n) ≤ a := Int.ediv_le_self _ h0
    have h2 : 0 ≤ a / (2 ^ n) := Int.ediv_nonneg h0 (by omega)
    omega
  · have h1 : a / (2 ^ n) < 0 := Int.ediv_neg_of_neg_of_pos (by omega) hp
    have h2 : a ≤ a / (2 ^ n) := by
      rw [Int.le_ediv_iff_mul_le hp]
      have : (1 : Int) ≤ 2 ^ n := hp
      have := Int.mul_le_mul_of_nonpos_left (show a ≤ 0 by omega) this
      omega
    omega

theorem sh_spec {R : Type} {P : Program} {o : Oper} {σ : TS} {op : BinOp} {t yt : TypeId} {x y : Operand} {k k' : IntKind} {a b : Int} {κ : TV → Option R} {r : R} (ho : o.op = .binOp op t x y yt)
    (hx : σ.eval x = .v (.int k) a) (hy : σ.eval y = .v (.int k') b) (hw : σ.wf) (h : shK op k a b κ = some r) : ∃ q, κ q = some r ∧ TQ P o σ q := by
  have ex : σ.flat.eval x = .val (.int k a) := eval_eq hx (by simp)
  have ey : σ.flat.eval y = .val (.int k' b) := eval_eq hy (by simp)
  have wa : k.min ≤ a ∧ a ≤ k.max := by have := eval_wf hw x; rw [hx] at this; simpa only [TV.wf, wfU] using this
  unfold shK at h
  split at h
  · cases hb : ltI b 0 with
    | true => rw [hb] at h; cases h
    | false => rw [hb] at h; exact ⟨_, h, by simp only [TV.wf, wfU]; exact wrap_range k _, fun _ => q_shl ho ex ey (by simpa using hb)⟩
  · cases hb : ltI b 0 with
    | true => rw [hb] at h; cases h
    | false => rw [hb] at h; exact ⟨_, h, by simp only [TV.wf, wfU]; exact fdiv_range _ wa, fun _ => q_shr ho ex ey (by simpa using hb)⟩
  · cases h

/-! ### strings -/
@[reducible] def eqS (a b : List Int) : Bool := decide (a = b)
def ltS : List Int → List Int → Bool
  | _, [] => false
  | [], _ :: _ => true
  | a :: x, b :: y => ltI a b || (eqI a b && ltS x y)

theorem ba_toList (l : List Int) : (ba l).toList = l.map fun n => UInt8.ofNat n.toNat := by
  simp [ba, ByteArray.toList_eq]

theorem byte_inj {a b : Int} (ha : 0 ≤ a ∧ a < 256) (hb : 0 ≤ b ∧ b < 256) (h : UInt8.ofNat a.toNat = UInt8.ofNat b.toNat) : a = b := by
  have := congrArg UInt8.toNat h
  simp at this
  omega

theorem bytes_inj : ∀ {a b : List Int}, byteOk a → byteOk b → a.map (fun n => UInt8.ofNat n.toNat) = b.map (fun n => UInt8.ofNat n.toNat) → a = b
  | [], [], _, _, _ => rfl
  | [], _ :: _, _, _, h => by simp at h
  | _ :: _, [], _, _, h => by simp at h
  | x :: a, y :: b, ha, hb, h => by
    simp only [List.map_cons, List.cons.injEq] at h
    rw [byte_inj (ha x (by simp)) (hb y (by simp)) h.1, bytes_inj (fun n hn => ha n (by simp [hn])) (fun n hn => hb n (by simp [hn])) h.2]

theorem bytes_lt : ∀ {a b : List Int}, byteOk a → byteOk b → Op.bytesLess (a.map fun n => UInt8.ofNat n.toNat) (b.map fun n => UInt8.ofNat n.toNat) = ltS a b
  | _, [], _, _ => by simp [Op.bytesLess, ltS]
  | [], _ :: _, _, _ => by simp [Op.bytesLess, ltS]
  | x :: a, y :: b, ha, hb => by
    have hx := ha x (by simp)
    have hy := hb y (by simp)
    simp only [List.map_cons, Op.bytesLess, ltS, bytes_lt (a := a) (b := b) (fun n hn => ha n (by simp [hn])) (fun n hn => hb n (by simp [hn]))]
    have e1 : (decide (UInt8.ofNat x.toNat < UInt8.ofNat y.toNat)) = ltI x y := by
      rw [Bool.eq_iff_iff]; simp [UInt8.lt_iff_toNat_lt]; omega
    have e2 : (UInt8.ofNat x.toNat == UInt8.ofNat y.toNat) = eqI x y := by
      rw [Bool.eq_iff_iff]; simp
      exact ⟨fun h => byte_inj hx hy h, fun h => by rw [h]⟩
    rw [e1, e2]

theorem ba_append (a b : List Int) : ba a ++ ba b = ba (a ++ b) := by
  apply ByteArray.ext
  simp [ba]

theorem ba_size (a : List Int) : (ba a).size = a.length := by simp [ba, ByteArray.size]

/-- texts joined, where that is no longer than any text may be -/
def catG {R : Type} (a b : List Int) (κ : Unit → Option R) : Option R := bif Nat.ble (a.length + b.length) 9223372036854775807 then κ () else none
def catK {R : Type} (a b : List Int) (κ : TV → Option R) : Option R := catG a b fun _ => κ (.v .str (a ++ b))

def binSK {R : Type} (op : BinOp) (a b : List Int) (κ : TV → Option R) : Option R :=
  match op with
  | .add => catK a b κ
  | .eql => κ (.v .bool (eqS a b))
  | .neq => κ (.v .bool (!(eqS a b)))
  | .lss => κ (.v .bool (ltS a b))
  | .leq => κ (.v .bool (ltS a b || eqS a b))
  | .gtr => κ (.v .bool (!(ltS a b || eqS a b)))
  | .geq => κ (.v .bool (!(ltS a b)))
  | _ => none

theorem binS_spec {R : Type} {P : Program} {o : Oper} {σ : TS} {op : BinOp} {t yt : TypeId} {x y : Operand} {a b : List Int} {κ : TV → Option R} {r : R} (ho : o.op = .binOp op t x y yt)
    (hx : σ.eval x = .v .str a) (hy : σ.eval y = .v .str b) (hw : σ.wf) (h : binSK op a b κ = some r) : ∃ q, κ q = some r ∧ TQ P o σ q := by
  have ex : σ.flat.eval x = .val (.string (ba a)) := eval_eq hx (by simp)
  have ey : σ.flat.eval y = .val (.string (ba b)) := eval_eq hy (by simp)
  have wa : byteOk a := by have := eval_wf hw x; rw [hx] at this; simpa only [TV.wf, wfU] using this
  have wb : byteOk b := by have := eval_wf hw y; rw [hy] at this; simpa only [TV.wf, wfU] using this
  have heq : ((ba a).toList == (ba b).toList) = eqS a b := by
    rw [Bool.eq_iff_iff, ba_toList, ba_toList]; simp
    exact ⟨fun h => bytes_inj wa wb (by simpa using h), fun h => by rw [h]⟩
  have hlt : Op.bytesLess (ba a).toList (ba b).toList = ltS a b := by rw [ba_toList, ba_toList]; exact bytes_lt wa wb
  have boo : ∀ c : Bool, binStr op (ba a) (ba b) = some (.bool c) → κ (.v .bool c) = some r → ∃ q, κ q = some r ∧ TQ P o σ q := fun c e hk =>
    ⟨_, hk, by simp only [TV.wf, wfU], fun _ => q_str ho ex ey e⟩
  unfold binSK at h
  split at h
  · unfold catK catG at h
    cases hb : Nat.ble (a.length + b.length) 9223372036854775807 with
    | false => rw [hb] at h; cases h
    | true =>
      rw [hb] at h
      refine ⟨_, h, ?_, ?_⟩
      · simp only [TV.wf, wfU]; intro n hn; rcases List.mem_append.1 hn with hn | hn; exact wa n hn; exact wb n hn
      · intro Y
        have := q_cat (P := P) (σ := { σ.flat with H := σ.flat.H ++ Y }) ho ex ey (by rw [ba_size, ba_size]; exact Nat.le_of_ble_eq_true hb)
        rw [ba_append] at this; exact this
  · exact boo _ (by simp only [binStr, heq]) h
  · exact boo _ (by simp only [binStr, heq]) h
  · exact boo _ (by simp only [binStr, hlt]) h
  · exact boo _ (by simp only [binStr, hlt, heq]) h
  · exact boo _ (by simp only [binStr, hlt, heq]) h
  · exact boo _ (by simp only [binStr, hlt]) h
  · cases h

end Go.Tm
