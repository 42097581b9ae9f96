/- An abstract calculus over the model's weakest preconditions, part 8: rules in the form in which walks use them. -/
import Derived.Test.YtfjikgkcleefiaaDoorAb7
namespace Go.Ab

/-- Operations, one behind the other, the rest of a region as a list. -/
def Ops (P : Program) (ops : Array Oper) : List Oper → AS → (AS → Prop) → Prop
  | [], σ, N => N σ
  | o :: r, σ, N => ∃ g, guardOf ops σ o = some g ∧
      if g = true then Step P o σ (fun σ' => Ops P ops r σ' N) else Ops P ops r (σ.put o.dst (.tup [])) N

theorem Step.mono {P : Program} {o : Oper} {σ : AS} {N N' : AS → Prop} (h : Step P o σ N) (hn : ∀ σ, N σ → N' σ) : Step P o σ N' :=
  fun c a w K Q hr hK => h c a w K Q hr fun c' a' w' σ' hN => hK c' a' w' σ' (hn _ hN)

theorem runs_of_ops {P : Program} {ops : Array Oper} {N : AS → Prop} : ∀ (r : List Oper) (i : Nat) {σ : AS}, ops.toList.drop i = r → Ops P ops r σ N →
    Runs P ops (List.range' i r.length) σ N
  | [], _, _, _, h => h
  | o :: r, i, σ, hd, h => by
    obtain ⟨g, h1, h2⟩ := h
    have ho : ops[i]? = some o := by
      have : ops.toList[i]? = some o := by
        have h3 : (ops.toList.drop i)[0]? = some o := by rw [hd]; rfl
        rw [List.getElem?_drop] at h3; simpa using h3
      simpa using this
    have hd' : ops.toList.drop (i + 1) = r := by
      have : ops.toList.drop (i + 1) = (ops.toList.drop i).drop 1 := by rw [List.drop_drop]
      rw [this, hd]; rfl
    simp only [List.length_cons, List.range'_succ, Runs]
    refine ⟨o, g, ho, h1, ?_⟩
    cases g with
    | true =>
      simp only [if_true] at h2 ⊢
      exact h2.mono fun σ' hN => runs_of_ops r (i + 1) hd' hN
    | false =>
      simp only [Bool.false_eq_true, if_false] at h2 ⊢
      exact runs_of_ops r (i + 1) hd' h2

theorem AW.reg {P : Program} {id : Nat} {ops : Array Oper} {σ : AS} {Q : Exit → AS → Prop} (h : Ops P ops ops.toList σ (Q .normal)) : AW P (.region id ops false) σ Q := by
  refine AW.region ?_
  have := runs_of_ops ops.toList 0 (by simp) h
  rw [List.range_eq_range']
  simpa using this

theorem Ops.q {P : Program} {ops : Array Oper} {o : Oper} {r : List Oper} {σ : AS} {N : AS → Prop} {p : PV} (hg : guardOf ops σ o = some true) (h : QStep P o σ p)
    (hN : Ops P ops r (σ.put o.dst p) N) : Ops P ops (o :: r) σ N := ⟨true, hg, by simp only [if_true]; exact h.step hN⟩

theorem Ops.no {P : Program} {ops : Array Oper} {o : Oper} {r : List Oper} {σ : AS} {N : AS → Prop} (hg : guardOf ops σ o = some false)
    (hN : Ops P ops r (σ.put o.dst (.tup [])) N) : Ops P ops (o :: r) σ N := ⟨false, hg, by simp only [Bool.false_eq_true, if_false]; exact hN⟩

theorem Ops.e {P : Program} {ops : Array Oper} {o : Oper} {r : List Oper} {σ : AS} {N : AS → Prop} (hg : guardOf ops σ o = some true)
    (h : Step P o σ (fun σ' => Ops P ops r σ' N)) : Ops P ops (o :: r) σ N := ⟨true, hg, by simp only [if_true]; exact h⟩

theorem Ops.nil {P : Program} {ops : Array Oper} {σ : AS} {N : AS → Prop} (h : N σ) : Ops P ops [] σ N := h

/-- Slots that aren't wanted any more are forgotten. -/
def AS.keep (σ : AS) (l : List Nat) : AS := { σ with slots := l.map fun t => (t, σ.get t) }

theorem look_keep (σ : AS) : ∀ (l : List Nat) (t : Nat) (p : PV), look (l.map fun t => (t, σ.get t)) t = some p → σ.get t = p
  | [], _, _, h => by simp [look] at h
  | s :: l, t, p, h => by
    simp only [List.map_cons, look] at h
    cases hb : Nat.beq s t with
    | true =>
      have := Nat.eq_of_beq_eq_true hb
      subst this
      rw [hb] at h
      simpa using h
    | false => rw [hb] at h; exact look_keep σ l t p (by simpa using h)

theorem RelC.keep {w : World} {c : Cx} {σ : AS} {a : Act} (h : RelC w c σ a) (l : List Nat) : RelC w c (σ.keep l) a := by
  refine ⟨h.1, h.2.1, fun t p hl hn => ?_⟩
  have hg := look_keep σ l t p hl
  have he := h.2.eval (.tmp t)
  simp only [AS.eval, Act.eval] at he
  have hlt : t < a.tmps.size := by rw [h.2.1]; exact hn
  refine ⟨a.tmps[t], by simp [hlt], ?_⟩
  rw [hg] at he
  simpa [Array.getD_eq_getD_getElem?, hlt] using he

theorem AW.keep {P : Program} {x : Code} {σ : AS} {Q : Exit → AS → Prop} (l : List Nat) (h : AW P x (σ.keep l) Q) : AW P x σ Q :=
  fun c a w Q' hr hK => h c a w Q' (hr.keep l) hK

/-- A loop, with its variables named: 'st s' is the frame at a round's head. -/
theorem AW.loopK {P : Program} {x : Code} {σ : AS} {Q : Exit → AS → Prop} {S : Type} (l : List Nat) (st : S → AS) (I : S → Prop) (μ : S → Nat) (s : S) (hI : I s)
    (h0 : σ.keep l = st s) (hr : ∀ s, I s → AW P x (st s) (thn (fun σ' => ∃ s', I s' ∧ σ'.keep l = st s' ∧ μ s' < μ s) Q)) : AW P (.loop x) σ Q := by
  refine AW.keep l ?_
  rw [h0]
  intro c a w Q' hrel hK
  refine AW.loop (S := S) (fun s σ => I s ∧ ∃ σ2, σ2.keep l = st s ∧ ∀ w c a, RelC w c σ a → RelC w c (st s) a) μ s ⟨hI, σ, h0, fun _ _ _ h => h⟩ ?_ c a w Q' hrel hK
  intro s σ1 ⟨hI1, _, _, hsub⟩ c1 a1 w1 Q1 hr1 hK1
  refine hr s hI1 c1 a1 w1 Q1 (hsub _ _ _ hr1) (fun e c' a' w' σ' hQ hr' hx hd => ?_)
  cases e <;> first | exact hK1 _ c' a' w' σ' hQ hr' hx hd | skip
  obtain ⟨s', hI', hk, hlt⟩ := hQ
  exact hK1 .normal c' a' w' σ' ⟨s', ⟨hI', σ', hk, fun w c a h => hk ▸ h.keep l⟩, hlt⟩ hr' hx hd

/-! ### small words for walks -/
abbrev vi (k : IntKind) (n : Int) : PV := .val (.int k n)
abbrev vb (b : Bool) : PV := .val (.bool b)
abbrev vs (s : ByteArray) : PV := .val (.string s)

theorem AW.cond_t {P : Program} {x : Operand} {t e : Code} {σ : AS} {Q : Exit → AS → Prop} {b : Bool} (hc : σ.eval x = .val (.bool b)) (hb : b = true) (h : AW P t σ Q) : AW P (.cond x t e) σ Q :=
  .cond2 hc (fun _ => h) (fun h' => by rw [hb] at h'; cases h')

theorem AW.cond_f {P : Program} {x : Operand} {t e : Code} {σ : AS} {Q : Exit → AS → Prop} {b : Bool} (hc : σ.eval x = .val (.bool b)) (hb : b = false) (h : AW P e σ Q) : AW P (.cond x t e) σ Q :=
  .cond2 hc (fun h' => by rw [hb] at h'; cases h') (fun _ => h)

theorem guard_y {g : Option Bool} {b w : Bool} (h : g = some (b == w)) (hb : b = w) : g = some true := by rw [h, hb]; cases w <;> rfl
theorem guard_n {g : Option Bool} {b w : Bool} (h : g = some (b == w)) (hb : b = !w) : g = some false := by rw [h, hb]; cases w <;> rfl

theorem q_pick_t {P : Program} {o : Oper} {σ : AS} {x y z : Operand} {b : Bool} {q : PV} (ho : o.op = .pick x y z) (hx : σ.eval x = .val (.bool b)) (hb : b = true)
    (hq : σ.eval y = q) : QStep P o σ q := q_pick ho hx (by rw [hb]; exact hq)
theorem q_pick_f {P : Program} {o : Oper} {σ : AS} {x y z : Operand} {b : Bool} {q : PV} (ho : o.op = .pick x y z) (hx : σ.eval x = .val (.bool b)) (hb : b = false)
    (hq : σ.eval z = q) : QStep P o σ q := q_pick ho hx (by rw [hb]; exact hq)

theorem not_t {b : Bool} (h : b = true) : (!b) = false := by rw [h]; rfl
theorem not_f {b : Bool} (h : b = false) : (!b) = true := by rw [h]; rfl

theorem wrap_in (n : Int) (h : -9223372036854775808 ≤ n ∧ n ≤ 9223372036854775807) : IntKind.i64.wrap n = n := by
  have e : IntKind.i64.wrap n = if (true && decide (n % 18446744073709551616 ≥ 9223372036854775808)) = true then n % 18446744073709551616 - 18446744073709551616 else n % 18446744073709551616 := rfl
  rw [e]
  by_cases hc : n % 18446744073709551616 ≥ 9223372036854775808
  · rw [if_pos (by simp [hc])]; omega
  · rw [if_neg (by simp [hc])]; omega

theorem add64 {a b : Int} (h : -9223372036854775808 ≤ a + b ∧ a + b ≤ 9223372036854775807) : binInt .add .i64 a b = some (.int .i64 (a + b)) := by simp only [binInt, wrap_in _ h]
theorem sub64 {a b : Int} (h : -9223372036854775808 ≤ a - b ∧ a - b ≤ 9223372036854775807) : binInt .sub .i64 a b = some (.int .i64 (a - b)) := by simp only [binInt, wrap_in _ h]
theorem mul64 {a b : Int} (h : -9223372036854775808 ≤ a * b ∧ a * b ≤ 9223372036854775807) : binInt .mul .i64 a b = some (.int .i64 (a * b)) := by simp only [binInt, wrap_in _ h]

/-- an invariant's own exit -/
theorem res_weak {P : Program} {fn : Func} {σ : AS} {t : Nat} {len : Nat} {cs : List PV} {tl : Tail} (hr : fn.results = #[.tmp t]) (h : σ.get t = .tr len cs tl) : ResP P fn σ (.tr len cs .no) := by
  intro w c a g hs
  obtain ⟨v, h1, h2⟩ := res_one (P := P) hr (q := .tr len cs tl) h w c a g hs
  refine ⟨v, h1, ?_⟩
  simp only [VR] at h2 ⊢
  rcases h2 with ⟨h3, h4, h5, _⟩ | ⟨ad, cap, h3, h4, h5, _, h6⟩
  · exact .inl ⟨h3, h4, h5, rfl⟩
  · exact .inr ⟨ad, cap, h3, h4, h5, trivial, h6⟩

end Go.Ab
