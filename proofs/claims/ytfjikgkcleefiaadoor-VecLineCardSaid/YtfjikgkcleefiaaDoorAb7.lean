/- An abstract calculus over the model's weakest preconditions, part 7: functions, their contracts, and calls that leave the caller's memory alone. -/
import Derived.Test.YtfjikgkcleefiaaDoorAb6
namespace Go.Ab

/-- A contract: called with values that stand for 'args', in whatever world that bears H, the function returns, and what it hands back meets R. -/
def ACalls (P : Program) (f : FuncId) (args : List PV) (H : List AObj) (k : Nat) (R : PV → List AObj → List Bool → Prop) : Prop :=
  ∀ w c (vs : Array Value), Good w c H (List.replicate k false) → vs.size = args.length → VRs w c args (fun i => vs[i]?) →
    Calls P f vs w fun e w' => ∃ v p H' ts c', e = .returned v ∧ R p H' ts ∧ Good w' c' H' ts ∧ VR w' c' p v ∧ Ext w c w' c'

theorem ACalls.mono {P : Program} {f : FuncId} {args : List PV} {H : List AObj} {k : Nat} {R R' : PV → List AObj → List Bool → Prop} (h : ACalls P f args H k R)
    (hr : ∀ p H' ts, R p H' ts → R' p H' ts) : ACalls P f args H k R' :=
  fun w c vs g hs hv => (h w c vs g hs hv).mono fun _ _ ⟨v, p, H', ts, c', h1, h2, h3⟩ => ⟨v, p, H', ts, c', h1, hr _ _ _ h2, h3⟩

/-! ### what a function hands back -/
def ResV (P : Program) (σ : AS) : ResultVar → PV → Prop
  | .tmp t, q => σ.get t = q
  | .cell a ty, q => ∃ p, σ.get a = p ∧ Loads P σ.H ty p q

def ResP (P : Program) (fn : Func) (σ : AS) (p : PV) : Prop :=
  ∀ w c (a : Act), Good w c σ.H σ.ts → SlotsR w c σ a.tmps → ∃ v, (results fn a.tmps).run P w = .ok v w ∧ VR w c p v

def resOf (tmps : Array Value) : ResultVar → Sem Value
  | .tmp t => pure (tmps.getD t undef)
  | .cell a t => do loadVar t (← asAddr (tmps.getD a undef))

theorem results_eq (fn : Func) (tmps : Array Value) : results fn tmps = (do
    let vs ← fn.results.mapM (resOf tmps)
    pure (if h : vs.size = 1 then vs[0] else .tuple vs)) := by
  unfold results
  congr 2

theorem run_resV {P : Program} {σ : AS} {r : ResultVar} {q : PV} (h : ResV P σ r q) {w : World} {c : Cx} {a : Act} (g : Good w c σ.H σ.ts) (hs : SlotsR w c σ a.tmps) :
    ∃ v, (resOf a.tmps r).run P w = .ok v w ∧ VR w c q v := by
  cases r with
  | tmp t =>
    have := hs.eval (.tmp t)
    simp only [AS.eval] at this
    rw [show σ.get t = q from h] at this
    exact ⟨_, rfl, this⟩
  | cell x t =>
    obtain ⟨p, hp, hl⟩ := h
    have := hs.eval (.tmp x)
    simp only [AS.eval] at this
    rw [hp] at this
    obtain ⟨ad, u, h1, h2, h3⟩ := hl w c _ _ g this
    have h1' : a.tmps.getD x undef = .pointer (some ad) := h1
    refine ⟨u, ?_, h3⟩
    simp only [resOf, h1', asAddr, Sem.run_bind, Sem.run_pure, Result.andThen_ok, h2]

theorem res_one {P : Program} {fn : Func} {σ : AS} {r : ResultVar} {q : PV} (hr : fn.results = #[r]) (h : ResV P σ r q) : ResP P fn σ q := by
  intro w c a g hs
  obtain ⟨v, h1, h2⟩ := run_resV h g hs
  refine ⟨v, ?_, h2⟩
  rw [results_eq, hr, Array.mapM_eq_mapM_toList, Sem.run_bind, Sem.run_map]
  simp [h1]

theorem run_resVs {P : Program} {σ : AS} {w : World} {c : Cx} {a : Act} (g : Good w c σ.H σ.ts) (hs : SlotsR w c σ a.tmps) : ∀ {rs : List ResultVar} {qs : List PV},
    rs.length = qs.length → (∀ (i : Nat) r q, rs[i]? = some r → qs[i]? = some q → ResV P σ r q) →
    ∃ vs : List Value, (rs.mapM (resOf a.tmps)).run P w = .ok vs w ∧ vs.length = qs.length ∧ VRs w c qs (fun i => vs[i]?)
  | [], [], _, _ => ⟨[], rfl, rfl, trivial⟩
  | r :: rs, q :: qs, hl, h => by
    obtain ⟨v, h1, h2⟩ := run_resV (h 0 r q rfl rfl) g hs
    obtain ⟨vs, h3, h4, h5⟩ := run_resVs g hs (rs := rs) (qs := qs) (by simpa using hl) (fun i r q hr hq => h (i + 1) r q (by simpa using hr) (by simpa using hq))
    refine ⟨v :: vs, ?_, by simp [h4], ?_⟩
    · rw [List.mapM_cons, Sem.run_bind]
      rw [h1]
      simp only [Result.andThen_ok, Sem.run_bind, h3, Sem.run_pure]
    · simp only [VRs]
      exact ⟨⟨v, rfl, h2⟩, by simpa using h5⟩
  | [], _ :: _, hl, _ => by simp at hl
  | _ :: _, [], hl, _ => by simp at hl

theorem res_many {P : Program} {fn : Func} {σ : AS} {qs : List PV} (hl : fn.results.toList.length = qs.length) (hn : qs.length ≠ 1)
    (h : ∀ (i : Nat) r q, fn.results.toList[i]? = some r → qs[i]? = some q → ResV P σ r q) : ResP P fn σ (.tup qs) := by
  intro w c a g hs
  obtain ⟨vs, h1, h2, h3⟩ := run_resVs (P := P) g hs hl h
  refine ⟨.tuple vs.toArray, ?_, ?_⟩
  · rw [results_eq, Array.mapM_eq_mapM_toList, Sem.run_bind, Sem.run_map, h1]
    simp only [Result.andThen_ok]
    rw [dif_neg (by simp; omega)]
    rfl
  · simp only [VR]
    exact ⟨_, rfl, by simp [h2], by simpa using h3⟩

/-- how a body may end -/
def retPost (P : Program) (fn : Func) (R : PV → List AObj → List Bool → Prop) : Exit → AS → Prop
  | .normal, σ | .ret, σ => ∃ p, ResP P fn σ p ∧ R p σ.H σ.ts
  | _, _ => False

def argSlots : List PV → Nat → List (Nat × PV)
  | [], _ => []
  | p :: ps, i => (i, p) :: argSlots ps (i + 1)

theorem look_argSlots : ∀ (args : List PV) (i t : Nat) (p : PV), look (argSlots args i) t = some p → i ≤ t ∧ args[t - i]? = some p
  | [], _, _, _, h => by simp [argSlots, look] at h
  | q :: args, i, t, p, h => by
    simp only [argSlots, look] at h
    cases hb : Nat.beq i t with
    | true =>
      have := Nat.eq_of_beq_eq_true hb
      subst this
      rw [hb] at h
      simp at h
      subst h
      exact ⟨Nat.le_refl _, by simp⟩
    | false =>
      rw [hb] at h
      simp at h
      obtain ⟨h1, h2⟩ := look_argSlots args (i + 1) t p h
      refine ⟨by omega, ?_⟩
      have : t - i = (t - (i + 1)) + 1 := by omega
      rw [this]
      simpa using h2

theorem ACalls.of_body {P : Program} {f : FuncId} {fn : Func} {x : Code} {args : List PV} {H : List AObj} {k : Nat} {R : PV → List AObj → List Bool → Prop}
    (hf : P.funcs[f]? = some fn) (hb : fn.body = some x) {n : Nat} (hn : args.length + (fn.ntmps - args.length) = n)
    (h : AW P x ⟨n, argSlots args 0, H, List.replicate k false⟩ (retPost P fn R)) : ACalls P f args H k R := by
  intro w c vs g hsz hv
  refine calls_of_wp hf hb (h c _ w _ ⟨g, ?_⟩ ?_)
  · refine ⟨by simp [hsz]; omega, fun t p hl hlt => ?_⟩
    obtain ⟨_, h2⟩ := look_argSlots args 0 t p hl
    simp at h2
    obtain ⟨v, h3, h4⟩ := VRs_get hv h2
    have hlt' : t < vs.size := by rw [hsz]; exact (List.getElem?_eq_some_iff.1 h2).1
    exact ⟨v, by rw [Array.getElem?_append_left hlt']; exact h3, h4⟩
  · intro e c' a' w' σ' hQ hr' hx hd
    cases e with
    | normal =>
      obtain ⟨p, hres, hR⟩ := hQ
      obtain ⟨v, h1, h2⟩ := hres w' c' a' hr'.1 hr'.2
      exact ⟨hd, v, h1, v, p, σ'.H, σ'.ts, c', rfl, hR, hr'.1, h2, hx⟩
    | ret =>
      obtain ⟨p, hres, hR⟩ := hQ
      obtain ⟨v, h1, h2⟩ := hres w' c' a' hr'.1 hr'.2
      exact ⟨hd, v, h1, v, p, σ'.H, σ'.ts, c', rfl, hR, hr'.1, h2, hx⟩
    | exit id => exact hQ.elim
    | goto l => exact hQ.elim
    | panic ch => exact hQ.elim
    | outgrown => exact hQ.elim

/-! ### values without the caller's memory in them -/
mutual
def Pure : PV → Prop
  | .val _ => True
  | .ptr _ _ => False
  | .fz cs => Pures cs
  | .sl _ _ _ _ => False
  | .tr _ cs t => t.isTok = false ∧ Pures cs
  | .fn _ caps => Pures caps
  | .agg cs => Pures cs
  | .tup cs => Pures cs
  | .ifc _ p => Pure p
  | .dead => True
def Pures : List PV → Prop
  | [] => True
  | p :: ps => Pure p ∧ Pures ps
end

theorem Pures_iff : ∀ {ps : List PV}, Pures ps ↔ ∀ p, p ∈ ps → Pure p
  | [] => by simp [Pures]
  | p :: ps => by simp [Pures, Pures_iff (ps := ps)]

mutual
theorem VR.transfer {w : World} {c c' : Cx} (hf : ∀ a n, Foot w c a n → Foot w c' a n) : ∀ (p : PV) {v : Value}, Pure p → VR w c p v → VR w c' p v
  | .val _, _, _, h => by simp only [VR] at h ⊢; exact h
  | .ptr b off, _, hp, _ => by simp only [Pure] at hp
  | .fz cs, _, hp, h => by
    simp only [VR] at h ⊢
    simp only [Pure] at hp
    obtain ⟨a, h1, h2, hl, h3⟩ := h
    exact ⟨a, h1, hf _ _ h2, hl, VRs.transfer hf cs hp h3⟩
  | .sl b off len cap, _, hp, _ => by simp only [Pure] at hp
  | .tr len cs t, _, hp, h => by
    simp only [VR] at h ⊢
    simp only [Pure] at hp
    rcases h with h | ⟨a, cap, h1, hc, h2, h4, hl, h3⟩
    · exact .inl h
    · refine .inr ⟨a, cap, h1, hc, hf _ _ h2, ?_, hl, VRs.transfer hf cs hp.2 h3⟩
      cases t with
      | no => trivial
      | full => exact h4
      | tok i sz => cases hp.1
  | .fn f caps, _, hp, h => by
    simp only [VR] at h ⊢
    simp only [Pure] at hp
    obtain ⟨cv, h1, h2, h3⟩ := h
    exact ⟨cv, h1, h2, VRs.transfer hf caps hp h3⟩
  | .agg cs, _, hp, h => by
    simp only [VR] at h ⊢
    simp only [Pure] at hp
    obtain ⟨cv, h1, h2, hl, h3⟩ := h
    exact ⟨cv, h1, h2, hl, VRs.transfer hf cs hp h3⟩
  | .tup cs, _, hp, h => by
    simp only [VR] at h ⊢
    simp only [Pure] at hp
    obtain ⟨cv, h1, h2, h3⟩ := h
    exact ⟨cv, h1, h2, VRs.transfer hf cs hp h3⟩
  | .ifc t p, _, hp, h => by
    simp only [VR] at h ⊢
    simp only [Pure] at hp
    obtain ⟨v, h1, h2⟩ := h
    exact ⟨v, h1, VR.transfer hf p hp h2⟩
  | .dead, _, _, _ => by simp only [VR]
theorem VRs.transfer {w : World} {c c' : Cx} (hf : ∀ a n, Foot w c a n → Foot w c' a n) : ∀ (ps : List PV) {f : Nat → Option Value}, Pures ps → VRs w c ps f → VRs w c' ps f
  | [], _, _, _ => by simp only [VRs]
  | p :: ps, f, hp, h => by
    simp only [VRs] at h ⊢
    simp only [Pures] at hp
    obtain ⟨⟨v, h1, h2⟩, h3⟩ := h
    exact ⟨⟨v, h1, VR.transfer hf p hp.1 h2⟩, VRs.transfer hf ps hp.2 h3⟩
end

/-- the callee's view: nothing of the caller's memory is its own -/
def calleeCx (w : World) (c : Cx) (k : Nat) : Cx :=
  { m := [], T := List.replicate k none,
    ok := fun b e => b < w.heap.size → some b ∉ c.m ∧ (∀ i j : Nat, c.T[i]? = some (some (b, j)) → e ≤ j) ∧ c.ok b e }

theorem callee_good {w : World} {c : Cx} {H : List AObj} {ts : List Bool} (g : Good w c H ts) (k : Nat) : Good w (calleeCx w c k) [] (List.replicate k false) where
  len := rfl
  inj := fun i j k h => by simp [calleeCx] at h
  obj := fun b o h => by simp at h
  tl := by simp [calleeCx]
  tal := fun i h => by
    rw [List.getElem?_replicate] at h
    split at h <;> simp at h
  tdead := fun i h => by
    rw [List.getElem?_replicate] at h
    simp only [calleeCx]
    rw [List.getElem?_replicate]
    split at h
    · rename_i hi; rw [if_pos hi]
    · cases h
  tok := fun i k' j h => by
    simp only [calleeCx] at h
    rw [List.getElem?_replicate] at h
    split at h <;> simp at h
  tinj := fun i i' k' j j' h => by
    simp only [calleeCx] at h
    rw [List.getElem?_replicate] at h
    split at h <;> simp at h
  okn := fun k' e h hlt => absurd h (Nat.not_le.2 hlt)
  okm := fun k' e e' h hle hlt => by
    obtain ⟨h1, h2, h3⟩ := h hlt
    exact ⟨h1, fun i j h => Nat.le_trans hle (h2 i j h), g.okm _ _ _ h3 hle⟩
  okt := fun i k' j h => by
    simp only [calleeCx] at h
    rw [List.getElem?_replicate] at h
    split at h <;> simp at h

theorem callee_foot {w : World} {c : Cx} (k : Nat) (a : Addr) (n : Nat) (h : Foot w c a n) : Foot w (calleeCx w c k) a n := by
  rcases h with h | ⟨h1, h2, h3, h4, h5⟩
  · exact .inl h
  · refine .inr ⟨h1, h2, by simp [calleeCx], fun i j h => ?_, fun _ => ⟨h3, h4, h5⟩⟩
    simp only [calleeCx] at h
    rw [List.getElem?_replicate] at h
    split at h <;> simp at h

theorem caller_foot {w w' : World} {c c' : Cx} {H : List AObj} {ts : List Bool} {k : Nat} (g : Good w c H ts) (x : Ext w (calleeCx w c k) w' c') (a : Addr) (n : Nat) (h : Foot w' c' a n) :
    Foot w' c a n := by
  rcases h with h | ⟨h1, h2, h3, h4, h5⟩
  · exact .inl h
  · rw [x.ok] at h5
    by_cases hlt : a.block < w.heap.size
    · obtain ⟨h6, h7, h8⟩ := h5 hlt
      exact .inr ⟨h1, h2, h6, h7, h8⟩
    · exact .inr ⟨h1, h2, fun h => hlt (g.mlt h), fun i j h => absurd (g.tlt h) hlt, g.okn _ _ (Nat.le_of_not_lt hlt)⟩

theorem caller_quiet {w w' : World} {c c' : Cx} {H : List AObj} {ts : List Bool} {k : Nat} (g : Good w c H ts) (x : Ext w (calleeCx w c k) w' c') : Good w' c H ts ∧ Ext w c w' c :=
  quiet_grow g x.os x.tape x.output x.size (fun b hb => x.blocks b hb (by simp [calleeCx]) (fun i j h => by
    simp only [calleeCx] at h
    rw [List.getElem?_replicate] at h
    split at h <;> simp at h))

def callable (P : Program) (f : FuncId) : Bool :=
  match P.funcs[f]? with
  | some fn => fn.body.isSome && fn.name != "runtime.NumGoroutine"
  | none => false

theorem run_callFunc {P : Program} {f : FuncId} (h : callable P f = true) (args : Array Value) (w : World) : (callFunc f args).run P w = .ok (.enter f args) w := by
  unfold callable at h
  unfold callFunc
  cases hf : P.funcs[f]? with
  | none => rw [hf] at h; cases h
  | some fn =>
    rw [hf] at h
    simp at h
    simp only [Sem.run_bind, run_program, Result.andThen_ok, hf]
    have hne : (fn.name == "runtime.NumGoroutine") = false := by simpa using h.2
    have hbn : fn.body.isNone = false := by cases hb : fn.body <;> simp_all
    simp only [hne, hbn, Bool.false_eq_true, if_false]
    rfl

theorem run_call {P : Program} {o : Oper} {f : FuncId} {xs : Array Operand} {ats : Array TypeId} {ρ : Operand → Value} (ho : o.op = .call { callee := .value (.func f), args := xs, argTypes := ats })
    (hc : callable P f = true) (hρ : ρ (.func f) = .func (.func f) #[] #[]) (w : World) : (execOp ρ o).run P w = .ok (.enter f (xs.map ρ)) w := by
  simp only [execOp, ho, resolve, hρ, Deferred.ofValue, Sem.run_bind, Sem.run_pure, Result.andThen_ok, invoke]
  have := run_callFunc hc (xs.map ρ) w
  simpa using this

/-- A call of a function that neither reads nor writes the abstract heap: by its contract. -/
theorem q_call {P : Program} {o : Oper} {σ : AS} {f : FuncId} {xs : Array Operand} {ats : Array TypeId} {ps : List PV} {r : PV}
    (ho : o.op = .call { callee := .value (.func f), args := xs, argTypes := ats }) (hc : callable P f = true) (hps : xs.toList.map σ.eval = ps) (hp : Pures ps) (hr : Pure r)
    (h : ∀ k, ACalls P f ps [] k (fun p _ _ => p = r)) : QStep P o σ r := by
  intro c a w K Q hrel hK
  unfold Oper.wp
  rw [run_call ho hc rfl]
  show Calls P f (xs.map a.eval) w _
  have hargs : VRs w (calleeCx w c σ.ts.length) ps (fun i => (xs.map a.eval)[i]?) := by
    refine VRs.transfer (callee_foot _) ps hp (VRs_mk fun i p hi => ?_)
    rw [← hps, List.getElem?_map] at hi
    cases hx : xs.toList[i]? with
    | none => rw [hx] at hi; cases hi
    | some x =>
      rw [hx] at hi; simp at hi; subst hi
      have hx' : xs[i]? = some x := by simpa using hx
      exact ⟨a.eval x, by simp [hx'], hrel.2.eval x⟩
  refine (h σ.ts.length w (calleeCx w c σ.ts.length) (xs.map a.eval) (callee_good hrel.1 _) (by rw [← hps]; simp) hargs).mono ?_
  rintro e w' ⟨v, p, H', ts, c', rfl, rfl, hg, hv, hx⟩
  obtain ⟨g', x'⟩ := caller_quiet hrel.1 hx
  exact hK v w' (VR.transfer (caller_foot hrel.1 hx) _ hr hv) g' x'

end Go.Ab
