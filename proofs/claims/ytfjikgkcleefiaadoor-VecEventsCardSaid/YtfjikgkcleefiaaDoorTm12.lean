/- The typed machine, part 12: closed calls are run. -/
import Derived.Test.YtfjikgkcleefiaaDoorTm11
set_option linter.unusedSimpArgs false
set_option linter.unusedVariables false
namespace Go.Tm
open Go.Ab

mutual
/-- nothing of one's own memory in it -/
def TV.pureB : TV → Bool
  | .v u _ => u.solid
  | .ref u _ => u.solid
  | .fsl u _ => u.solid
  | .agg ts => TV.puresB ts
  | .tup ts => TV.puresB ts
  | .fn _ caps => TV.puresB caps
  | .ifc _ x => x.pureB
  | .ptr _ _ _ => false
  | .os _ _ _ _ _ _ => false
  | _ => true
def TV.puresB : List TV → Bool
  | [] => true
  | t :: ts => t.pureB && TV.puresB ts
end

theorem pures_rowU {u : U} {l : List u.T} (h : ∀ x, x ∈ l → wfU u x) : Pures (rowU u l) := by
  refine Pures_iff.2 fun p hp => ?_
  simp only [rowU, List.mem_flatMap] at hp
  obtain ⟨y, hy, hp⟩ := hp
  exact Pures_iff.1 (pure_cellU u y (h y hy)) p hp

theorem pures_cellsOf {p : PV} (h : Ab.Pure p) : Pures (cellsOf p) := by
  cases p <;> first | (simp only [cellsOf, Pures]; exact ⟨h, trivial⟩) | skip
  simpa only [cellsOf, Ab.Pure] using h

theorem Pures_append {a b : List PV} (h : Pures a) (g : Pures b) : Pures (a ++ b) := Pures_iff.2 fun p hp => (List.mem_append.1 hp).elim (Pures_iff.1 h p) (Pures_iff.1 g p)

mutual
theorem pureB_spec : ∀ {t : TV}, t.wf → t.pureB = true → Ab.Pure t.pv
  | .v u x, hw, _ => by simp only [TV.wf] at hw; simp only [TV.pv]; exact pure_pvU u x hw
  | .ref u x, hw, _ => by simp only [TV.wf] at hw; simp only [TV.pv, Ab.Pure]; exact pure_cellU u x hw
  | .fsl u l, hw, _ => by simp only [TV.wf] at hw; simp only [TV.pv, Ab.Pure]; exact ⟨rfl, pures_rowU hw⟩
  | .agg ts, hw, h => by
    simp only [TV.wf] at hw
    simp only [TV.pureB] at h
    simp only [TV.pv, Ab.Pure]
    exact puresB_cells hw.2.1 h
  | .tup ts, hw, h => by
    simp only [TV.wf] at hw
    simp only [TV.pureB] at h
    simp only [TV.pv, Ab.Pure]
    exact puresB_pvs hw h
  | .fn f caps, hw, h => by
    simp only [TV.wf] at hw
    simp only [TV.pureB] at h
    simp only [TV.pv, Ab.Pure]
    exact puresB_pvs hw h
  | .ifc t x, hw, h => by
    simp only [TV.wf] at hw
    simp only [TV.pureB] at h
    simp only [TV.pv, Ab.Pure]
    exact pureB_spec hw h
  | .nil, _, _ => by simp only [TV.pv, Ab.Pure]; exact ⟨rfl, trivial⟩
  | .nilp, _, _ | .nilf, _, _ | .nili, _, _ | .nilm, _, _ | .dead, _, _ => by simp only [TV.pv, Ab.Pure]
  | .ptr _ _ _, _, h | .os _ _ _ _ _ _, _, h => by simp [TV.pureB] at h
theorem puresB_pvs : ∀ {ts : List TV}, TV.wfs ts → TV.puresB ts = true → Pures (TV.pvs ts)
  | [], _, _ => by simp only [TV.pvs, Pures]
  | t :: ts, hw, h => by
    simp only [TV.wfs] at hw
    simp only [TV.puresB, Bool.and_eq_true] at h
    simp only [TV.pvs, Pures]
    exact ⟨pureB_spec hw.1 h.1, puresB_pvs hw.2 h.2⟩
theorem puresB_cells : ∀ {ts : List TV}, TV.wfs ts → TV.puresB ts = true → Pures (TV.cellsL ts)
  | [], _, _ => by simp only [TV.cellsL, Pures]
  | t :: ts, hw, h => by
    simp only [TV.wfs] at hw
    simp only [TV.puresB, Bool.and_eq_true] at h
    simp only [TV.cellsL]
    exact Pures_append (pures_cellsOf (pureB_spec hw.1 h.1)) (puresB_cells hw.2 h.2)
end

/-- what a function's code comes to, run -/
def runK (P : Program) (E : List Ent) (n : Nat) (f : FuncId) (args : List TV) : Option TV :=
  match P.funcs[f]? with
  | some fn => match fn.body with
    | some c => bif TV.puresB args && callable P f then evalK P E c (.run n) ⟨args.length + (fn.ntmps - args.length), argSlotsT args 0, []⟩ (fun e σ => match e with
        | .normal | .ret => resK P fn σ fun t => bif t.pureB then some t else none
        | _ => none) else none
    | none => none
  | none => none

/-- an entry that runs a function's code -/
def entR (P : Program) (E : List Ent) (n : Nat) (f : FuncId) : Ent where
  f := f
  ok := fun _ => true
  run := fun args k => (runK P E n f args).bind k

theorem run_called {P : Program} {E : List Ent} (hE : EnvOK P E) {n : Nat} {f : FuncId} {args : List TV} {t : TV} (hw : ∀ a, a ∈ args → a.wf) (hr : runK P E n f args = some t) : Called P f (args.map TV.pv) t (args.map TV.pv) := by
  unfold runK at hr
  split at hr
  · rename_i fn hfn
    split at hr
    · rename_i c hbody
      cases hc : TV.puresB args && callable P f with
      | false => rw [hc] at hr; cases hr
      | true =>
        rw [hc] at hr
        simp only [cond_true] at hr
        simp only [Bool.and_eq_true] at hc
        have hwf0 : TS.wf ⟨args.length + (fn.ntmps - args.length), argSlotsT args 0, []⟩ := ⟨fun z hz => hw _ (argSlots_mem hz), fun o ho => by cases ho⟩
        have post : ∀ e σ', σ'.wf → (match e, σ' with | Exit.normal, σ' | Exit.ret, σ' => resK P fn σ' fun t => bif t.pureB then some t else none | _, _ => none) = some t →
            (e = .normal ∨ e = .ret) ∧ t.wf ∧ Ab.Pure t.pv ∧ ResP P fn σ'.flat t.pv := by
          intro e σ' hwσ he
          have : (e = .normal ∨ e = .ret) ∧ (resK P fn σ' fun t => bif t.pureB then some t else none) = some t := by
            cases e <;> first | (cases he; done) | exact ⟨.inl rfl, he⟩ | exact ⟨.inr rfl, he⟩
          obtain ⟨h5, h6⟩ := this
          obtain ⟨q, q1, q2, q3⟩ := res_spec hwσ h6
          cases hp : q.pureB with
          | false => rw [hp] at q1; cases q1
          | true => rw [hp] at q1; cases q1; exact ⟨h5, q2, pureB_spec q2 hp, q3⟩
        obtain ⟨e0, σ0, hw0, he0⟩ := eval_wf' hE c (.run n) (p := 0) (hok_run P 0 n c) hwf0 hr
        obtain ⟨_, hgw, hgp, _⟩ := post e0 σ0 hw0 (by revert he0; cases e0 <;> exact id)
        refine ⟨hgw, hgp, ?_, CLe.refl _, hc.2, calls_of_taw hfn hbody hw rfl ?_⟩
        · rw [← pvs_map]; exact puresB_pvs (wfs_iff.2 hw) hc.1
        · intro c0 a w Q' hrel hws hK
          refine eval_spec hE c (.run n) (p := 0) (hok_run P 0 n c) hr c0 a w Q' hrel hws fun e c' a' w' σ' he hw' hr' hx hd => ?_
          obtain ⟨p1, _, _, p2⟩ := post e σ' hw' (by revert he; cases e <;> exact id)
          exact hK e c' a' w' σ' ⟨p1, _, PLe.refl _, p2⟩ hw' hr' hx hd
    · cases hr
  · cases hr

theorem entR_ok {P : Program} {E : List Ent} (hE : EnvOK P E) (n : Nat) (f : FuncId) : EntOK P (entR P E n f) := by
  intro R args k r hw hr
  simp only [entR] at hr ⊢
  rw [Option.bind_eq_some_iff] at hr
  obtain ⟨t, h1, h2⟩ := hr
  exact ⟨t, _, h2, run_called hE hw h1⟩

/-- all of some functions, run to a depth -/
def runs (P : Program) (n : Nat) (fs : List FuncId) : Nat → List Ent
  | 0 => []
  | d + 1 => fs.map fun f => entR P (runs P n fs d) n f

theorem runs_ok (P : Program) (n : Nat) (fs : List FuncId) : ∀ d, EnvOK P (runs P n fs d)
  | 0 => env_nil P
  | d + 1 => fun e he => by
    simp only [runs, List.mem_map] at he
    obtain ⟨f, _, rfl⟩ := he
    exact entR_ok (runs_ok P n fs d) n f

/-- A closed call, run. -/
theorem closed_ok {P : Program} {n d : Nat} {fs : List FuncId} {f : FuncId} {u : U} {y : u.T} (h : runK P (runs P n fs d) n f [] = some (.v u y)) : EntOK P (entD f [] (.one u) fun _ => some y) := by
  intro R args k r hw hr
  simp only [entD] at hr ⊢
  cases args with
  | cons a as => simp [sealT] at hr
  | nil =>
    simp only [sealT, Option.bind_some] at hr
    exact ⟨.v u y, [], hr, run_called (runs_ok P n fs d) (fun a ha => by cases ha) h⟩

end Go.Tm
