/- An abstract calculus over the model's weakest preconditions, part 13: a law's call: its arguments read as plain data, and it leaves them as they were. -/
import Derived.Test.YtfjikgkcleefiaaDoorAb12
import Derived.Carry
import Derived.WideShapes
import Derived.OpenShut
namespace Go.Ab
open Go.RowKit (Below)
open Go.ChangeShapes Go.WideShapes

/-- what data of a type look like -/
def Fits {H : Type} (P : Program) : Nat → TypeId → DataW H → Prop
  | 0, _, _ => False
  | n + 1, t, d =>
    match P.underlying t with
    | some .bool => ∃ b, d = .lit (.bool b)
    | some (.int k) => ∃ x, d = .lit (.int k x) ∧ (Lit.int k x).wf = true
    | some .string => ∃ l, d = .lit (.string l) ∧ l.length ≤ maxLen
    | some (.slice e) => d = .nil ∨ ∃ es sp, d = .slice es sp ∧ ∀ x, x ∈ es → Fits P n e x
    | some (.array k e) => ∃ xs, d = .agg xs ∧ xs.length = k ∧ ∀ x, x ∈ xs → Fits P n e x
    | some (.struct fs) => ∃ xs, d = .agg xs ∧ xs.length = fs.size ∧ ∀ (i : Nat) f x, fs[i]? = some f → xs[i]? = some x → Fits P n f.type x
    | _ => False

theorem trod_fits {H : Type} {enc : TypeId × Value → H} {P : Program} {w : World} {spare : Nat → Bool} {held : Bool} :
    ∀ (fuel n : Nat) (t : TypeId) (cs : List Value) (d : DataW H) (ps : List MemPlace), plainTy P n t = true → DataW.trod enc P w 0 spare held fuel t cs = some (d, ps) → Fits P n t d := by
  intro fuel
  induction fuel with
  | zero => intro n t cs d ps _ h; simp [DataW.trod] at h
  | succ fuel ih =>
    intro n t cs d ps hp h
    cases n with
    | zero => simp [plainTy] at hp
    | succ n =>
      simp only [plainTy] at hp
      simp only [Fits]
      cases hu : P.underlying t with
      | none => rw [hu] at hp; cases hp
      | some u =>
        rw [hu] at hp
        cases u <;> simp only [Bool.false_eq_true] at hp ⊢
        · cases cs with
          | nil => simp [DataW.trod, hu] at h
          | cons v r => cases r <;> cases v <;> simp [DataW.trod, hu] at h; exact ⟨_, h.1.symm⟩
        · cases cs with
          | nil => simp [DataW.trod, hu] at h
          | cons v r =>
            cases r <;> cases v <;> simp [DataW.trod, hu] at h ⊢
            obtain ⟨⟨h1, h0⟩, h2, _⟩ := h; exact ⟨_, h2.symm, h0⟩
        · cases cs with
          | nil => simp [DataW.trod, hu] at h
          | cons v r => cases r <;> cases v <;> simp [DataW.trod, hu] at h ⊢; exact ⟨_, h.2.1.symm, by simpa using h.1⟩
        · rename_i e
          cases cs with
          | nil => simp [DataW.trod, hu] at h
          | cons v r =>
            cases r with
            | cons v2 r2 => cases v <;> simp [DataW.trod, hu] at h
            | nil =>
              cases v <;> try (simp [DataW.trod, hu] at h; done)
              rename_i a len cap
              cases a with
              | none =>
                cases len <;> cases cap <;> simp [DataW.trod, hu] at h
                exact .inl h.1.symm
              | some a =>
                simp only [DataW.trod, hu] at h
                split at h <;> first | (cases h; done) | skip
                cases hm1 : (List.range len).mapM (fun i => (w.cells? 0 (a.add (i * P.cellsOf e)) (P.cellsOf e)).bind (DataW.trod enc P w 0 spare held fuel e)) with
                | none => rw [hm1] at h; cases h
                | some elems =>
                  rw [hm1] at h
                  simp only [Option.bind_some] at h
                  rw [Option.map_eq_some_iff] at h
                  obtain ⟨rest, _, h2⟩ := h
                  cases h2
                  refine .inr ⟨_, _, rfl, fun x hx => ?_⟩
                  obtain ⟨hlen, hat⟩ := mapM_opt hm1
                  rw [List.mem_map] at hx
                  obtain ⟨y, hy, rfl⟩ := hx
                  obtain ⟨i, hi⟩ := List.mem_iff_getElem?.1 hy
                  have hil : i < len := by have := (List.getElem?_eq_some_iff.1 hi).1; simpa [hlen] using this
                  obtain ⟨z, h3, h4⟩ := hat i i (by simp [hil])
                  rw [hi] at h3; cases h3
                  rw [Option.bind_eq_some_iff] at h4
                  obtain ⟨ci, _, h5⟩ := h4
                  exact ih n e ci y.1 y.2 hp h5
        · rename_i k e
          simp only [Bool.and_eq_true, beq_iff_eq] at hp
          have h' : (if cs.length = P.cellsOf t then ((List.range k).mapM fun i => DataW.trod enc P w 0 spare held fuel e ((cs.drop (i * P.cellsOf e)).take (P.cellsOf e))).map fun xs => (.agg (xs.map (·.1)), xs.flatMap (·.2)) else none) = some (d, ps) := by
            simpa only [DataW.trod, hu] using h
          split at h' <;> first | (cases h'; done) | skip
          rw [Option.map_eq_some_iff] at h'
          obtain ⟨xs, h1, h2⟩ := h'
          cases h2
          obtain ⟨hlen, hat⟩ := mapM_opt h1
          refine ⟨_, rfl, by simpa using hlen, fun x hx => ?_⟩
          rw [List.mem_map] at hx
          obtain ⟨y, hy, rfl⟩ := hx
          obtain ⟨i, hi⟩ := List.mem_iff_getElem?.1 hy
          have hil : i < k := by have := (List.getElem?_eq_some_iff.1 hi).1; simpa [hlen] using this
          obtain ⟨z, h3, h4⟩ := hat i i (by simp [hil])
          rw [hi] at h3; cases h3
          exact ih n e _ y.1 y.2 hp.1 h4
        · rename_i fs
          simp only [Bool.and_eq_true] at hp
          have h' : (if cs.length = P.cellsOf t then (fs.toList.mapM fun f => DataW.trod enc P w 0 spare held fuel f.type ((cs.drop f.offset).take (P.cellsOf f.type))).map fun xs => (.agg (xs.map (·.1)), xs.flatMap (·.2)) else none) = some (d, ps) := by
            simpa only [DataW.trod, hu] using h
          split at h' <;> first | (cases h'; done) | skip
          rw [Option.map_eq_some_iff] at h'
          obtain ⟨xs, h1, h2⟩ := h'
          cases h2
          obtain ⟨hlen, hat⟩ := mapM_opt h1
          refine ⟨_, rfl, by simpa using hlen, fun i f x hf hx => ?_⟩
          rw [List.getElem?_map] at hx
          cases hy : xs[i]? with
          | none => rw [hy] at hx; cases hx
          | some y =>
            rw [hy] at hx; simp at hx; subst hx
            obtain ⟨z, h3, h4⟩ := hat i f (by simpa using hf)
            rw [hy] at h3; cases h3
            exact ih n f.type _ y.1 y.2 (List.all_eq_true.1 hp.1 f (by simpa using Array.mem_of_getElem? hf)) h4

/-- an argument's abstract value -/
def argPV {H : Type} (P : Program) (t : TypeId) (d : DataW H) : PV := bif tyAgg P t == some true then .agg (cellsD d) else (cellsD d).headD .dead

def cx0 : Cx := { m := [], T := [], ok := fun _ _ => True }

theorem arg_rel {H : Type} {enc : TypeId × Value → H} {P : Program} {w : World} {n : Nat} {t : TypeId} {v : Value} {d : DataW H} {ps : List MemPlace} {spare : Nat → Bool} {held : Bool} {base : Nat} (hp : plainTy P n t = true)
    (hv : Value.okWide P w .any base t v) (h : DataW.Trod enc P w 0 spare held t v d ps) : VR w cx0 (argPV P t d) v := by
  obtain ⟨fuel, hf⟩ := h
  obtain ⟨⟨h1, h2, h3⟩, _⟩ := trod_rd (w := w) (c := cx0) rfl rfl (fun _ _ => trivial) fuel n t _ d ps hp hf
  have leafy : tyAgg P t = some false → v.cells = #[v] → VR w cx0 (argPV P t d) v := by
    intro ha hc
    rw [hc] at h1 h3
    unfold argPV
    rw [ha]
    cases hcd : cellsD d with
    | nil => rw [hcd] at h1; simp at h1
    | cons p r =>
      rw [hcd] at h3
      simp only [VRs] at h3
      obtain ⟨⟨u, hu, hr⟩, _⟩ := h3
      simp at hu; subst hu
      exact hr
  cases n with
  | zero => simp [plainTy] at hp
  | succ n =>
    simp only [plainTy] at hp
    cases hu : P.underlying t with
    | none => rw [hu] at hp; cases hp
    | some u =>
      rw [hu] at hp
      cases u <;> simp only [Bool.false_eq_true] at hp
      · obtain ⟨b, rfl⟩ := okWide_bool hu hv
        exact leafy (by simp [tyAgg, hu]) rfl
      · obtain ⟨x, rfl⟩ := okWide_int hu hv
        exact leafy (by simp [tyAgg, hu]) rfl
      · obtain ⟨x, rfl⟩ := okWide_string hu hv
        exact leafy (by simp [tyAgg, hu]) rfl
      · obtain ⟨a, l, c, rfl⟩ := okWide_slice hu hv
        exact leafy (by simp [tyAgg, hu]) rfl
      · have ha : tyAgg P t = some true := by simp [tyAgg, hu]
        simp only [Value.okWide, hu] at hv
        obtain ⟨cs, rfl, _⟩ := hv
        unfold argPV; rw [ha]
        simp only [BEq.rfl, cond_true, VR]
        exact ⟨cs, rfl, by simpa [Value.cells] using h1.symm, h2, by simpa [Value.cells] using h3⟩
      · have ha : tyAgg P t = some true := by simp [tyAgg, hu]
        simp only [Value.okWide, hu] at hv
        obtain ⟨cs, rfl, _⟩ := hv
        unfold argPV; rw [ha]
        simp only [BEq.rfl, cond_true, VR]
        exact ⟨cs, rfl, by simpa [Value.cells] using h1.symm, h2, by simpa [Value.cells] using h3⟩

theorem args_rel {H : Type} {enc : TypeId × Value → H} {P : Program} {w : World} {n : Nat} {spare : Nat → Bool} {held : Bool} {base : Nat} : ∀ {ts : List TypeId} {vs : List Value} {ds : List (DataW H)} {ps : List MemPlace},
    DataW.TrodAll enc P w 0 spare held ts vs ds ps → (∀ t, t ∈ ts → plainTy P n t = true) → (∀ (j : Nat) t v, ts[j]? = some t → vs[j]? = some v → Value.okWide P w .any base t v) →
    vs.length = (List.zipWith (argPV P) ts ds).length ∧ VRs w cx0 (List.zipWith (argPV P) ts ds) (fun i => vs[i]?)
  | [], vs, ds, ps, h, _, _ => by
    cases vs <;> cases ds <;> simp [DataW.TrodAll] at h
    exact ⟨rfl, by simp only [List.zipWith_nil_left, VRs]⟩
  | t :: ts, vs, ds, ps, h, hp, hv => by
    obtain ⟨v, vs', d, ds', p, q, rfl, rfl, rfl, h1, h2⟩ := trodAll_cons h
    obtain ⟨h3, h4⟩ := args_rel h2 (fun t ht => hp t (by simp [ht])) (fun j t v ht hv' => hv (j + 1) t v (by simpa using ht) (by simpa using hv'))
    refine ⟨by simp only [List.zipWith_cons_cons, List.length_cons, h3], ?_⟩
    simp only [List.zipWith_cons_cons, VRs]
    exact ⟨⟨v, rfl, arg_rel (hp t (by simp)) (hv 0 t v rfl rfl) h1⟩, by simpa using h4⟩

theorem args_fit {H : Type} {enc : TypeId × Value → H} {P : Program} {w : World} {n : Nat} {spare : Nat → Bool} {held : Bool} : ∀ {ts : List TypeId} {vs : List Value} {ds : List (DataW H)} {ps : List MemPlace},
    DataW.TrodAll enc P w 0 spare held ts vs ds ps → (∀ t, t ∈ ts → plainTy P n t = true) → ∀ (j : Nat) t d, ts[j]? = some t → ds[j]? = some d → Fits P n t d
  | [], vs, ds, ps, h, _, j, t, d, ht, _ => by simp at ht
  | t :: ts, vs, ds, ps, h, hp, j, t', d', ht, hd => by
    obtain ⟨v, vs', d, ds', p, q, rfl, rfl, rfl, h1, h2⟩ := trodAll_cons h
    cases j with
    | zero =>
      simp at ht hd; subst ht; subst hd
      obtain ⟨fuel, hf⟩ := h1
      exact trod_fits fuel n t _ d p (hp t (by simp)) hf
    | succ j => exact args_fit h2 (fun t ht => hp t (by simp [ht])) j t' d' (by simpa using ht) (by simpa using hd)

theorem cx0_good (w : World) : Good w cx0 [] (List.replicate 0 false) where
  len := rfl
  inj := fun i j k h => by simp [cx0] at h
  obj := fun b o h => by simp at h
  tl := rfl
  tal := fun i h => by simp at h
  tdead := fun i h => by simp at h
  tok := fun i k j h => by simp [cx0] at h
  tinj := fun i i' k j j' h => by simp [cx0] at h
  okn := fun _ _ _ => trivial
  okm := fun _ _ _ _ _ => trivial
  okt := fun _ _ _ _ _ => trivial

/-- A law, called with arguments that read as plain data: it answers true, and nothing that was there has turned. -/
theorem law_calls {H : Type} {enc : TypeId × Value → H} {P : Program} {f : FuncId} {W : World} {n : Nat} {spare : Nat → Bool} {held : Bool} {base : Nat} {ts : List TypeId} {args : Array Value} {ds : List (DataW H)}
    {ps : List MemPlace} (hA : DataW.TrodAll enc P W 0 spare held ts args.toList ds ps) (hp : ∀ t, t ∈ ts → plainTy P n t = true)
    (hv : ∀ (j : Nat) t v, ts[j]? = some t → args[j]? = some v → Value.okWide P W .any base t v)
    (hc : ACalls P f (List.zipWith (argPV P) ts ds) [] 0 (fun p _ _ => p = .val (.bool true))) :
    Calls P f args W fun e W' => e = .returned (.bool true) ∧ Below W.heap.size W W' := by
  obtain ⟨h1, h2⟩ := args_rel hA hp (fun j t v ht hv' => hv j t v ht (by simpa using hv'))
  refine (hc W cx0 args (cx0_good W) (by simpa using h1) (by simpa using h2)).mono ?_
  rintro e W' ⟨v, p, H', ts', c', rfl, rfl, _, hvr, x⟩
  rw [VR_val_iff] at hvr
  refine ⟨by rw [hvr.1], x.os, x.tape, x.output, x.size, fun k hk => x.blocks k hk (by simp [cx0]) (fun i j h => by simp [cx0] at h)⟩

/-- The arguments read again. -/
theorem args_again {H : Type} {enc : TypeId × Value → H} {P : Program} {W W' : World} (hl : laidOutB P = true) (bel : Below W.heap.size W W') : ∀ {ts : List TypeId} {vs : List Value} {ds : List (DataW H)} {ps : List MemPlace},
    DataW.TrodAll enc P W 0 (fun _ => true) true ts vs ds ps → (∀ t, t ∈ ts → P.readableRec t = true ∧ t < P.types.size) →
    DataW.TrodAll enc P W' 0 (fun b => decide (b < W.heap.size)) true ts vs ds ps
  | [], vs, ds, ps, h, _ => by
    cases vs <;> cases ds <;> simp [DataW.TrodAll] at h
    subst h; rfl
  | t :: ts, vs, ds, ps, h, hp => by
    obtain ⟨v, vs', d, ds', p, q, rfl, rfl, rfl, h1, h2⟩ := trodAll_cons h
    have hlt : ∀ x ∈ p, x.block < W.heap.size := by obtain ⟨m, hm⟩ := h1; exact DataW.trod_lt m _ _ _ hm
    exact trodAll_cons_mk (Below.trod hl (hp t (by simp)).1 (hp t (by simp)).2 h1 bel hlt) (args_again hl bel h2 (fun t ht => hp t (by simp [ht])))

end Go.Ab
