import Derived.Test.YtfbdjicfkcklfaaSwAbtoD
set_option maxRecDepth 100000
set_option linter.unusedSimpArgs false
set_option linter.unusedVariables false
namespace Go.Proofs.Ytfbdjicfkcklfaa
open Go.Tm Go.Ab
theorem z1vy (l : List T3) (x : T0) (hl : l.length ≤ 2000) : Ok (zv2 l x) fun _ => True := by
 unfold zv2
 refine z0a (z1o l.length (fun i _ => (l, (i : Int), x)) (fun _ (_ : Unit) => True) () rfl trivial (fun _ _ => ?_) fun i _ hi _ => ?_)
 · unfold z8i zky
   dsimp only
   repeat' first
     | (dsimp only [Int.toNat_natCast, List.length_nil])
     | ((with_reducible refine z0z ?_ ?_) <;> intro _ <;> try (exfalso; omega))
     | with_reducible first | refine z0g ?_ | refine z0f ?_ | refine z0c ?_ | refine z0e ?_ | refine z0b ?_ | refine z0h ?_ | refine qs ?_ | refine qb ?_ | refine z0j ?_ | refine qw ?_ | refine z0n ?_ | refine z0k ?_ | refine qi ?_ | refine qg (h := ?_) | refine qx (h := ?_) | refine qy (h := ?_) | refine qa ?_ | refine qc ?_ | refine ql ?_ | refine qp ?_ | refine z0a ?_ | rfl
     | (with_reducible first | refine ok_lt ?_ ?_ | refine ok_le ?_ ?_ | refine z0i ?_ ?_ | refine z0l ?_ ?_ | refine z0m ?_ ?_ | refine qu ?_ ?_ | refine ok_if ?_ ?_) <;> intro _ <;> try (exfalso; omega)
 · unfold z8i zky
   dsimp only
   repeat' first
     | (dsimp only [Int.toNat_natCast, List.length_nil])
     | ((with_reducible refine z0z ?_ ?_) <;> intro _ <;> try (exfalso; omega))
     | with_reducible first | refine z0g ?_ | refine z0f ?_ | refine z0c ?_ | refine z0e ?_ | refine z0b ?_ | refine z0h ?_ | refine qs ?_ | refine qb ?_ | refine z0j ?_ | refine qw ?_ | refine z0n ?_ | refine z0k ?_ | refine qi ?_ | refine qg (h := ?_) | refine qx (h := ?_) | refine qy (h := ?_) | refine qa ?_ | refine qc ?_ | refine ql ?_ | refine qp ?_ | refine z0a ?_ | rfl
     | (with_reducible first | refine ok_lt ?_ ?_ | refine ok_le ?_ ?_ | refine z0i ?_ ?_ | refine z0l ?_ ?_ | refine z0m ?_ ?_ | refine qu ?_ ?_ | refine ok_if ?_ ?_) <;> intro _ <;> try (exfalso; omega)
   exact ⟨(), by rw [z0r (by omega)]; rfl, trivial⟩
theorem z1x8 (l : List T3) (x : T0) (hl : l.length ≤ 2000) : Ok (zs2 l x) fun r => r.2 = 0 → (x.1 = 0 ∧ x.2 = 0) ∨ ∃ v, v ∈ l ∧ v.1 = x := by
 have look : Ok (loopC z4o (l, 0, x)) (fun s => match s with | .inl _ => True | .inr y => ∃ v, v ∈ l ∧ v.1 = x) := by
   refine z1o l.length (fun i _ => (l, (i : Int), x)) (fun _ (_ : Unit) => True) () rfl trivial (fun _ _ => ?_) fun i _ hi _ => ?_
   · unfold z4o zhh
     dsimp only
     repeat' first
       | (dsimp only [Int.toNat_natCast, List.length_nil])
       | ((with_reducible refine z0z ?_ ?_) <;> intro _ <;> try (exfalso; omega))
       | with_reducible first | refine z0g ?_ | refine z0f ?_ | refine z0c ?_ | refine z0e ?_ | refine z0b ?_ | refine z0h ?_ | refine qs ?_ | refine qb ?_ | refine z0j ?_ | refine qw ?_ | refine z0n ?_ | refine z0k ?_ | refine qi ?_ | refine qg (h := ?_) | refine qx (h := ?_) | refine qy (h := ?_) | refine qa ?_ | refine qc ?_ | refine ql ?_ | refine qp ?_ | refine z0a ?_ | rfl
       | (with_reducible first | refine ok_lt ?_ ?_ | refine ok_le ?_ ?_ | refine z0i ?_ ?_ | refine z0l ?_ ?_ | refine z0m ?_ ?_ | refine qu ?_ ?_ | refine ok_if ?_ ?_) <;> intro _ <;> try (exfalso; omega)
   · unfold z4o zhh
     dsimp only
     repeat' first
       | (dsimp only [Int.toNat_natCast, List.length_nil])
       | ((with_reducible refine z0z ?_ ?_) <;> intro _ <;> try (exfalso; omega))
       | with_reducible first | refine z0g ?_ | refine z0f ?_ | refine z0c ?_ | refine z0e ?_ | refine z0b ?_ | refine z0h ?_ | refine qs ?_ | refine qb ?_ | refine z0j ?_ | refine qw ?_ | refine z0n ?_ | refine z0k ?_ | refine qi ?_ | refine qg (h := ?_) | refine qx (h := ?_) | refine qy (h := ?_) | refine qa ?_ | refine qc ?_ | refine ql ?_ | refine qp ?_ | refine z0a ?_ | rfl
       | (with_reducible first | refine ok_lt ?_ ?_ | refine ok_le ?_ ?_ | refine z0i ?_ ?_ | refine z0l ?_ ?_ | refine z0m ?_ ?_ | refine qu ?_ ?_ | refine ok_if ?_ ?_) <;> intro _ <;> try (exfalso; omega)
     · exact ⟨_, List.getElem_mem hi, by assumption⟩
     · exact ⟨(), by rw [z0r (by omega)]; rfl, trivial⟩
 unfold zs2
 repeat' first
   | (dsimp only [Int.toNat_natCast, List.length_nil])
   | ((with_reducible refine z1c look ?_); rintro (_ | _) h)
   | ((with_reducible refine z0z ?_ ?_) <;> intro _ <;> try (exfalso; omega))
   | with_reducible first | refine z0g ?_ | refine z0f ?_ | refine z0c ?_ | refine z0e ?_ | refine z0b ?_ | refine z0h ?_ | refine qs ?_ | refine qb ?_ | refine z0j ?_ | refine qw ?_ | refine z0n ?_ | refine z0k ?_ | refine qi ?_ | refine qg (h := ?_) | refine qx (h := ?_) | refine qy (h := ?_) | refine qa ?_ | refine qc ?_ | refine ql ?_ | refine qp ?_ | refine z0a ?_ | rfl
   | (with_reducible first | refine ok_lt ?_ ?_ | refine ok_le ?_ ?_ | refine z0i ?_ ?_ | refine z0l ?_ ?_ | refine z0m ?_ ?_ | refine qu ?_ ?_ | refine ok_if ?_ ?_) <;> intro _ <;> try (exfalso; omega)
 · exact fun _ => .inl ⟨by assumption, by assumption⟩
 · exact fun h => by cases h
 · exact fun _ => .inr h
 · exact fun h => by cases h
 · exact fun _ => .inr h
theorem z1u5 (l : List T3) (v : T3) (hl : l.length ≤ 2000) : Ok (zv7 l [] v) fun r => r.1.length ≤ l.length + 1 ∧ ∀ y, y ∈ r.1 → y ∈ l ∨ y = v := by
 have first : loopC z8g (l, [], 0, v) = some (.inl (l, [], v)) := by
   refine ok_is (z1o 0 (fun i _ => (l, [], (i : Int), v)) (fun _ (_ : Unit) => True) () rfl trivial (fun _ _ => ?_) fun i _ hi _ => by omega)
   unfold z8g zt3
   dsimp only
   repeat' first
     | (dsimp only [Int.toNat_natCast, List.length_nil])
     | ((with_reducible refine z0z ?_ ?_) <;> intro _ <;> try (exfalso; omega))
     | with_reducible first | refine z0g ?_ | refine z0f ?_ | refine z0c ?_ | refine z0e ?_ | refine z0b ?_ | refine z0h ?_ | refine qs ?_ | refine qb ?_ | refine z0j ?_ | refine qw ?_ | refine z0n ?_ | refine z0k ?_ | refine qi ?_ | refine qg (h := ?_) | refine qx (h := ?_) | refine qy (h := ?_) | refine qa ?_ | refine qc ?_ | refine ql ?_ | refine qp ?_ | refine z0a ?_ | rfl
     | (with_reducible first | refine ok_lt ?_ ?_ | refine ok_le ?_ ?_ | refine z0i ?_ ?_ | refine z0l ?_ ?_ | refine z0m ?_ ?_ | refine qu ?_ ?_ | refine ok_if ?_ ?_) <;> intro _ <;> try (exfalso; omega)
 have inner : ∀ (put : Bool) (i : Int) (out : List T3) (x : T3), loopC z1k (l, [], put, i, 0, v, out, x) = some (l, [], put, i, v, out, x) := fun put i out x => by
   refine ok_is (z1o 0 (fun k _ => (l, [], put, i, (k : Int), v, out, x)) (fun _ (_ : Unit) => True) () rfl trivial (fun _ _ => ?_) fun i _ hi _ => by omega)
   unfold z1k zap
   dsimp only
   repeat' first
     | (dsimp only [Int.toNat_natCast, List.length_nil])
     | ((with_reducible refine z0z ?_ ?_) <;> intro _ <;> try (exfalso; omega))
     | with_reducible first | refine z0g ?_ | refine z0f ?_ | refine z0c ?_ | refine z0e ?_ | refine z0b ?_ | refine z0h ?_ | refine qs ?_ | refine qb ?_ | refine z0j ?_ | refine qw ?_ | refine z0n ?_ | refine z0k ?_ | refine qi ?_ | refine qg (h := ?_) | refine qx (h := ?_) | refine qy (h := ?_) | refine qa ?_ | refine qc ?_ | refine ql ?_ | refine qp ?_ | refine z0a ?_ | rfl
     | (with_reducible first | refine ok_lt ?_ ?_ | refine ok_le ?_ ?_ | refine z0i ?_ ?_ | refine z0l ?_ ?_ | refine z0m ?_ ?_ | refine qu ?_ ?_ | refine ok_if ?_ ?_) <;> intro _ <;> try (exfalso; omega)
 unfold zv7
 repeat' first
   | (dsimp only [Int.toNat_natCast, List.length_nil])
   | ((with_reducible refine ok_eq first ?_))
   | ((with_reducible refine z1c (z1vy l v.1 hl) fun _ _ => ?_))
   | ((with_reducible refine z0z ?_ ?_) <;> intro _ <;> try (exfalso; omega))
   | with_reducible first | refine z0g ?_ | refine z0f ?_ | refine z0c ?_ | refine z0e ?_ | refine z0b ?_ | refine z0h ?_ | refine qs ?_ | refine qb ?_ | refine z0j ?_ | refine qw ?_ | refine z0n ?_ | refine z0k ?_ | refine qi ?_ | refine qg (h := ?_) | refine qx (h := ?_) | refine qy (h := ?_) | refine qa ?_ | refine qc ?_ | refine ql ?_ | refine qp ?_ | refine z0a ?_ | rfl
   | (with_reducible first | refine ok_lt ?_ ?_ | refine ok_le ?_ ?_ | refine z0i ?_ ?_ | refine z0l ?_ ?_ | refine z0m ?_ ?_ | refine qu ?_ ?_ | refine ok_if ?_ ?_) <;> intro _ <;> try (exfalso; omega)
 · exact ⟨Nat.zero_le _, fun y hy => by cases hy⟩
 refine z1o l.length (fun i (a : Bool × List T3) => (l, [], a.1, (i : Int), v, a.2)) (fun i a => a.2.length ≤ i + (if a.1 = true then 1 else 0) ∧ ∀ y, y ∈ a.2 → y ∈ l ∨ y = v) (false, []) rfl ⟨Nat.zero_le _, fun y hy => by cases hy⟩ (fun a ha => ?_) fun i a hi ha => ?_
 · obtain ⟨put, out⟩ := a
   obtain ⟨h1, h2⟩ := ha
   unfold z3p zdt
   dsimp only
   simp only at h1 h2
   have hb : out.length ≤ l.length + 1 := by split at h1 <;> omega
   cases put with
   | true =>
     repeat' first
       | (dsimp only [Int.toNat_natCast, List.length_nil])
       | ((with_reducible refine z0z ?_ ?_) <;> intro _ <;> try (exfalso; omega))
       | with_reducible first | refine z0g ?_ | refine z0f ?_ | refine z0c ?_ | refine z0e ?_ | refine z0b ?_ | refine z0h ?_ | refine qs ?_ | refine qb ?_ | refine z0j ?_ | refine qw ?_ | refine z0n ?_ | refine z0k ?_ | refine qi ?_ | refine qg (h := ?_) | refine qx (h := ?_) | refine qy (h := ?_) | refine qa ?_ | refine qc ?_ | refine ql ?_ | refine qp ?_ | refine z0a ?_ | rfl
       | (with_reducible first | refine ok_lt ?_ ?_ | refine ok_le ?_ ?_ | refine z0i ?_ ?_ | refine z0l ?_ ?_ | refine z0m ?_ ?_ | refine qu ?_ ?_ | refine ok_if ?_ ?_) <;> intro _ <;> try (exfalso; omega)
     exact ⟨hb, h2⟩
   | false =>
     simp only [Bool.false_eq_true, if_false] at h1
     repeat' first
       | (dsimp only [Int.toNat_natCast, List.length_nil])
       | ((with_reducible refine z0z ?_ ?_) <;> intro _ <;> try (exfalso; omega))
       | with_reducible first | refine z0g ?_ | refine z0f ?_ | refine z0c ?_ | refine z0e ?_ | refine z0b ?_ | refine z0h ?_ | refine qs ?_ | refine qb ?_ | refine z0j ?_ | refine qw ?_ | refine z0n ?_ | refine z0k ?_ | refine qi ?_ | refine qg (h := ?_) | refine qx (h := ?_) | refine qy (h := ?_) | refine qa ?_ | refine qc ?_ | refine ql ?_ | refine qp ?_ | refine z0a ?_ | rfl
       | (with_reducible first | refine ok_lt ?_ ?_ | refine ok_le ?_ ?_ | refine z0i ?_ ?_ | refine z0l ?_ ?_ | refine z0m ?_ ?_ | refine qu ?_ ?_ | refine ok_if ?_ ?_) <;> intro _ <;> try (exfalso; omega)
     refine ⟨by simp; omega, fun y hy => ?_⟩
     rcases List.mem_append.1 hy with hy | hy
     · exact h2 y hy
     · simp only [List.mem_singleton] at hy; exact .inr hy
 · obtain ⟨put, out⟩ := a
   obtain ⟨h1, h2⟩ := ha
   unfold z3p zdt
   dsimp only
   simp only at h1 h2
   have hb : out.length ≤ i + 1 := by split at h1 <;> omega
   have hpi := List.getElem_mem hi
   have add : ∀ (o : List T3) (z : T3), (∀ y, y ∈ o → y ∈ l ∨ y = v) → (z ∈ l ∨ z = v) → ∀ y, y ∈ o ++ [z] → y ∈ l ∨ y = v := fun o z ho hz y hy => by
     rcases List.mem_append.1 hy with hy | hy
     · exact ho y hy
     · simp only [List.mem_singleton] at hy; subst hy; exact hz
   repeat' first
     | (dsimp only [Int.toNat_natCast, List.length_nil])
     | ((with_reducible refine ok_eq (zu1 _ _) ?_))
     | ((with_reducible refine ok_eq (inner _ _ _ _) ?_))
     | ((with_reducible refine z0z ?_ ?_) <;> intro _ <;> try (exfalso; omega))
     | with_reducible first | refine z0g ?_ | refine z0f ?_ | refine z0c ?_ | refine z0e ?_ | refine z0b ?_ | refine z0h ?_ | refine qs ?_ | refine qb ?_ | refine z0j ?_ | refine qw ?_ | refine z0n ?_ | refine z0k ?_ | refine qi ?_ | refine qg (h := ?_) | refine qx (h := ?_) | refine qy (h := ?_) | refine qa ?_ | refine qc ?_ | refine ql ?_ | refine qp ?_ | refine z0a ?_ | rfl
     | (with_reducible first | refine ok_lt ?_ ?_ | refine ok_le ?_ ?_ | refine z0i ?_ ?_ | refine z0l ?_ ?_ | refine z0m ?_ ?_ | refine qu ?_ ?_ | refine ok_if ?_ ?_) <;> intro _ <;> try (exfalso; omega)
   · rename_i e1
     subst e1
     simp only [if_true] at h1
     refine ⟨(true, _), by rw [z0r (by omega)]; rfl, ?_, add _ _ h2 (.inl hpi)⟩
     simp only [if_true, List.length_append, List.length_singleton]; omega
   · rename_i e1 _
     subst e1
     simp only [Bool.false_eq_true, if_false] at h1
     refine ⟨(true, _), by rw [z0r (by omega)]; rfl, ?_, add _ _ (add _ _ h2 (.inr rfl)) (.inl hpi)⟩
     simp only [if_true, List.length_append, List.length_singleton]; omega
   · rename_i e1 _
     subst e1
     simp only [Bool.false_eq_true, if_false] at h1
     refine ⟨(false, _), by rw [z0r (by omega)]; rfl, ?_, add _ _ h2 (.inl hpi)⟩
     simp only [Bool.false_eq_true, if_false, List.length_append, List.length_singleton]; omega
structure VerOk (l : List T1) (K : List Int) (v : T3) : Prop where
 by' : ByOk K v.2.2
 data : v.2.1.length ≤ 250
 ev : ∃ e, e ∈ l ∧ v.1 = e.1 ∧ (eqI (zft e) 3 || (eqI (zft e) 4 || eqI (zft e) 5)) = true
structure ObjOk (l : List T1) (K : List Int) (o : T4) : Prop where
 seen : ByOk K o.2.2.2.2.1
 len : o.2.2.2.2.2.length ≤ l.length
 vers : ∀ v, v ∈ o.2.2.2.2.2 → VerOk l K v
theorem z1wc {l : List T1} {K : List Int} (E : Evs l K) (out : List T3) (n m : Int) (t2 : T1) (t3 t4 t5 : T0) (t6 : Bool) (obj : T0) (x : T3) (hx : ByOk K x.2.2) :
   Ok (loopC z1h (l, out, n, 0, l, m, t2, t3, t4, t5, t6, obj, x)) fun r => ∃ b, ByOk K b ∧ r = (l, out, n, l, m, t2, t3, t4, t5, t6, obj, (x.1, x.2.1, b)) := by
 have hl := E.len
 refine z1o l.length (fun k (b : List Int) => (l, out, n, (k : Int), l, m, t2, t3, t4, t5, t6, obj, (x.1, x.2.1, b))) (fun _ b => ByOk K b) x.2.2 rfl hx (fun b hb => ?_) fun k b hk hb => ?_
 · unfold z1h z5w
   dsimp only
   repeat' first
     | (dsimp only [Int.toNat_natCast, List.length_nil])
     | ((with_reducible refine z0z ?_ ?_) <;> intro _ <;> try (exfalso; omega))
     | with_reducible first | refine z0g ?_ | refine z0f ?_ | refine z0c ?_ | refine z0e ?_ | refine z0b ?_ | refine z0h ?_ | refine qs ?_ | refine qb ?_ | refine z0j ?_ | refine qw ?_ | refine z0n ?_ | refine z0k ?_ | refine qi ?_ | refine qg (h := ?_) | refine qx (h := ?_) | refine qy (h := ?_) | refine qa ?_ | refine qc ?_ | refine ql ?_ | refine qp ?_ | refine z0a ?_ | rfl
     | (with_reducible first | refine ok_lt ?_ ?_ | refine ok_le ?_ ?_ | refine z0i ?_ ?_ | refine z0l ?_ ?_ | refine z0m ?_ ?_ | refine qu ?_ ?_ | refine ok_if ?_ ?_) <;> intro _ <;> try (exfalso; omega)
   exact ⟨b, hb, rfl⟩
 · unfold z1h z5w
   dsimp only
   have go := (E.ev _ (List.getElem_mem hk)).base
   have hw := ByOk.with E hb (List.getElem_mem hk)
   obtain ⟨e1, e2⟩ := in_is (zil l[k]) x.1 (by omega)
   repeat' first
     | (dsimp only [Int.toNat_natCast, List.length_nil])
     | ((with_reducible refine ok_eq (z10r _) ?_))
     | ((with_reducible refine ok_eq e2 ?_))
     | ((with_reducible refine ok_eq (zkv hb.v _) ?_))
     | ((with_reducible refine z0z ?_ ?_) <;> intro _ <;> try (exfalso; omega))
     | with_reducible first | refine z0g ?_ | refine z0f ?_ | refine z0c ?_ | refine z0e ?_ | refine z0b ?_ | refine z0h ?_ | refine qs ?_ | refine qb ?_ | refine z0j ?_ | refine qw ?_ | refine z0n ?_ | refine z0k ?_ | refine qi ?_ | refine qg (h := ?_) | refine qx (h := ?_) | refine qy (h := ?_) | refine qa ?_ | refine qc ?_ | refine ql ?_ | refine qp ?_ | refine z0a ?_ | rfl
     | (with_reducible first | refine ok_lt ?_ ?_ | refine ok_le ?_ ?_ | refine z0i ?_ ?_ | refine z0l ?_ ?_ | refine z0m ?_ ?_ | refine qu ?_ ?_ | refine ok_if ?_ ?_) <;> intro _ <;> try (exfalso; omega)
   all_goals first
     | exact ⟨withV b l[k].1, by rw [z0r (by omega)]; rfl, hw⟩
     | exact ⟨b, by rw [z0r (by omega)]; rfl, hb⟩
theorem z1qa {l : List T1} {K : List Int} (E : Evs l K) (obj : T0) : Ok (zn8 l obj) fun r => r.length ≤ l.length ∧ (∀ x, x ∈ r → VerOk l K x) := by
 have hl := E.len
 unfold zn8
 refine z0a (z1o l.length (fun i (a : List T3) => (l, a, (i : Int), obj)) (fun i a => a.length ≤ i ∧ ∀ x, x ∈ a → VerOk l K x) [] rfl ⟨Nat.zero_le _, fun x hx => by cases hx⟩ (fun a ha => ?_) fun i a hi ha => ?_)
 · unfold z3w zeo
   dsimp only
   repeat' first
     | (dsimp only [Int.toNat_natCast, List.length_nil])
     | ((with_reducible refine z0z ?_ ?_) <;> intro _ <;> try (exfalso; omega))
     | with_reducible first | refine z0g ?_ | refine z0f ?_ | refine z0c ?_ | refine z0e ?_ | refine z0b ?_ | refine z0h ?_ | refine qs ?_ | refine qb ?_ | refine z0j ?_ | refine qw ?_ | refine z0n ?_ | refine z0k ?_ | refine qi ?_ | refine qg (h := ?_) | refine qx (h := ?_) | refine qy (h := ?_) | refine qa ?_ | refine qc ?_ | refine ql ?_ | refine qp ?_ | refine z0a ?_ | rfl
     | (with_reducible first | refine ok_lt ?_ ?_ | refine ok_le ?_ ?_ | refine z0i ?_ ?_ | refine z0l ?_ ?_ | refine z0m ?_ ?_ | refine qu ?_ ?_ | refine ok_if ?_ ?_) <;> intro _ <;> try (exfalso; omega)
   exact ha
 · unfold z3w zeo
   dsimp only
   have hm := List.getElem_mem hi
   repeat' first
     | (dsimp only [Int.toNat_natCast, List.length_nil])
     | ((with_reducible refine ok_eq (z10r _) ?_))
     | ((with_reducible refine z1c (z1iq E.len E.ev E.chain _) ?_); rintro d hd)
     | ((with_reducible refine z1c (z1wc E _ _ _ _ _ _ _ _ _ _ (ByOk.zero E)) ?_); rintro _ ⟨b, hb, rfl⟩)
     | ((with_reducible refine z1c (z1u5 _ _ (by omega)) ?_); rintro r ⟨g1, g2⟩)
     | ((with_reducible refine z0z ?_ ?_) <;> intro _ <;> try (exfalso; omega))
     | with_reducible first | refine z0g ?_ | refine z0f ?_ | refine z0c ?_ | refine z0e ?_ | refine z0b ?_ | refine z0h ?_ | refine qs ?_ | refine qb ?_ | refine z0j ?_ | refine qw ?_ | refine z0n ?_ | refine z0k ?_ | refine qi ?_ | refine qg (h := ?_) | refine qx (h := ?_) | refine qy (h := ?_) | refine qa ?_ | refine qc ?_ | refine ql ?_ | refine qp ?_ | refine z0a ?_ | rfl
     | (with_reducible first | refine ok_lt ?_ ?_ | refine ok_le ?_ ?_ | refine z0i ?_ ?_ | refine z0l ?_ ?_ | refine z0m ?_ ?_ | refine qu ?_ ?_ | refine ok_if ?_ ?_) <;> intro _ <;> try (exfalso; omega)
   all_goals first
     | exact ⟨a, by rw [z0r (by omega)]; rfl, by omega, ha.2⟩
     | (refine ⟨_, by rw [z0r (by omega)]; rfl, ?_⟩
        refine ⟨by omega, fun x hx => ?_⟩
        rcases g2 x hx with hx | rfl
        · exact ha.2 x hx
        · exact ⟨hb, hd, _, hm, rfl, by assumption⟩)
theorem z1uj {l : List T1} {K : List Int} (E : Evs l K) (e : T1) : Ok (zrq l e) fun r => (r.1 = e.1 ∧ ObjOk l K r) := by
 have hl := E.len
 unfold zrq
 refine z1c (z1qa E e.1) ?_
 rintro r ⟨h1, h2⟩
 refine z0a (z1o l.length (fun i (o : T4) => (l, (i : Int), e, _, o)) (fun i o => o.1 = e.1 ∧ ObjOk l K o) _ rfl ⟨rfl, ByOk.zero E, h1, h2⟩ (fun a ha => ?_) fun i a hi ha => ?_)
 · unfold z4v zfx
   dsimp only
   repeat' first
     | (dsimp only [Int.toNat_natCast, List.length_nil])
     | ((with_reducible refine z0z ?_ ?_) <;> intro _ <;> try (exfalso; omega))
     | with_reducible first | refine z0g ?_ | refine z0f ?_ | refine z0c ?_ | refine z0e ?_ | refine z0b ?_ | refine z0h ?_ | refine qs ?_ | refine qb ?_ | refine z0j ?_ | refine qw ?_ | refine z0n ?_ | refine z0k ?_ | refine qi ?_ | refine qg (h := ?_) | refine qx (h := ?_) | refine qy (h := ?_) | refine qa ?_ | refine qc ?_ | refine ql ?_ | refine qp ?_ | refine z0a ?_ | rfl
     | (with_reducible first | refine ok_lt ?_ ?_ | refine ok_le ?_ ?_ | refine z0i ?_ ?_ | refine z0l ?_ ?_ | refine z0m ?_ ?_ | refine qu ?_ ?_ | refine ok_if ?_ ?_) <;> intro _ <;> try (exfalso; omega)
   exact ha
 · unfold z4v zfx
   dsimp only
   have hm := List.getElem_mem hi
   have hs : ByOk K (joinV a.2.2.2.2.1 (withV l[i].2.1 l[i].1)) := ha.2.seen.join ⟨zjl (E.ev _ hm).dep _, zqr (E.ev _ hm).dep (zfn _) (E.ev _ hm).nat, z1gs (E.ev _ hm).dep (E.dep _ hm) E.nat (E.means _ hm)⟩
   repeat' first
     | (dsimp only [Int.toNat_natCast, List.length_nil])
     | ((with_reducible refine ok_eq (zu1 _ _) ?_))
     | ((with_reducible refine ok_eq (zkv (E.ev _ hm).dep _) ?_))
     | ((with_reducible refine ok_eq (z1dh ha.2.seen.v (zjl (E.ev _ hm).dep _)) ?_))
     | ((with_reducible refine z0z ?_ ?_) <;> intro _ <;> try (exfalso; omega))
     | with_reducible first | refine z0g ?_ | refine z0f ?_ | refine z0c ?_ | refine z0e ?_ | refine z0b ?_ | refine z0h ?_ | refine qs ?_ | refine qb ?_ | refine z0j ?_ | refine qw ?_ | refine z0n ?_ | refine z0k ?_ | refine qi ?_ | refine qg (h := ?_) | refine qx (h := ?_) | refine qy (h := ?_) | refine qa ?_ | refine qc ?_ | refine ql ?_ | refine qp ?_ | refine z0a ?_ | rfl
     | (with_reducible first | refine ok_lt ?_ ?_ | refine ok_le ?_ ?_ | refine z0i ?_ ?_ | refine z0l ?_ ?_ | refine z0m ?_ ?_ | refine qu ?_ ?_ | refine ok_if ?_ ?_) <;> intro _ <;> try (exfalso; omega)
   all_goals first
     | (refine ⟨_, by rw [z0r (by omega)]; rfl, ?_⟩
        first | exact ⟨ha.1, ha.2.seen, ha.2.len, ha.2.vers⟩ | exact ⟨ha.1, hs, ha.2.len, ha.2.vers⟩)
theorem z1ty {l : List T1} {K : List Int} (E : Evs l K) (out : List T3) (n m : Int) (t3 t4 : T0) (t6 : Bool) (obj : T0) (x : T3) (hx : ByOk K x.2.2) :
   Ok (loopC z1f (out, n, 0, m, t3, t4, t6, l, obj, x)) fun r => ∃ b, ByOk K b ∧ r = (out, n, m, t3, t4, t6, l, obj, (x.1, x.2.1, b)) := by
 have hl := E.len
 refine z1o l.length (fun k (b : List Int) => (out, n, (k : Int), m, t3, t4, t6, l, obj, (x.1, x.2.1, b))) (fun _ b => ByOk K b) x.2.2 rfl hx (fun b hb => ?_) fun k b hk hb => ?_
 · unfold z1f z5g
   dsimp only
   repeat' first
     | (dsimp only [Int.toNat_natCast, List.length_nil])
     | ((with_reducible refine z0z ?_ ?_) <;> intro _ <;> try (exfalso; omega))
     | with_reducible first | refine z0g ?_ | refine z0f ?_ | refine z0c ?_ | refine z0e ?_ | refine z0b ?_ | refine z0h ?_ | refine qs ?_ | refine qb ?_ | refine z0j ?_ | refine qw ?_ | refine z0n ?_ | refine z0k ?_ | refine qi ?_ | refine qg (h := ?_) | refine qx (h := ?_) | refine qy (h := ?_) | refine qa ?_ | refine qc ?_ | refine ql ?_ | refine qp ?_ | refine z0a ?_ | rfl
     | (with_reducible first | refine ok_lt ?_ ?_ | refine ok_le ?_ ?_ | refine z0i ?_ ?_ | refine z0l ?_ ?_ | refine z0m ?_ ?_ | refine qu ?_ ?_ | refine ok_if ?_ ?_) <;> intro _ <;> try (exfalso; omega)
   exact ⟨b, hb, rfl⟩
 · unfold z1f z5g
   dsimp only
   have go := (E.ev _ (List.getElem_mem hk)).base
   have hw := ByOk.with E hb (List.getElem_mem hk)
   obtain ⟨e1, e2⟩ := in_is (zil l[k]) x.1 (by omega)
   repeat' first
     | (dsimp only [Int.toNat_natCast, List.length_nil])
     | ((with_reducible refine ok_eq (z10r _) ?_))
     | ((with_reducible refine ok_eq e2 ?_))
     | ((with_reducible refine ok_eq (zkv hb.v _) ?_))
     | ((with_reducible refine z0z ?_ ?_) <;> intro _ <;> try (exfalso; omega))
     | with_reducible first | refine z0g ?_ | refine z0f ?_ | refine z0c ?_ | refine z0e ?_ | refine z0b ?_ | refine z0h ?_ | refine qs ?_ | refine qb ?_ | refine z0j ?_ | refine qw ?_ | refine z0n ?_ | refine z0k ?_ | refine qi ?_ | refine qg (h := ?_) | refine qx (h := ?_) | refine qy (h := ?_) | refine qa ?_ | refine qc ?_ | refine ql ?_ | refine qp ?_ | refine z0a ?_ | rfl
     | (with_reducible first | refine ok_lt ?_ ?_ | refine ok_le ?_ ?_ | refine z0i ?_ ?_ | refine z0l ?_ ?_ | refine z0m ?_ ?_ | refine qu ?_ ?_ | refine ok_if ?_ ?_) <;> intro _ <;> try (exfalso; omega)
   all_goals first
     | exact ⟨withV b l[k].1, by rw [z0r (by omega)]; rfl, hw⟩
     | exact ⟨b, by rw [z0r (by omega)]; rfl, hb⟩
theorem z1nb {l : List T1} {K : List Int} (E : Evs l K) (obj : T0) : Ok (zjy obj l) fun r => r.1.length ≤ l.length ∧ (∀ x, x ∈ r.1 → VerOk l K x) ∧ r.2 = l := by
 have hl := E.len
 unfold zjy
 refine zbv rfl ?_
 refine z0a (z1o l.length (fun i (a : List T3) => (a, (i : Int), l, obj)) (fun i a => a.length ≤ i ∧ ∀ x, x ∈ a → VerOk l K x) [] rfl ⟨Nat.zero_le _, fun x hx => by cases hx⟩ (fun a ha => ?_) fun i a hi ha => ?_)
 · unfold z3g zdd
   dsimp only
   repeat' first
     | (dsimp only [Int.toNat_natCast, List.length_nil])
     | ((with_reducible refine z0z ?_ ?_) <;> intro _ <;> try (exfalso; omega))
     | with_reducible first | refine z0g ?_ | refine z0f ?_ | refine z0c ?_ | refine z0e ?_ | refine z0b ?_ | refine z0h ?_ | refine qs ?_ | refine qb ?_ | refine z0j ?_ | refine qw ?_ | refine z0n ?_ | refine z0k ?_ | refine qi ?_ | refine qg (h := ?_) | refine qx (h := ?_) | refine qy (h := ?_) | refine qa ?_ | refine qc ?_ | refine ql ?_ | refine qp ?_ | refine z0a ?_ | rfl
     | (with_reducible first | refine ok_lt ?_ ?_ | refine ok_le ?_ ?_ | refine z0i ?_ ?_ | refine z0l ?_ ?_ | refine z0m ?_ ?_ | refine qu ?_ ?_ | refine ok_if ?_ ?_) <;> intro _ <;> try (exfalso; omega)
   exact ⟨ha.1, ha.2, rfl⟩
 · unfold z3g zdd
   dsimp only
   have hm := List.getElem_mem hi
   repeat' first
     | (dsimp only [Int.toNat_natCast, List.length_nil])
     | ((with_reducible refine ok_eq (z10r _) ?_))
     | ((with_reducible refine z1c (z1iq E.len E.ev E.chain _) ?_); rintro d hd)
     | ((with_reducible refine z1c (z1ty E _ _ _ _ _ _ _ _ (ByOk.zero E)) ?_); rintro _ ⟨b, hb, rfl⟩)
     | ((with_reducible refine z1c (z1u5 _ _ (by omega)) ?_); rintro r ⟨g1, g2⟩)
     | ((with_reducible refine z0z ?_ ?_) <;> intro _ <;> try (exfalso; omega))
     | with_reducible first | refine z0g ?_ | refine z0f ?_ | refine z0c ?_ | refine z0e ?_ | refine z0b ?_ | refine z0h ?_ | refine qs ?_ | refine qb ?_ | refine z0j ?_ | refine qw ?_ | refine z0n ?_ | refine z0k ?_ | refine qi ?_ | refine qg (h := ?_) | refine qx (h := ?_) | refine qy (h := ?_) | refine qa ?_ | refine qc ?_ | refine ql ?_ | refine qp ?_ | refine z0a ?_ | rfl
     | (with_reducible first | refine ok_lt ?_ ?_ | refine ok_le ?_ ?_ | refine z0i ?_ ?_ | refine z0l ?_ ?_ | refine z0m ?_ ?_ | refine qu ?_ ?_ | refine ok_if ?_ ?_) <;> intro _ <;> try (exfalso; omega)
   all_goals first
     | exact ⟨a, by rw [z0r (by omega)]; rfl, by omega, ha.2⟩
     | (refine ⟨_, by rw [z0r (by omega)]; rfl, ?_⟩
        refine ⟨by omega, fun x hx => ?_⟩
        rcases g2 x hx with hx | rfl
        · exact ha.2 x hx
        · exact ⟨hb, hd, _, hm, rfl, by assumption⟩)
theorem z1re {l : List T1} {K : List Int} (E : Evs l K) (e : T1) : Ok (znf e l) fun r => (r.1.1 = e.1 ∧ ObjOk l K r.1) ∧ r.2 = l := by
 have hl := E.len
 unfold znf
 refine zbv rfl ?_
 refine z1c (z1nb E e.1) ?_
 rintro r ⟨h1, h2, h3⟩
 rw [h3]
 refine zbv rfl ?_
 refine z0a (z1o l.length (fun i (o : T4) => ((i : Int), l, e, _, o)) (fun i o => o.1 = e.1 ∧ ObjOk l K o) _ rfl ⟨rfl, ByOk.zero E, h1, h2⟩ (fun a ha => ?_) fun i a hi ha => ?_)
 · unfold z3v zet
   dsimp only
   repeat' first
     | (dsimp only [Int.toNat_natCast, List.length_nil])
     | ((with_reducible refine z0z ?_ ?_) <;> intro _ <;> try (exfalso; omega))
     | with_reducible first | refine z0g ?_ | refine z0f ?_ | refine z0c ?_ | refine z0e ?_ | refine z0b ?_ | refine z0h ?_ | refine qs ?_ | refine qb ?_ | refine z0j ?_ | refine qw ?_ | refine z0n ?_ | refine z0k ?_ | refine qi ?_ | refine qg (h := ?_) | refine qx (h := ?_) | refine qy (h := ?_) | refine qa ?_ | refine qc ?_ | refine ql ?_ | refine qp ?_ | refine z0a ?_ | rfl
     | (with_reducible first | refine ok_lt ?_ ?_ | refine ok_le ?_ ?_ | refine z0i ?_ ?_ | refine z0l ?_ ?_ | refine z0m ?_ ?_ | refine qu ?_ ?_ | refine ok_if ?_ ?_) <;> intro _ <;> try (exfalso; omega)
   exact ⟨ha, rfl⟩
 · unfold z3v zet
   dsimp only
   have hm := List.getElem_mem hi
   have hs : ByOk K (joinV a.2.2.2.2.1 (withV l[i].2.1 l[i].1)) := ha.2.seen.join ⟨zjl (E.ev _ hm).dep _, zqr (E.ev _ hm).dep (zfn _) (E.ev _ hm).nat, z1gs (E.ev _ hm).dep (E.dep _ hm) E.nat (E.means _ hm)⟩
   repeat' first
     | (dsimp only [Int.toNat_natCast, List.length_nil])
     | ((with_reducible refine ok_eq (zu1 _ _) ?_))
     | ((with_reducible refine ok_eq (zkv (E.ev _ hm).dep _) ?_))
     | ((with_reducible refine ok_eq (z1dh ha.2.seen.v (zjl (E.ev _ hm).dep _)) ?_))
     | ((with_reducible refine z0z ?_ ?_) <;> intro _ <;> try (exfalso; omega))
     | with_reducible first | refine z0g ?_ | refine z0f ?_ | refine z0c ?_ | refine z0e ?_ | refine z0b ?_ | refine z0h ?_ | refine qs ?_ | refine qb ?_ | refine z0j ?_ | refine qw ?_ | refine z0n ?_ | refine z0k ?_ | refine qi ?_ | refine qg (h := ?_) | refine qx (h := ?_) | refine qy (h := ?_) | refine qa ?_ | refine qc ?_ | refine ql ?_ | refine qp ?_ | refine z0a ?_ | rfl
     | (with_reducible first | refine ok_lt ?_ ?_ | refine ok_le ?_ ?_ | refine z0i ?_ ?_ | refine z0l ?_ ?_ | refine z0m ?_ ?_ | refine qu ?_ ?_ | refine ok_if ?_ ?_) <;> intro _ <;> try (exfalso; omega)
   all_goals first
     | (refine ⟨_, by rw [z0r (by omega)]; rfl, ?_⟩
        first | exact ⟨ha.1, ha.2.seen, ha.2.len, ha.2.vers⟩ | exact ⟨ha.1, hs, ha.2.len, ha.2.vers⟩)
end Go.Proofs.Ytfbdjicfkcklfaa
set_option maxRecDepth 100000
set_option linter.unusedSimpArgs false
set_option linter.unusedVariables false
namespace Go.Proofs.Ytfbdjicfkcklfaa
open Go.Tm Go.Ab
def makes (e : T1) : Prop := zft e = 1 ∨ zft e = 2
abbrev BldT := List Int × List Bool × List Int × List T4
structure BInv (l : List T1) (K : List Int) (i : Nat) (a : BldT) : Prop where
 w : a.1.length = 8
 r : a.2.1.length = 8
 lat : VecOk a.2.2.1
 len : a.2.2.2.length ≤ i
 obj : ∀ o, o ∈ a.2.2.2 → ObjOk l K o
 mem : ∀ o, o ∈ a.2.2.2 → ∃ j, ∃ h : j < l.length, j < i ∧ makes l[j] ∧ o.1 = l[j].1
 all : ∀ j (h : j < l.length), j < i → makes l[j] → ∃ o, o ∈ a.2.2.2 ∧ o.1 = l[j].1
 nd : (∀ j k (h : j < l.length) (g : k < l.length), l[j].1 = l[k].1 → j = k) → (a.2.2.2.map (fun o => o.1)).Nodup
theorem BInv.skip {l : List T1} {K : List Int} {i : Nat} {a : BldT} (h : BInv l K i a) (hi : i < l.length) (hk : ¬ makes l[i]) {w : List Int} {r : List Bool} {t : List Int} (hw : w.length = 8) (hr : r.length = 8) (ht : VecOk t) : BInv l K (i + 1) (w, r, t, a.2.2.2) where
 w := hw
 r := hr
 lat := ht
 len := by have := h.len; simp only; omega
 obj := h.obj
 mem := fun o ho => by
   obtain ⟨j, h1, h2, h3⟩ := h.mem o ho
   exact ⟨j, h1, by omega, h3⟩
 all := fun j hj hlt hm => by
   by_cases e : j = i
   · subst e; exact absurd hm hk
   · exact h.all j hj (by omega) hm
 nd := h.nd
theorem BInv.add {l : List T1} {K : List Int} {i : Nat} {a : BldT} (h : BInv l K i a) (hi : i < l.length) (hk : makes l[i]) {o : T4} (ho : o.1 = l[i].1) (hok : ObjOk l K o) (k : Nat) : BInv l K (i + 1) (a.1, a.2.1, a.2.2.1, a.2.2.2.take k ++ ([o] ++ a.2.2.2.drop k)) := by
 have hp : (a.2.2.2.take k ++ ([o] ++ a.2.2.2.drop k)).Perm (o :: a.2.2.2) := by
   have := List.perm_middle (a := o) (l₁ := a.2.2.2.take k) (l₂ := a.2.2.2.drop k)
   rw [List.take_append_drop] at this
   exact this
 have hmem : ∀ x, x ∈ a.2.2.2.take k ++ ([o] ++ a.2.2.2.drop k) ↔ x = o ∨ x ∈ a.2.2.2 := fun x => by rw [hp.mem_iff, List.mem_cons]
 refine ⟨h.w, h.r, h.lat, ?_, fun x hx => ?_, fun x hx => ?_, fun j hj hlt hm => ?_, fun hd => ?_⟩
 · have := hp.length_eq
   simp only [List.length_cons] at this
   have := h.len
   simp only; omega
 · rcases (hmem x).1 hx with rfl | hx
   · exact hok
   · exact h.obj x hx
 · rcases (hmem x).1 hx with rfl | hx
   · exact ⟨i, hi, by omega, hk, ho⟩
   · obtain ⟨j, h1, h2, h3⟩ := h.mem x hx
     exact ⟨j, h1, by omega, h3⟩
 · by_cases e : j = i
   · subst e; exact ⟨o, (hmem o).2 (.inl rfl), ho⟩
   · obtain ⟨x, h1, h2⟩ := h.all j hj (by omega) hm
     exact ⟨x, (hmem x).2 (.inr h1), h2⟩
 · have hn := h.nd hd
   have hp' := hp.map (fun o => o.1)
   rw [hp'.nodup_iff, List.map_cons, List.nodup_cons]
   refine ⟨fun hin => ?_, hn⟩
   simp only [List.mem_map] at hin
   obtain ⟨x, hx, e⟩ := hin
   obtain ⟨j, h1, h2, _, h4⟩ := h.mem x hx
   have := hd j i h1 hi (by rw [← h4, e, ho])
   omega
structure StOk (l : List T1) (K : List Int) (s : T5) : Prop where
 known : s.1 = K
 elen : s.2.2.1.length ≤ l.length
 ent : ∀ x, x ∈ s.2.2.1 → EntOk l K x
 olen : s.2.1.length ≤ l.length
 obj : ∀ o, o ∈ s.2.1 → ObjOk l K o
 mem : ∀ o, o ∈ s.2.1 → ∃ e, e ∈ l ∧ makes e ∧ o.1 = e.1
 all : ∀ e, e ∈ l → makes e → ∃ o, o ∈ s.2.1 ∧ o.1 = e.1
 nd : (∀ j k (h : j < l.length) (g : k < l.length), l[j].1 = l[k].1 → j = k) → (s.2.1.map (fun o => o.1)).Nodup
 w : s.2.2.2.1.length = 8
 r : s.2.2.2.2.length = 8
theorem z1qq {l : List T1} {K : List Int} {a : BldT} {ents : List T2} (h : BInv l K l.length a) (h1 : ents.length ≤ l.length) (h2 : ∀ x, x ∈ ents → EntOk l K x) : StOk l K (K, a.2.2.2, ents, a.1, a.2.1) :=
 ⟨rfl, h1, h2, h.len, h.obj, fun o ho => by
   obtain ⟨j, hj, _, g1, g2⟩ := h.mem o ho
   exact ⟨_, List.getElem_mem hj, g1, g2⟩, fun e he hm => by
   obtain ⟨j, hj, rfl⟩ := List.mem_iff_getElem.1 he
   exact h.all j hj hj hm, h.nd, h.w, h.r⟩
theorem z1v0 (l : List T1) (i : Int) (t2 t22 : List Int) (t23 : List Bool) (t3 : List Int) (t32 : List T2) (t33 : List Int) (t34 : List Bool) (latest : List Int) (t6 : T1) (o : T4) (t24 : List T4) (t25 : List T2) (objs : List T4) (hl : objs.length ≤ 2000) :
   Ok (loopC z1d (l, i, (objs.length : Nat), t2, t22, t23, t3, t32, t33, t34, latest, t6, o, t24, t25, objs)) fun r => ∃ k : Nat, k ≤ objs.length ∧ r = (l, i, (k : Int), t2, t22, t23, t3, t32, t33, t34, latest, t6, o, t24, t25, objs) := by
 refine z1o objs.length (fun j _ => (l, i, ((objs.length - j : Nat) : Int), t2, t22, t23, t3, t32, t33, t34, latest, t6, o, t24, t25, objs)) (fun _ (_ : Unit) => True) () rfl trivial (fun _ _ => ?_) fun j _ hj _ => ?_
 · unfold z1d z4r
   dsimp only
   rw [Nat.sub_self]
   repeat' first
     | (dsimp only [Int.toNat_natCast, List.length_nil])
     | ((with_reducible refine z0z ?_ ?_) <;> intro _ <;> try (exfalso; omega))
     | with_reducible first | refine z0g ?_ | refine z0f ?_ | refine z0c ?_ | refine z0e ?_ | refine z0b ?_ | refine z0h ?_ | refine qs ?_ | refine qb ?_ | refine z0j ?_ | refine qw ?_ | refine z0n ?_ | refine z0k ?_ | refine qi ?_ | refine qg (h := ?_) | refine qx (h := ?_) | refine qy (h := ?_) | refine qa ?_ | refine qc ?_ | refine ql ?_ | refine qp ?_ | refine z0a ?_ | rfl
     | (with_reducible first | refine ok_lt ?_ ?_ | refine ok_le ?_ ?_ | refine z0i ?_ ?_ | refine z0l ?_ ?_ | refine z0m ?_ ?_ | refine qu ?_ ?_ | refine ok_if ?_ ?_) <;> intro _ <;> try (exfalso; omega)
   exact ⟨0, Nat.zero_le _, rfl⟩
 · unfold z1d z4r
   dsimp only
   rw [z0r (by omega), show ((objs.length - j : Nat) : Int) - 1 = ((objs.length - (j + 1) : Nat) : Int) by omega]
   repeat' first
     | (dsimp only [Int.toNat_natCast, List.length_nil])
     | ((with_reducible refine ok_eq (zu1 _ _) ?_))
     | ((with_reducible refine z0z ?_ ?_) <;> intro _ <;> try (exfalso; omega))
     | with_reducible first | refine z0g ?_ | refine z0f ?_ | refine z0c ?_ | refine z0e ?_ | refine z0b ?_ | refine z0h ?_ | refine qs ?_ | refine qb ?_ | refine z0j ?_ | refine qw ?_ | refine z0n ?_ | refine z0k ?_ | refine qi ?_ | refine qg (h := ?_) | refine qx (h := ?_) | refine qy (h := ?_) | refine qa ?_ | refine qc ?_ | refine ql ?_ | refine qp ?_ | refine z0a ?_ | rfl
     | (with_reducible first | refine ok_lt ?_ ?_ | refine ok_le ?_ ?_ | refine z0i ?_ ?_ | refine z0l ?_ ?_ | refine z0m ?_ ?_ | refine qu ?_ ?_ | refine ok_if ?_ ?_) <;> intro _ <;> try (exfalso; omega)
   all_goals first
     | exact ⟨(), rfl, trivial⟩
     | exact ⟨_, by omega, rfl⟩
theorem z1kv {l : List T1} (E : Evs l (z8l l)) {ents : List T2} (he : zes l = some ents) : Ok (zfd l) fun r => StOk l (z8l l) r ∧ r.2.2.1 = ents := by
 have hl := E.len
 unfold zfd
 refine ok_eq (z1ol l hl) ?_
 obtain ⟨ents1, he1, h1, h2⟩ := z1j6 E
 have hee : ents = ents1 := by rw [he] at he1; exact Option.some.inj he1
 subst hee
 refine ok_eq he ?_
 generalize hK : z8l l = K at E h1 h2 ⊢
 refine zbv rfl (zbv rfl (zbv rfl ?_))
 refine z0a (z1o l.length (fun i (a : BldT) => (l, (i : Int), List.replicate 8 0, List.replicate 8 0, List.replicate 8 false, K, ents, a.1, a.2.1, a.2.2.1, [], [], a.2.2.2)) (fun i a => BInv l K i a) (List.replicate 8 0, List.replicate 8 false, List.replicate 8 0, []) rfl
   ⟨List.length_replicate .., List.length_replicate .., ztx, Nat.zero_le _, fun o ho => (by cases ho), fun o ho => (by cases ho), fun j hj hlt => (by omega), fun _ => List.nodup_nil⟩ (fun a ha => ?_) fun i a hi ha => ?_)
 · unfold z4h zf4
   dsimp only
   repeat' first
     | (dsimp only [Int.toNat_natCast, List.length_nil])
     | ((with_reducible refine z0z ?_ ?_) <;> intro _ <;> try (exfalso; omega))
     | with_reducible first | refine z0g ?_ | refine z0f ?_ | refine z0c ?_ | refine z0e ?_ | refine z0b ?_ | refine z0h ?_ | refine qs ?_ | refine qb ?_ | refine z0j ?_ | refine qw ?_ | refine z0n ?_ | refine z0k ?_ | refine qi ?_ | refine qg (h := ?_) | refine qx (h := ?_) | refine qy (h := ?_) | refine qa ?_ | refine qc ?_ | refine ql ?_ | refine qp ?_ | refine z0a ?_ | rfl
     | (with_reducible first | refine ok_lt ?_ ?_ | refine ok_le ?_ ?_ | refine z0i ?_ ?_ | refine z0l ?_ ?_ | refine z0m ?_ ?_ | refine qu ?_ ?_ | refine ok_if ?_ ?_) <;> intro _ <;> try (exfalso; omega)
   exact ⟨z1qq ha h1 h2, rfl⟩
 · unfold z4h zf4
   dsimp only
   have hm := List.getElem_mem hi
   have hrep := E.rep _ hm
   have w1 : W64 (l[i].1.1 - 1) = l[i].1.1 - 1 := z0r (by omega)
   have hlen := ha.len
   have hw := ha.w
   have hr := ha.r
   have hlat := ha.lat
   repeat' first
     | (dsimp only [Int.toNat_natCast, List.length_nil])
     | (simp only [w1])
     | ((with_reducible refine z1c (z1uj E _) ?_); rintro o ⟨o1, o2⟩)
     | ((with_reducible refine z1c (z1v0 _ _ _ _ _ _ _ _ _ _ _ _ _ _ _ (by omega)) ?_); rintro _ ⟨k, hk, rfl⟩)
     | ((with_reducible refine ok_eq (zkv hlat _) ?_))
     | ((with_reducible refine ok_eq (z1h5 hlat _) ?_))
     | ((with_reducible refine z0z ?_ ?_) <;> intro _ <;> try (exfalso; omega))
     | with_reducible first | refine z0g ?_ | refine z0f ?_ | refine z0c ?_ | refine z0e ?_ | refine z0b ?_ | refine z0h ?_ | refine qs ?_ | refine qb ?_ | refine z0j ?_ | refine qw ?_ | refine z0n ?_ | refine z0k ?_ | refine qi ?_ | refine qg (h := ?_) | refine qx (h := ?_) | refine qy (h := ?_) | refine qa ?_ | refine qc ?_ | refine ql ?_ | refine qp ?_ | refine z0a ?_ | rfl
     | (with_reducible first | refine ok_lt ?_ ?_ | refine ok_le ?_ ?_ | refine z0i ?_ ?_ | refine z0l ?_ ?_ | refine z0m ?_ ?_ | refine qu ?_ ?_ | refine ok_if ?_ ?_) <;> intro _ <;> try (exfalso; omega)
   all_goals first
     | (have hT : ∀ k, List.take (a.2.2.2.length - k) (List.drop k a.2.2.2) = List.drop k a.2.2.2 := fun k => List.take_of_length_le (by simp)
        simp only [hT, List.drop_zero]
        refine ⟨(a.1, a.2.1, a.2.2.1, a.2.2.2.take k ++ ([o] ++ a.2.2.2.drop k)), by rw [z0r (by omega)]; rfl, ?_⟩
        first
          | exact ha.add hi (.inl (by assumption)) o1 o2 k
          | exact ha.add hi (.inr (by assumption)) o1 o2 k)
     | (rw [z0r (by omega)]
        first
          | refine ⟨(a.1, a.2.1, a.2.2.1, a.2.2.2), rfl, ?_⟩
          | refine ⟨(a.1.set (l[i].1.1 - 1).toNat (l[i].2.2.2.2.2.2.2.2.2.2), a.2.1, withV a.2.2.1 l[i].1, a.2.2.2), rfl, ?_⟩
          | refine ⟨(a.1, a.2.1.set (l[i].1.1 - 1).toNat true, a.2.2.1, a.2.2.2), rfl, ?_⟩
          | refine ⟨(a.1.set (l[i].1.1 - 1).toNat (l[i].2.2.2.2.2.2.2.2.2.2), a.2.1.set (l[i].1.1 - 1).toNat true, withV a.2.2.1 l[i].1, a.2.2.2), rfl, ?_⟩
        refine ha.skip hi ?_ ?_ ?_ ?_
        · rintro (h | h) <;> (unfold zft at h; omega)
        · first | exact hw | (rw [List.length_set]; exact hw)
        · first | exact hr | (rw [List.length_set]; exact hr)
        · first | exact hlat | exact zjl hlat _)
theorem z1ss (l : List T1) (i : Int) (t2 t22 : List Int) (t23 : List Bool) (t3 : List Int) (t32 : List T2) (t33 : List Int) (t34 : List Bool) (latest : List Int) (t6 : T1) (o : T4) (t24 : List T4) (t25 : List T2) (objs : List T4) (hl : objs.length ≤ 2000) :
   Ok (loopC z1a (i, (objs.length : Nat), l, t2, t22, t23, t3, t32, t33, t34, latest, t6, o, t24, t25, objs)) fun r => ∃ k : Nat, k ≤ objs.length ∧ r = (i, (k : Int), l, t2, t22, t23, t3, t32, t33, t34, latest, t6, o, t24, t25, objs) := by
 refine z1o objs.length (fun j _ => (i, ((objs.length - j : Nat) : Int), l, t2, t22, t23, t3, t32, t33, t34, latest, t6, o, t24, t25, objs)) (fun _ (_ : Unit) => True) () rfl trivial (fun _ _ => ?_) fun j _ hj _ => ?_
 · unfold z1a z4d
   dsimp only
   rw [Nat.sub_self]
   repeat' first
     | (dsimp only [Int.toNat_natCast, List.length_nil])
     | ((with_reducible refine z0z ?_ ?_) <;> intro _ <;> try (exfalso; omega))
     | with_reducible first | refine z0g ?_ | refine z0f ?_ | refine z0c ?_ | refine z0e ?_ | refine z0b ?_ | refine z0h ?_ | refine qs ?_ | refine qb ?_ | refine z0j ?_ | refine qw ?_ | refine z0n ?_ | refine z0k ?_ | refine qi ?_ | refine qg (h := ?_) | refine qx (h := ?_) | refine qy (h := ?_) | refine qa ?_ | refine qc ?_ | refine ql ?_ | refine qp ?_ | refine z0a ?_ | rfl
     | (with_reducible first | refine ok_lt ?_ ?_ | refine ok_le ?_ ?_ | refine z0i ?_ ?_ | refine z0l ?_ ?_ | refine z0m ?_ ?_ | refine qu ?_ ?_ | refine ok_if ?_ ?_) <;> intro _ <;> try (exfalso; omega)
   exact ⟨0, Nat.zero_le _, rfl⟩
 · unfold z1a z4d
   dsimp only
   rw [z0r (by omega), show ((objs.length - j : Nat) : Int) - 1 = ((objs.length - (j + 1) : Nat) : Int) by omega]
   repeat' first
     | (dsimp only [Int.toNat_natCast, List.length_nil])
     | ((with_reducible refine ok_eq (zu1 _ _) ?_))
     | ((with_reducible refine z0z ?_ ?_) <;> intro _ <;> try (exfalso; omega))
     | with_reducible first | refine z0g ?_ | refine z0f ?_ | refine z0c ?_ | refine z0e ?_ | refine z0b ?_ | refine z0h ?_ | refine qs ?_ | refine qb ?_ | refine z0j ?_ | refine qw ?_ | refine z0n ?_ | refine z0k ?_ | refine qi ?_ | refine qg (h := ?_) | refine qx (h := ?_) | refine qy (h := ?_) | refine qa ?_ | refine qc ?_ | refine ql ?_ | refine qp ?_ | refine z0a ?_ | rfl
     | (with_reducible first | refine ok_lt ?_ ?_ | refine ok_le ?_ ?_ | refine z0i ?_ ?_ | refine z0l ?_ ?_ | refine z0m ?_ ?_ | refine qu ?_ ?_ | refine ok_if ?_ ?_) <;> intro _ <;> try (exfalso; omega)
   all_goals first
     | exact ⟨(), rfl, trivial⟩
     | exact ⟨_, by omega, rfl⟩
theorem z1ui {l : List T1} (E : Evs l (z8l l)) : Ok (zpi l) fun r => StOk l (z8l l) (r.1, r.2.2.2.2.2, r.2.1, r.2.2.1, r.2.2.2.1) ∧ r.2.2.2.2.1 = l := by
 have hl := E.len
 unfold zpi
 refine z0j ?_
 refine ok_eq (z1ol l hl) ?_
 refine zbv rfl ?_
 refine z1c (z1pu E) ?_
 rintro ents ⟨h1, h2, h3⟩
 generalize hK : z8l l = K at E h1 h2 ⊢
 rw [h3]
 refine zbv rfl ?_
 refine zbv rfl (zbv rfl (zbv rfl ?_))
 refine z0a (z1o l.length (fun i (a : BldT) => ((i : Int), l, List.replicate 8 0, List.replicate 8 0, List.replicate 8 false, K, ents.1, a.1, a.2.1, a.2.2.1, [], [], a.2.2.2)) (fun i a => BInv l K i a) (List.replicate 8 0, List.replicate 8 false, List.replicate 8 0, []) rfl
   ⟨List.length_replicate .., List.length_replicate .., ztx, Nat.zero_le _, fun o ho => (by cases ho), fun o ho => (by cases ho), fun j hj hlt => (by omega), fun _ => List.nodup_nil⟩ (fun a ha => ?_) fun i a hi ha => ?_)
 · unfold z3o zee
   dsimp only
   repeat' first
     | (dsimp only [Int.toNat_natCast, List.length_nil])
     | ((with_reducible refine z0z ?_ ?_) <;> intro _ <;> try (exfalso; omega))
     | with_reducible first | refine z0g ?_ | refine z0f ?_ | refine z0c ?_ | refine z0e ?_ | refine z0b ?_ | refine z0h ?_ | refine qs ?_ | refine qb ?_ | refine z0j ?_ | refine qw ?_ | refine z0n ?_ | refine z0k ?_ | refine qi ?_ | refine qg (h := ?_) | refine qx (h := ?_) | refine qy (h := ?_) | refine qa ?_ | refine qc ?_ | refine ql ?_ | refine qp ?_ | refine z0a ?_ | rfl
     | (with_reducible first | refine ok_lt ?_ ?_ | refine ok_le ?_ ?_ | refine z0i ?_ ?_ | refine z0l ?_ ?_ | refine z0m ?_ ?_ | refine qu ?_ ?_ | refine ok_if ?_ ?_) <;> intro _ <;> try (exfalso; omega)
   exact ⟨z1qq ha h1 h2, rfl⟩
 · unfold z3o zee
   dsimp only
   have hm := List.getElem_mem hi
   have hrep := E.rep _ hm
   have w1 : W64 (l[i].1.1 - 1) = l[i].1.1 - 1 := z0r (by omega)
   have hlen := ha.len
   have hw := ha.w
   have hr := ha.r
   have hlat := ha.lat
   repeat' first
     | (dsimp only [Int.toNat_natCast, List.length_nil])
     | (simp only [w1])
     | ((with_reducible refine z1c (z1re E _) ?_); rintro ⟨o, x⟩ ⟨⟨o1, o2⟩, o3⟩; have o4 : l = x := o3.symm; subst o4; dsimp only at o1 o2)
     | ((with_reducible refine z1c (z1ss _ _ _ _ _ _ _ _ _ _ _ _ _ _ _ (by omega)) ?_); rintro _ ⟨k, hk, rfl⟩)
     | ((with_reducible refine ok_eq (zkv hlat _) ?_))
     | ((with_reducible refine ok_eq (z1h5 hlat _) ?_))
     | ((with_reducible refine z0z ?_ ?_) <;> intro _ <;> try (exfalso; omega))
     | with_reducible first | refine z0g ?_ | refine z0f ?_ | refine z0c ?_ | refine z0e ?_ | refine z0b ?_ | refine z0h ?_ | refine qs ?_ | refine qb ?_ | refine z0j ?_ | refine qw ?_ | refine z0n ?_ | refine z0k ?_ | refine qi ?_ | refine qg (h := ?_) | refine qx (h := ?_) | refine qy (h := ?_) | refine qa ?_ | refine qc ?_ | refine ql ?_ | refine qp ?_ | refine z0a ?_ | rfl
     | (with_reducible first | refine ok_lt ?_ ?_ | refine ok_le ?_ ?_ | refine z0i ?_ ?_ | refine z0l ?_ ?_ | refine z0m ?_ ?_ | refine qu ?_ ?_ | refine ok_if ?_ ?_) <;> intro _ <;> try (exfalso; omega)
   all_goals first
     | (have hT : ∀ k, List.take (a.2.2.2.length - k) (List.drop k a.2.2.2) = List.drop k a.2.2.2 := fun k => List.take_of_length_le (by simp)
        simp only [hT, List.drop_zero]
        refine ⟨(a.1, a.2.1, a.2.2.1, a.2.2.2.take k ++ ([o] ++ a.2.2.2.drop k)), by rw [z0r (by omega)]; rfl, ?_⟩
        first
          | exact ha.add hi (.inl (by assumption)) o1 o2 k
          | exact ha.add hi (.inr (by assumption)) o1 o2 k)
     | (rw [z0r (by omega)]
        first
          | refine ⟨(a.1, a.2.1, a.2.2.1, a.2.2.2), rfl, ?_⟩
          | refine ⟨(a.1.set (l[i].1.1 - 1).toNat (l[i].2.2.2.2.2.2.2.2.2.2), a.2.1, withV a.2.2.1 l[i].1, a.2.2.2), rfl, ?_⟩
          | refine ⟨(a.1, a.2.1.set (l[i].1.1 - 1).toNat true, a.2.2.1, a.2.2.2), rfl, ?_⟩
          | refine ⟨(a.1.set (l[i].1.1 - 1).toNat (l[i].2.2.2.2.2.2.2.2.2.2), a.2.1.set (l[i].1.1 - 1).toNat true, withV a.2.2.1 l[i].1, a.2.2.2), rfl, ?_⟩
        refine ha.skip hi ?_ ?_ ?_ ?_
        · rintro (h | h) <;> (unfold zft at h; omega)
        · first | exact hw | (rw [List.length_set]; exact hw)
        · first | exact hr | (rw [List.length_set]; exact hr)
        · first | exact hlat | exact zjl hlat _)
theorem z1vw {l : List T1} (E : Evs l (z8l l)) : Ok (zfd l) fun r => StOk l (z8l l) r := by
 obtain ⟨ents, he, _⟩ := z1j6 E
 exact z9a (z1kv E he) fun r h => h.1
end Go.Proofs.Ytfbdjicfkcklfaa
set_option maxRecDepth 100000
set_option linter.unusedSimpArgs false
set_option linter.unusedVariables false
namespace Go.Proofs.Ytfbdjicfkcklfaa
open Go.Tm Go.Ab
theorem z1ij {A B C : Type} {c : Bool} {x : A} {y : B} {f : A → Option C} {g : B → Option C} {Q : C → Prop} (h : c = true → Ok (g y) Q) (k : c = false → Ok (f x) Q) :
   Ok (Sum.elim f g (if c = true then Sum.inr y else Sum.inl x)) Q := by
 cases c with
 | true => exact h rfl
 | false => exact k rfl
theorem z1de {a b : List Int} (ha : VecOk a) (hb : VecOk b) : (List.zip a b).length = 8 := by
 unfold VecOk at *; simp [ha, hb]
def goneV (b base : List Int) : Bool := (List.zip b base).any fun x => decide (0 < x.1 ∧ x.1 ≤ x.2)
theorem z1dn {b base : List Int} (hb : VecOk b) (h : VecOk base) : zrx b base = some (goneV b base) := by
 have hl := z1de hb h
 have hb' : b.length = 8 := hb
 have h' : base.length = 8 := h
 have key := z12l z5m (List.zip b base) (fun i => (b, (i : Int), base)) (fun x => decide (0 < x.1 ∧ x.1 ≤ x.2)) (.inr true) (.inl ())
   (ok_is (by
     rw [hl]
     unfold z5m zjv
     dsimp only
     repeat' first
       | (dsimp only [Int.toNat_natCast, List.length_nil])
       | with_reducible first | refine z0g ?_ | refine z0f ?_ | refine z0c ?_ | refine z0e ?_ | refine z0b ?_ | refine z0h ?_ | refine qs ?_ | refine qb ?_ | refine z0j ?_ | refine qw ?_ | refine z0n ?_ | refine z0k ?_ | refine qi ?_ | refine qg (h := ?_) | refine qx (h := ?_) | refine qy (h := ?_) | refine qa ?_ | refine qc ?_ | refine ql ?_ | refine qp ?_ | refine z0a ?_ | rfl
       | (with_reducible first | refine ok_lt ?_ ?_ | refine ok_le ?_ ?_ | refine z0i ?_ ?_ | refine z0l ?_ ?_ | refine z0m ?_ ?_ | refine qu ?_ ?_ | refine ok_if ?_ ?_) <;> intro _ <;> try (exfalso; omega))) (fun i hi => ok_is (by
     unfold z5m zjv
     dsimp only
     repeat' first
       | (dsimp only [Int.toNat_natCast, List.length_nil])
       | with_reducible first | refine z0g ?_ | refine z0f ?_ | refine z0c ?_ | refine z0e ?_ | refine z0b ?_ | refine z0h ?_ | refine qs ?_ | refine qb ?_ | refine z0j ?_ | refine qw ?_ | refine z0n ?_ | refine z0k ?_ | refine qi ?_ | refine qg (h := ?_) | refine qx (h := ?_) | refine qy (h := ?_) | refine qa ?_ | refine qc ?_ | refine ql ?_ | refine qp ?_ | refine z0a ?_ | rfl
       | (with_reducible first | refine ok_lt ?_ ?_ | refine ok_le ?_ ?_ | refine z0i ?_ ?_ | refine z0l ?_ ?_ | refine z0m ?_ ?_ | refine qu ?_ ?_ | refine ok_if ?_ ?_) <;> intro _ <;> try (exfalso; omega)
     all_goals first
       | rw [if_pos (by simp only [List.getElem_zip, decide_eq_true_eq]; omega)]
       | rw [if_neg (by simp only [List.getElem_zip, decide_eq_true_eq]; omega), z0r (by omega)]; rfl))
 refine ok_is ?_
 unfold zrx
 refine ok_eq key (z1ij (fun e => ?_) fun e => ?_)
 · repeat' first
     | (dsimp only [Int.toNat_natCast, List.length_nil])
     | with_reducible first | refine z0g ?_ | refine z0f ?_ | refine z0c ?_ | refine z0e ?_ | refine z0b ?_ | refine z0h ?_ | refine qs ?_ | refine qb ?_ | refine z0j ?_ | refine qw ?_ | refine z0n ?_ | refine z0k ?_ | refine qi ?_ | refine qg (h := ?_) | refine qx (h := ?_) | refine qy (h := ?_) | refine qa ?_ | refine qc ?_ | refine ql ?_ | refine qp ?_ | refine z0a ?_ | rfl
     | (with_reducible first | refine ok_lt ?_ ?_ | refine ok_le ?_ ?_ | refine z0i ?_ ?_ | refine z0l ?_ ?_ | refine z0m ?_ ?_ | refine qu ?_ ?_ | refine ok_if ?_ ?_) <;> intro _ <;> try (exfalso; omega)
   exact e.symm
 · repeat' first
     | (dsimp only [Int.toNat_natCast, List.length_nil])
     | with_reducible first | refine z0g ?_ | refine z0f ?_ | refine z0c ?_ | refine z0e ?_ | refine z0b ?_ | refine z0h ?_ | refine qs ?_ | refine qb ?_ | refine z0j ?_ | refine qw ?_ | refine z0n ?_ | refine z0k ?_ | refine qi ?_ | refine qg (h := ?_) | refine qx (h := ?_) | refine qy (h := ?_) | refine qa ?_ | refine qc ?_ | refine ql ?_ | refine qp ?_ | refine z0a ?_ | rfl
     | (with_reducible first | refine ok_lt ?_ ?_ | refine ok_le ?_ ?_ | refine z0i ?_ ?_ | refine z0l ?_ ?_ | refine z0m ?_ ?_ | refine qu ?_ ?_ | refine ok_if ?_ ?_) <;> intro _ <;> try (exfalso; omega)
   exact e.symm
def z4q (b : List Int) : Bool := decide (b = List.replicate 8 0)
theorem z1rf {b : List Int} (hb : VecOk b) : z4q b = !b.any fun x => decide (¬ x = 0) := by
 unfold z4q
 rw [Bool.eq_iff_iff]
 simp only [decide_eq_true_eq, Bool.not_eq_true', List.any_eq_false, decide_not, Bool.not_eq_true', decide_eq_false_iff_not, List.eq_replicate_iff, Decidable.not_not]
 exact ⟨fun h => h.2, fun h => ⟨hb, h⟩⟩
theorem z1o7 (x : T2) : zub x = some (z4q x.2.2.2.2) := by
 refine ok_is ?_
 unfold zub
 repeat' first
   | (dsimp only [Int.toNat_natCast, List.length_nil])
   | with_reducible first | refine z0g ?_ | refine z0f ?_ | refine z0c ?_ | refine z0e ?_ | refine z0b ?_ | refine z0h ?_ | refine qs ?_ | refine qb ?_ | refine z0j ?_ | refine qw ?_ | refine z0n ?_ | refine z0k ?_ | refine qi ?_ | refine qg (h := ?_) | refine qx (h := ?_) | refine qy (h := ?_) | refine qa ?_ | refine qc ?_ | refine ql ?_ | refine qp ?_ | refine z0a ?_ | rfl
   | (with_reducible first | refine ok_lt ?_ ?_ | refine ok_le ?_ ?_ | refine z0i ?_ ?_ | refine z0l ?_ ?_ | refine z0m ?_ ?_ | refine qu ?_ ?_ | refine ok_if ?_ ?_) <;> intro _ <;> try (exfalso; omega)
 unfold z4q
 rw [Bool.eq_iff_iff, decide_eq_true_eq]
 exact zix rfl
theorem z1qt (x : T3) : zsj x = some (z4q x.2.2) := z1o7 ((0, 0), (0, 0), [], (0, 0), x.2.2)
theorem z1iz (x : T2) (hb : VecOk x.2.2.2.2) : zok x = some (z4q x.2.2.2.2) := by
 have hb' : x.2.2.2.2.length = 8 := hb
 have key := z12l z4z x.2.2.2.2 (fun i => ((i : Int), x)) (fun x => decide (¬ x = 0)) (.inr false) (.inl ())
   (ok_is (by
     rw [hb']
     unfold z4z zij
     dsimp only
     repeat' first
       | (dsimp only [Int.toNat_natCast, List.length_nil])
       | with_reducible first | refine z0g ?_ | refine z0f ?_ | refine z0c ?_ | refine z0e ?_ | refine z0b ?_ | refine z0h ?_ | refine qs ?_ | refine qb ?_ | refine z0j ?_ | refine qw ?_ | refine z0n ?_ | refine z0k ?_ | refine qi ?_ | refine qg (h := ?_) | refine qx (h := ?_) | refine qy (h := ?_) | refine qa ?_ | refine qc ?_ | refine ql ?_ | refine qp ?_ | refine z0a ?_ | rfl
       | (with_reducible first | refine ok_lt ?_ ?_ | refine ok_le ?_ ?_ | refine z0i ?_ ?_ | refine z0l ?_ ?_ | refine z0m ?_ ?_ | refine qu ?_ ?_ | refine ok_if ?_ ?_) <;> intro _ <;> try (exfalso; omega))) (fun i hi => ok_is (by
     unfold z4z zij
     dsimp only
     repeat' first
       | (dsimp only [Int.toNat_natCast, List.length_nil])
       | with_reducible first | refine z0g ?_ | refine z0f ?_ | refine z0c ?_ | refine z0e ?_ | refine z0b ?_ | refine z0h ?_ | refine qs ?_ | refine qb ?_ | refine z0j ?_ | refine qw ?_ | refine z0n ?_ | refine z0k ?_ | refine qi ?_ | refine qg (h := ?_) | refine qx (h := ?_) | refine qy (h := ?_) | refine qa ?_ | refine qc ?_ | refine ql ?_ | refine qp ?_ | refine z0a ?_ | rfl
       | (with_reducible first | refine ok_lt ?_ ?_ | refine ok_le ?_ ?_ | refine z0i ?_ ?_ | refine z0l ?_ ?_ | refine z0m ?_ ?_ | refine qu ?_ ?_ | refine ok_if ?_ ?_) <;> intro _ <;> try (exfalso; omega)
     all_goals first
       | rw [if_pos (by simp only [decide_eq_true_eq]; omega)]
       | rw [if_neg (by simp only [decide_eq_true_eq]; omega), z0r (by omega)]; rfl))
 refine ok_is ?_
 unfold zok
 rw [z1rf hb]
 refine ok_eq key (z1ij (fun e => ?_) fun e => ?_)
 · repeat' first
     | (dsimp only [Int.toNat_natCast, List.length_nil])
     | with_reducible first | refine z0g ?_ | refine z0f ?_ | refine z0c ?_ | refine z0e ?_ | refine z0b ?_ | refine z0h ?_ | refine qs ?_ | refine qb ?_ | refine z0j ?_ | refine qw ?_ | refine z0n ?_ | refine z0k ?_ | refine qi ?_ | refine qg (h := ?_) | refine qx (h := ?_) | refine qy (h := ?_) | refine qa ?_ | refine qc ?_ | refine ql ?_ | refine qp ?_ | refine z0a ?_ | rfl
     | (with_reducible first | refine ok_lt ?_ ?_ | refine ok_le ?_ ?_ | refine z0i ?_ ?_ | refine z0l ?_ ?_ | refine z0m ?_ ?_ | refine qu ?_ ?_ | refine ok_if ?_ ?_) <;> intro _ <;> try (exfalso; omega)
   rw [e]; rfl
 · repeat' first
     | (dsimp only [Int.toNat_natCast, List.length_nil])
     | with_reducible first | refine z0g ?_ | refine z0f ?_ | refine z0c ?_ | refine z0e ?_ | refine z0b ?_ | refine z0h ?_ | refine qs ?_ | refine qb ?_ | refine z0j ?_ | refine qw ?_ | refine z0n ?_ | refine z0k ?_ | refine qi ?_ | refine qg (h := ?_) | refine qx (h := ?_) | refine qy (h := ?_) | refine qa ?_ | refine qc ?_ | refine ql ?_ | refine qp ?_ | refine z0a ?_ | rfl
     | (with_reducible first | refine ok_lt ?_ ?_ | refine ok_le ?_ ?_ | refine z0i ?_ ?_ | refine z0l ?_ ?_ | refine z0m ?_ ?_ | refine qu ?_ ?_ | refine ok_if ?_ ?_) <;> intro _ <;> try (exfalso; omega)
   rw [e]; rfl
theorem z1uf (x : T3) (hb : VecOk x.2.2) : zxj x = some (z4q x.2.2) := by
 unfold zxj
 rw [z1iz _ hb]; rfl
theorem z1y8 {a b : List Int} (ha : VecOk a) (hb : VecOk b) : z1dl a b = some (leqV a b) := by
 have hl := z1de ha hb
 have ha' : a.length = 8 := ha
 have hb' : b.length = 8 := hb
 have key := z12l z7z (List.zip a b) (fun i => (a, (i : Int), b)) (fun x => !leI x.1 x.2) (.inr false) (.inl ())
   (ok_is (by
     rw [hl]
     unfold z7z zo8
     dsimp only
     repeat' first
       | (dsimp only [Int.toNat_natCast, List.length_nil])
       | with_reducible first | refine z0g ?_ | refine z0f ?_ | refine z0c ?_ | refine z0e ?_ | refine z0b ?_ | refine z0h ?_ | refine qs ?_ | refine qb ?_ | refine z0j ?_ | refine qw ?_ | refine z0n ?_ | refine z0k ?_ | refine qi ?_ | refine qg (h := ?_) | refine qx (h := ?_) | refine qy (h := ?_) | refine qa ?_ | refine qc ?_ | refine ql ?_ | refine qp ?_ | refine z0a ?_ | rfl
       | (with_reducible first | refine ok_lt ?_ ?_ | refine ok_le ?_ ?_ | refine z0i ?_ ?_ | refine z0l ?_ ?_ | refine z0m ?_ ?_ | refine qu ?_ ?_ | refine ok_if ?_ ?_) <;> intro _ <;> try (exfalso; omega))) (fun i hi => ok_is (by
     unfold z7z zo8
     dsimp only
     repeat' first
       | (dsimp only [Int.toNat_natCast, List.length_nil])
       | with_reducible first | refine z0g ?_ | refine z0f ?_ | refine z0c ?_ | refine z0e ?_ | refine z0b ?_ | refine z0h ?_ | refine qs ?_ | refine qb ?_ | refine z0j ?_ | refine qw ?_ | refine z0n ?_ | refine z0k ?_ | refine qi ?_ | refine qg (h := ?_) | refine qx (h := ?_) | refine qy (h := ?_) | refine qa ?_ | refine qc ?_ | refine ql ?_ | refine qp ?_ | refine z0a ?_ | rfl
       | (with_reducible first | refine ok_lt ?_ ?_ | refine ok_le ?_ ?_ | refine z0i ?_ ?_ | refine z0l ?_ ?_ | refine z0m ?_ ?_ | refine qu ?_ ?_ | refine ok_if ?_ ?_) <;> intro _ <;> try (exfalso; omega)
     all_goals first
       | rw [if_pos (by simp only [List.getElem_zip]; rw [leI_f (by omega)]; rfl)]
       | rw [if_neg (by simp only [List.getElem_zip]; rw [leI_t (by omega)]; simp), z0r (by omega)]; rfl))
 refine ok_is ?_
 unfold z1dl
 have hq : leqV a b = !(List.zip a b).any fun x => !leI x.1 x.2 := by unfold leqV; simp [List.all_eq_not_any_not]
 rw [hq]
 refine ok_eq key (z1ij (fun e => ?_) fun e => ?_)
 · repeat' first
     | (dsimp only [Int.toNat_natCast, List.length_nil])
     | with_reducible first | refine z0g ?_ | refine z0f ?_ | refine z0c ?_ | refine z0e ?_ | refine z0b ?_ | refine z0h ?_ | refine qs ?_ | refine qb ?_ | refine z0j ?_ | refine qw ?_ | refine z0n ?_ | refine z0k ?_ | refine qi ?_ | refine qg (h := ?_) | refine qx (h := ?_) | refine qy (h := ?_) | refine qa ?_ | refine qc ?_ | refine ql ?_ | refine qp ?_ | refine z0a ?_ | rfl
     | (with_reducible first | refine ok_lt ?_ ?_ | refine ok_le ?_ ?_ | refine z0i ?_ ?_ | refine z0l ?_ ?_ | refine z0m ?_ ?_ | refine qu ?_ ?_ | refine ok_if ?_ ?_) <;> intro _ <;> try (exfalso; omega)
   rw [e]; rfl
 · repeat' first
     | (dsimp only [Int.toNat_natCast, List.length_nil])
     | with_reducible first | refine z0g ?_ | refine z0f ?_ | refine z0c ?_ | refine z0e ?_ | refine z0b ?_ | refine z0h ?_ | refine qs ?_ | refine qb ?_ | refine z0j ?_ | refine qw ?_ | refine z0n ?_ | refine z0k ?_ | refine qi ?_ | refine qg (h := ?_) | refine qx (h := ?_) | refine qy (h := ?_) | refine qa ?_ | refine qc ?_ | refine ql ?_ | refine qp ?_ | refine z0a ?_ | rfl
     | (with_reducible first | refine ok_lt ?_ ?_ | refine ok_le ?_ ?_ | refine z0i ?_ ?_ | refine z0l ?_ ?_ | refine z0m ?_ ?_ | refine qu ?_ ?_ | refine ok_if ?_ ?_) <;> intro _ <;> try (exfalso; omega)
   rw [e]; rfl
theorem z17b {a b : List Int} (ha : VecOk a) (hb : VecOk b) : leqV a b = true ↔ leV a b := by
 unfold leqV leV
 have hl := z1de ha hb
 unfold VecOk at ha hb
 simp only [List.all_eq_true]
 constructor
 · intro h i hi
   have := h (a[i], b[i]) (by rw [List.mem_iff_getElem]; exact ⟨i, by omega, by simp⟩)
   simp only [leI, decide_eq_true_eq] at this
   simp only [List.getElem?_eq_getElem (show i < a.length by omega), List.getElem?_eq_getElem (show i < b.length by omega), Option.getD_some]
   exact this
 · intro h x hx
   rw [List.mem_iff_getElem] at hx
   obtain ⟨i, hi, rfl⟩ := hx
   have := h i (by omega)
   simp only [List.getElem?_eq_getElem (show i < a.length by omega), List.getElem?_eq_getElem (show i < b.length by omega), Option.getD_some] at this
   simp only [List.getElem_zip]
   exact leI_t this
theorem z1xg {a b : List Int} (ha : a.length = 8) (hb : b.length = 8) {more : Bool} (h : more = true ↔ ∃ j, ∃ h : j < 8, j < 8 ∧ b[j] < a[j]) : leqV a b = !more := by
 rw [Bool.eq_iff_iff, z17b ha hb, Bool.not_eq_true', ← Bool.not_eq_true, h]
 unfold leV
 constructor
 · rintro g ⟨j, h1, _, h2⟩
   have := g j h1
   simp only [List.getElem?_eq_getElem (show j < a.length by omega), List.getElem?_eq_getElem (show j < b.length by omega), Option.getD_some] at this
   omega
 · intro g i hi
   simp only [List.getElem?_eq_getElem (show i < a.length by omega), List.getElem?_eq_getElem (show i < b.length by omega), Option.getD_some]
   exact Int.not_lt.1 fun h => g ⟨i, hi, hi, h⟩
theorem z1w3 {a b : List Int} (ha : VecOk a) (hb : VecOk b) : z12c a b = some (leqV a b) := by
 have ha' : a.length = 8 := ha
 have hb' : b.length = 8 := hb
 refine ok_is ?_
 unfold z12c z13k
 refine z0a (z0a (z1o 8 (fun i (m : Bool × Bool) => (m.1, m.2, (i : Int), a, b)) (fun i m => m.2 = true ↔ ∃ j, ∃ h : j < 8, j < i ∧ b[j] < a[j]) (false, false) rfl ⟨fun h => (by cases h), fun ⟨j, _, h, _⟩ => (by omega)⟩ (fun m hm => ?_) fun i m hi hm => ?_))
 · unfold z5h zgi
   dsimp only
   obtain ⟨less, more⟩ := m
   have hq := z1xg ha' hb' hm
   repeat' first
     | (dsimp only [Int.toNat_natCast, List.length_nil])
     | with_reducible first | refine z0g ?_ | refine z0f ?_ | refine z0c ?_ | refine z0e ?_ | refine z0b ?_ | refine z0h ?_ | refine qs ?_ | refine qb ?_ | refine z0j ?_ | refine qw ?_ | refine z0n ?_ | refine z0k ?_ | refine qi ?_ | refine qg (h := ?_) | refine qx (h := ?_) | refine qy (h := ?_) | refine qa ?_ | refine qc ?_ | refine ql ?_ | refine qp ?_ | refine z0a ?_ | rfl
     | (with_reducible first | refine ok_lt ?_ ?_ | refine ok_le ?_ ?_ | refine z0i ?_ ?_ | refine z0l ?_ ?_ | refine z0m ?_ ?_ | refine qu ?_ ?_ | refine ok_if ?_ ?_) <;> intro _ <;> try (exfalso; omega)
   all_goals first | contradiction | (simp only [Bool.not_eq_true] at *; subst_vars; first | contradiction | (rw [hq]; rfl))
 · unfold z5h zgi
   dsimp only
   obtain ⟨less, more⟩ := m
   have more' : ∀ (c m' : Bool), (m' = true ↔ (more = true ∨ b[i] < a[i])) → ∃ a' : Bool × Bool, (c, m', W64 ((i : Int) + 1), a, b) = (a'.1, a'.2, ((i + 1 : Nat) : Int), a, b) ∧ (a'.2 = true ↔ ∃ j, ∃ h : j < 8, j < i + 1 ∧ b[j] < a[j]) := fun c m' h => by
     refine ⟨(c, m'), by rw [z0r (by omega)]; rfl, ?_⟩
     simp only at hm
     rw [h, hm]
     constructor
     · rintro (⟨j, h1, h2, h3⟩ | h3)
       · exact ⟨j, h1, by omega, h3⟩
       · exact ⟨i, hi, by omega, h3⟩
     · rintro ⟨j, h1, h2, h3⟩
       by_cases e : j = i
       · subst e; exact .inr h3
       · exact .inl ⟨j, h1, by omega, h3⟩
   repeat' first
     | (dsimp only [Int.toNat_natCast, List.length_nil])
     | with_reducible first | refine z0g ?_ | refine z0f ?_ | refine z0c ?_ | refine z0e ?_ | refine z0b ?_ | refine z0h ?_ | refine qs ?_ | refine qb ?_ | refine z0j ?_ | refine qw ?_ | refine z0n ?_ | refine z0k ?_ | refine qi ?_ | refine qg (h := ?_) | refine qx (h := ?_) | refine qy (h := ?_) | refine qa ?_ | refine qc ?_ | refine ql ?_ | refine qp ?_ | refine z0a ?_ | rfl
     | (with_reducible first | refine ok_lt ?_ ?_ | refine ok_le ?_ ?_ | refine z0i ?_ ?_ | refine z0l ?_ ?_ | refine z0m ?_ ?_ | refine qu ?_ ?_ | refine ok_if ?_ ?_) <;> intro _ <;> try (exfalso; omega)
   all_goals (refine more' _ _ ?_; first | (rename_i h; rw [h]; simp) | (rename_i h; rw [Bool.not_eq_true] at h; rw [h]; simp [ltI]))
end Go.Proofs.Ytfbdjicfkcklfaa
set_option maxRecDepth 100000
set_option linter.unusedSimpArgs false
set_option linter.unusedVariables false
namespace Go.Proofs.Ytfbdjicfkcklfaa
open Go.Tm Go.Ab
theorem zy2 {S X α : Type} (F : S → Option (S ⊕ X)) (l : List α) (st : Nat → S) (p : α → Bool) (yes : Nat → X) (no : X) (last : F (st l.length) = some (.inr no))
   (step : ∀ i (hi : i < l.length), F (st i) = some (if p l[i] = true then .inr (yes i) else .inl (st (i + 1)))) :
   Ok (loopC F (st 0)) fun x => (x = no ∧ l.any p = false) ∨ ∃ i, ∃ h : i < l.length, x = yes i ∧ p l[i] = true ∧ (l.take i).any p = false := by
 refine z1o l.length (fun i (_ : Unit) => st i) (fun i _ => (l.take i).any p = false) () rfl rfl (fun _ h => ?_) fun i _ hi h => ?_
 · refine ⟨_, last, .inl ⟨rfl, ?_⟩⟩
   rw [List.take_length] at h
   exact h
 · cases hp : p l[i] with
   | true => exact ⟨_, step i hi, by rw [hp]; exact .inr ⟨i, hi, rfl, hp, h⟩⟩
   | false => exact ⟨_, step i hi, by
       rw [hp]
       exact ⟨(), rfl, by rw [List.take_succ_eq_append_getElem hi, List.any_append, h]; simp [hp]⟩⟩
theorem z1fo {S X α : Type} (F : S → Option (S ⊕ X)) (l : List α) (st : Int → Int → List α → S) (fin : Int → List α → X) (p : α → Bool)
   (last : ∀ (i : Nat) t, t.length = l.length → i ≤ l.length → F (st i l.length t) = some (.inr (fin i t)))
   (step : ∀ (i j : Nat) (t : List α) (ht : t.length = l.length) (hi : i ≤ j) (hj : j < l.length), t[j] = l[j] → F (st i j t) = some (.inl (if p l[j] = true then st i (j + 1 : Nat) t else st (i + 1 : Nat) (j + 1 : Nat) (t.set i l[j])))) (i0 : Nat) (h0 : i0 < l.length) (h1 : p l[i0] = true) (h2 : (l.take i0).any p = false) :
   Ok (loopC F (st i0 (i0 + 1 : Nat) l)) fun x => ∃ (i : Nat) (t : List α), x = fin i t ∧ i ≤ l.length ∧ t.length = l.length ∧ t.take i = l.filter fun x => !p x := by
 refine z1o (l.length - (i0 + 1)) (fun k (a : Nat × List α) => st a.1 (i0 + 1 + k : Nat) a.2) (fun k a => a.1 ≤ i0 + 1 + k ∧ a.2.length = l.length ∧ a.2.take a.1 = (l.take (i0 + 1 + k)).filter (fun x => !p x) ∧ a.2.drop (i0 + 1 + k) = l.drop (i0 + 1 + k)) (i0, l) rfl ⟨by simp only; omega, rfl, ?_, rfl⟩ (fun a ha => ?_) fun k a hk ha => ?_
 · simp only [Nat.add_zero]
   rw [List.take_succ_eq_append_getElem h0, List.filter_append]
   simp only [List.filter_cons, h1, Bool.not_true, Bool.false_eq_true, if_false, List.filter_nil, List.append_nil]
   rw [List.filter_eq_self.2]
   intro x hx
   have := List.any_eq_false.1 h2 x hx
   simpa using this
 · obtain ⟨g1, g2, g3, g4⟩ := ha
   rw [show i0 + 1 + (l.length - (i0 + 1)) = l.length by omega] at g1 g3 ⊢
   exact ⟨_, last a.1 a.2 g2 g1, a.1, a.2, rfl, g1, g2, by rw [g3, List.take_length]⟩
 · obtain ⟨g1, g2, g3, g4⟩ := ha
   have hj : i0 + 1 + k < l.length := by omega
   have e : a.2[i0 + 1 + k] = l[i0 + 1 + k] := by
     have : (a.2.drop (i0 + 1 + k))[0]? = (l.drop (i0 + 1 + k))[0]? := by rw [g4]
     simp only [List.getElem?_drop, Nat.add_zero, List.getElem?_eq_getElem hj, List.getElem?_eq_getElem (show i0 + 1 + k < a.2.length by omega), Option.some.injEq] at this
     exact this
   refine ⟨_, step a.1 _ a.2 g2 g1 hj e, ?_⟩
   cases hp : p l[i0 + 1 + k] with
   | true =>
     rw [if_pos rfl]
     refine ⟨a, rfl, by omega, g2, ?_, ?_⟩
     · rw [g3, show i0 + 1 + (k + 1) = i0 + 1 + k + 1 by omega, List.take_succ_eq_append_getElem hj, List.filter_append]
       simp [hp]
     · have := congrArg (List.drop 1) g4
       rwa [List.drop_drop, List.drop_drop] at this
   | false =>
     rw [if_neg (by simp)]
     refine ⟨(a.1 + 1, a.2.set a.1 l[i0 + 1 + k]), rfl, by simp only; omega, by simp only [List.length_set]; exact g2, ?_, ?_⟩
     · simp only
       rw [show i0 + 1 + (k + 1) = i0 + 1 + k + 1 by omega, List.take_succ_eq_append_getElem hj, List.filter_append, ← g3, List.take_succ_eq_append_getElem (by rw [List.length_set]; omega), List.getElem_set_self, List.take_set_of_le (Nat.le_refl _)]
       simp [hp]
     · simp only
       rw [show i0 + 1 + (k + 1) = i0 + 1 + k + 1 by omega, List.drop_set_of_lt (by omega)]
       have := congrArg (List.drop 1) g4
       rwa [List.drop_drop, List.drop_drop] at this
def DelOk {α : Type} (p : α → Bool) (l : List α) (n : Nat) (t : List α) : Prop := n ≤ t.length ∧ t.length = l.length ∧ t.take n = l.filter fun x => !p x
theorem z17r {α : Type} {p : α → Bool} {l : List α} (h : l.any p = false) : DelOk p l l.length l := by
 refine ⟨Nat.le_refl _, rfl, ?_⟩
 rw [List.take_length, List.filter_eq_self.2]
 intro x hx
 have := List.any_eq_false.1 h x hx
 simpa using this
theorem z1vt {α : Type} {t m : List α} {i k : Nat} (hi : i ≤ t.length) : (cpyL t i k m).take i = t.take i := by
 unfold cpyL
 rw [List.append_assoc, List.take_append_of_le_length (by simp; omega), List.take_take, Nat.min_self]
theorem z14o {α : Type} {t m : List α} {i : Nat} (hi : i ≤ t.length) (hm : m.length = t.length - i) : (cpyL t i (t.length - i) m).length = t.length := by
 unfold cpyL
 simp [hm]; omega
theorem z1d3 {α : Type} {p : α → Bool} {l t m : List α} {i : Nat} (h : i ≤ l.length) (g : t.length = l.length) (k : t.take i = l.filter fun x => !p x) (hm : m.length = t.length - i) : DelOk p l i (cpyL t i (t.length - i) m) :=
 ⟨by rw [z14o (by omega) hm]; omega, by rw [z14o (by omega) hm, g], by rw [z1vt (by omega), k]⟩
theorem z1xq {l : List T2} {del : List Int} (hl : l.length ≤ 2000) (hd : VecOk del) (hv : ∀ x, x ∈ l → VecOk x.2.2.2.2) : Ok (zk5 l del) fun r => (r = -1 ∧ l.any (fun x : T2 => goneV x.2.2.2.2 del) = false) ∨ ∃ i, ∃ h : i < l.length, r = (i : Int) ∧ (fun x : T2 => goneV x.2.2.2.2 del) l[i] = true ∧ (l.take i).any (fun x : T2 => goneV x.2.2.2.2 del) = false := by
 have key := zy2 z3a l (fun i => (l, del, (l.length : Int), (i : Int))) (fun x : T2 => goneV x.2.2.2.2 del) (fun i => .inr (i : Int)) (.inl ())
   (ok_is (by
     unfold z3a zew
     dsimp only
     repeat' first
       | (dsimp only [Int.toNat_natCast, List.length_nil])
       | with_reducible first | refine z0g ?_ | refine z0f ?_ | refine z0c ?_ | refine z0e ?_ | refine z0b ?_ | refine z0h ?_ | refine qs ?_ | refine qb ?_ | refine z0j ?_ | refine qw ?_ | refine z0n ?_ | refine z0k ?_ | refine qi ?_ | refine qg (h := ?_) | refine qx (h := ?_) | refine qy (h := ?_) | refine qa ?_ | refine qc ?_ | refine ql ?_ | refine qp ?_ | refine z0a ?_ | rfl
       | (with_reducible first | refine ok_lt ?_ ?_ | refine ok_le ?_ ?_ | refine z0i ?_ ?_ | refine z0l ?_ ?_ | refine z0m ?_ ?_ | refine qu ?_ ?_ | refine ok_if ?_ ?_) <;> intro _ <;> try (exfalso; omega))) (fun i hi => ok_is (by
     have hm := List.getElem_mem hi
     have hE := (show zex l[i] del = some (goneV l[i].2.2.2.2 del) by unfold zex; rw [z1dn (hv _ hm) hd]; rfl)
     unfold z3a zew
     dsimp only
     repeat' first
       | (dsimp only [Int.toNat_natCast, List.length_nil])
       | ((with_reducible refine ok_eq hE ?_))
       | with_reducible first | refine z0g ?_ | refine z0f ?_ | refine z0c ?_ | refine z0e ?_ | refine z0b ?_ | refine z0h ?_ | refine qs ?_ | refine qb ?_ | refine z0j ?_ | refine qw ?_ | refine z0n ?_ | refine z0k ?_ | refine qi ?_ | refine qg (h := ?_) | refine qx (h := ?_) | refine qy (h := ?_) | refine qa ?_ | refine qc ?_ | refine ql ?_ | refine qp ?_ | refine z0a ?_ | rfl
       | (with_reducible first | refine ok_lt ?_ ?_ | refine ok_le ?_ ?_ | refine z0i ?_ ?_ | refine z0l ?_ ?_ | refine z0m ?_ ?_ | refine qu ?_ ?_ | refine ok_if ?_ ?_) <;> intro _ <;> try (exfalso; omega)
     all_goals first
       | (rename_i e; rw [e]; rfl)
       | (rename_i e; rw [e, z0r (by omega)]; rfl)))
 unfold zk5
 refine z4w (by omega) (z0a (z9a key ?_))
 rintro x (⟨rfl, h⟩ | ⟨i, h, rfl, h1, h2⟩)
 · repeat' first
     | (dsimp only [Int.toNat_natCast, List.length_nil])
     | with_reducible first | refine z0g ?_ | refine z0f ?_ | refine z0c ?_ | refine z0e ?_ | refine z0b ?_ | refine z0h ?_ | refine qs ?_ | refine qb ?_ | refine z0j ?_ | refine qw ?_ | refine z0n ?_ | refine z0k ?_ | refine qi ?_ | refine qg (h := ?_) | refine qx (h := ?_) | refine qy (h := ?_) | refine qa ?_ | refine qc ?_ | refine ql ?_ | refine qp ?_ | refine z0a ?_ | rfl
     | (with_reducible first | refine ok_lt ?_ ?_ | refine ok_le ?_ ?_ | refine z0i ?_ ?_ | refine z0l ?_ ?_ | refine z0m ?_ ?_ | refine qu ?_ ?_ | refine ok_if ?_ ?_) <;> intro _ <;> try (exfalso; omega)
   exact .inl ⟨rfl, h⟩
 · repeat' first
     | (dsimp only [Int.toNat_natCast, List.length_nil])
     | with_reducible first | refine z0g ?_ | refine z0f ?_ | refine z0c ?_ | refine z0e ?_ | refine z0b ?_ | refine z0h ?_ | refine qs ?_ | refine qb ?_ | refine z0j ?_ | refine qw ?_ | refine z0n ?_ | refine z0k ?_ | refine qi ?_ | refine qg (h := ?_) | refine qx (h := ?_) | refine qy (h := ?_) | refine qa ?_ | refine qc ?_ | refine ql ?_ | refine qp ?_ | refine z0a ?_ | rfl
     | (with_reducible first | refine ok_lt ?_ ?_ | refine ok_le ?_ ?_ | refine z0i ?_ ?_ | refine z0l ?_ ?_ | refine z0m ?_ ?_ | refine qu ?_ ?_ | refine ok_if ?_ ?_) <;> intro _ <;> try (exfalso; omega)
   exact .inr ⟨i, h, rfl, h1, h2⟩
theorem z1xb {l : List T2} {del : List Int} (hl : l.length ≤ 2000) (hd : VecOk del) (hv : ∀ x, x ∈ l → VecOk x.2.2.2.2) : Ok (zg5 l del) fun r => ∃ n t, r = (List.replicate n true, t, del) ∧ DelOk (fun x : T2 => goneV x.2.2.2.2 del) l n t := by
 unfold zg5
 repeat' first
   | (dsimp only [Int.toNat_natCast, List.length_nil])
   | ((with_reducible refine z1c (z1xq hl hd hv) ?_); intro r hr)
   | with_reducible first | refine z0g ?_ | refine z0f ?_ | refine z0c ?_ | refine z0e ?_ | refine z0b ?_ | refine z0h ?_ | refine qs ?_ | refine qb ?_ | refine z0j ?_ | refine qw ?_ | refine z0n ?_ | refine z0k ?_ | refine qi ?_ | refine qg (h := ?_) | refine qx (h := ?_) | refine qy (h := ?_) | refine qa ?_ | refine qc ?_ | refine ql ?_ | refine qp ?_ | refine z0a ?_ | rfl
   | (with_reducible first | refine ok_lt ?_ ?_ | refine ok_le ?_ ?_ | refine z0i ?_ ?_ | refine z0l ?_ ?_ | refine z0m ?_ ?_ | refine qu ?_ ?_ | refine ok_if ?_ ?_) <;> intro _ <;> try (exfalso; omega)
 · rename_i e
   rcases hr with ⟨rfl, h⟩ | ⟨i, h, rfl, h1, h2⟩
   · exact ⟨_, _, rfl, z17r h⟩
   · omega
 all_goals
   rename_i e
   rcases hr with ⟨rfl, h⟩ | ⟨i0, h, rfl, h1, h2⟩
   · omega
   rw [z0r (by omega)]
   have key := z1fo z1t l (fun i j t => (i, j, t, del)) (fun i t => (i, t, del)) (fun x : T2 => goneV x.2.2.2.2 del)
     (fun i t ht hi => ok_is (by
       unfold z1t zbc
       dsimp only
       repeat' first
         | (dsimp only [Int.toNat_natCast, List.length_nil])
         | (simp only [zbo])
         | with_reducible first | refine z0g ?_ | refine z0f ?_ | refine z0c ?_ | refine z0e ?_ | refine z0b ?_ | refine z0h ?_ | refine qs ?_ | refine qb ?_ | refine z0j ?_ | refine qw ?_ | refine z0n ?_ | refine z0k ?_ | refine qi ?_ | refine qg (h := ?_) | refine qx (h := ?_) | refine qy (h := ?_) | refine qa ?_ | refine qc ?_ | refine ql ?_ | refine qp ?_ | refine z0a ?_ | rfl
         | (with_reducible first | refine ok_lt ?_ ?_ | refine ok_le ?_ ?_ | refine z0i ?_ ?_ | refine z0l ?_ ?_ | refine z0m ?_ ?_ | refine qu ?_ ?_ | refine ok_if ?_ ?_) <;> intro _ <;> try (exfalso; omega))) (fun i j t ht hi hj e => ok_is (by
       have hm := List.getElem_mem hj
       have hE := (show zex l[j] del = some (goneV l[j].2.2.2.2 del) by unfold zex; rw [z1dn (hv _ hm) hd]; rfl)
       unfold z1t zbc
       dsimp only
       repeat' first
         | (dsimp only [Int.toNat_natCast, List.length_nil])
         | (simp only [zbo])
         | (rw [e])
         | ((with_reducible refine ok_eq hE ?_))
         | (rw [Bool.not_eq_true'])
         | with_reducible first | refine z0g ?_ | refine z0f ?_ | refine z0c ?_ | refine z0e ?_ | refine z0b ?_ | refine z0h ?_ | refine qs ?_ | refine qb ?_ | refine z0j ?_ | refine qw ?_ | refine z0n ?_ | refine z0k ?_ | refine qi ?_ | refine qg (h := ?_) | refine qx (h := ?_) | refine qy (h := ?_) | refine qa ?_ | refine qc ?_ | refine ql ?_ | refine qp ?_ | refine z0a ?_ | rfl
         | (with_reducible first | refine ok_lt ?_ ?_ | refine ok_le ?_ ?_ | refine z0i ?_ ?_ | refine z0l ?_ ?_ | refine z0m ?_ ?_ | refine qu ?_ ?_ | refine ok_if ?_ ?_) <;> intro _ <;> try (exfalso; omega)
       all_goals first
         | (rename_i e; rw [e, z0r (by omega)]; rfl)
         | (rename_i e; rw [e, z0r (by omega), z0r (by omega)]; rfl))) i0 h h1 h2
   refine z9a key ?_
   rintro _ ⟨i, t, rfl, g1, g2, g3⟩
   have hb : addN i (t.length - i) ≤ t.length := by rw [zku]; omega
   repeat' first
     | (dsimp only [Int.toNat_natCast, List.length_nil])
     | (simp only [zbo])
     | ((with_reducible refine zbv (by rw [z14o (by omega) (by simp)]) ?_))
     | ((with_reducible refine z1h7 hb ?_))
     | with_reducible first | refine z0g ?_ | refine z0f ?_ | refine z0c ?_ | refine z0e ?_ | refine z0b ?_ | refine z0h ?_ | refine qs ?_ | refine qb ?_ | refine z0j ?_ | refine qw ?_ | refine z0n ?_ | refine z0k ?_ | refine qi ?_ | refine qg (h := ?_) | refine qx (h := ?_) | refine qy (h := ?_) | refine qa ?_ | refine qc ?_ | refine ql ?_ | refine qp ?_ | refine z0a ?_ | rfl
     | (with_reducible first | refine ok_lt ?_ ?_ | refine ok_le ?_ ?_ | refine z0i ?_ ?_ | refine z0l ?_ ?_ | refine z0m ?_ ?_ | refine qu ?_ ?_ | refine ok_if ?_ ?_) <;> intro _ <;> try (exfalso; omega)
   exact ⟨i, _, rfl, z1d3 g1 g2 g3 (by simp)⟩
theorem z1y6 {l : List T3} {del : List Int} (hl : l.length ≤ 2000) (hd : VecOk del) (hv : ∀ x, x ∈ l → VecOk x.2.2) : Ok (zha l del) fun r => (r = -1 ∧ l.any (fun x : T3 => goneV x.2.2 del) = false) ∨ ∃ i, ∃ h : i < l.length, r = (i : Int) ∧ (fun x : T3 => goneV x.2.2 del) l[i] = true ∧ (l.take i).any (fun x : T3 => goneV x.2.2 del) = false := by
 have key := zy2 z2v l (fun i => (l, del, (l.length : Int), (i : Int))) (fun x : T3 => goneV x.2.2 del) (fun i => .inr (i : Int)) (.inl ())
   (ok_is (by
     unfold z2v zdc
     dsimp only
     repeat' first
       | (dsimp only [Int.toNat_natCast, List.length_nil])
       | with_reducible first | refine z0g ?_ | refine z0f ?_ | refine z0c ?_ | refine z0e ?_ | refine z0b ?_ | refine z0h ?_ | refine qs ?_ | refine qb ?_ | refine z0j ?_ | refine qw ?_ | refine z0n ?_ | refine z0k ?_ | refine qi ?_ | refine qg (h := ?_) | refine qx (h := ?_) | refine qy (h := ?_) | refine qa ?_ | refine qc ?_ | refine ql ?_ | refine qp ?_ | refine z0a ?_ | rfl
       | (with_reducible first | refine ok_lt ?_ ?_ | refine ok_le ?_ ?_ | refine z0i ?_ ?_ | refine z0l ?_ ?_ | refine z0m ?_ ?_ | refine qu ?_ ?_ | refine ok_if ?_ ?_) <;> intro _ <;> try (exfalso; omega))) (fun i hi => ok_is (by
     have hm := List.getElem_mem hi
     have hE := (show zcn l[i] del = some (goneV l[i].2.2 del) by unfold zcn; rw [z1dn (hv _ hm) hd]; rfl)
     unfold z2v zdc
     dsimp only
     repeat' first
       | (dsimp only [Int.toNat_natCast, List.length_nil])
       | ((with_reducible refine ok_eq hE ?_))
       | with_reducible first | refine z0g ?_ | refine z0f ?_ | refine z0c ?_ | refine z0e ?_ | refine z0b ?_ | refine z0h ?_ | refine qs ?_ | refine qb ?_ | refine z0j ?_ | refine qw ?_ | refine z0n ?_ | refine z0k ?_ | refine qi ?_ | refine qg (h := ?_) | refine qx (h := ?_) | refine qy (h := ?_) | refine qa ?_ | refine qc ?_ | refine ql ?_ | refine qp ?_ | refine z0a ?_ | rfl
       | (with_reducible first | refine ok_lt ?_ ?_ | refine ok_le ?_ ?_ | refine z0i ?_ ?_ | refine z0l ?_ ?_ | refine z0m ?_ ?_ | refine qu ?_ ?_ | refine ok_if ?_ ?_) <;> intro _ <;> try (exfalso; omega)
     all_goals first
       | (rename_i e; rw [e]; rfl)
       | (rename_i e; rw [e, z0r (by omega)]; rfl)))
 unfold zha
 refine z4w (by omega) (z0a (z9a key ?_))
 rintro x (⟨rfl, h⟩ | ⟨i, h, rfl, h1, h2⟩)
 · repeat' first
     | (dsimp only [Int.toNat_natCast, List.length_nil])
     | with_reducible first | refine z0g ?_ | refine z0f ?_ | refine z0c ?_ | refine z0e ?_ | refine z0b ?_ | refine z0h ?_ | refine qs ?_ | refine qb ?_ | refine z0j ?_ | refine qw ?_ | refine z0n ?_ | refine z0k ?_ | refine qi ?_ | refine qg (h := ?_) | refine qx (h := ?_) | refine qy (h := ?_) | refine qa ?_ | refine qc ?_ | refine ql ?_ | refine qp ?_ | refine z0a ?_ | rfl
     | (with_reducible first | refine ok_lt ?_ ?_ | refine ok_le ?_ ?_ | refine z0i ?_ ?_ | refine z0l ?_ ?_ | refine z0m ?_ ?_ | refine qu ?_ ?_ | refine ok_if ?_ ?_) <;> intro _ <;> try (exfalso; omega)
   exact .inl ⟨rfl, h⟩
 · repeat' first
     | (dsimp only [Int.toNat_natCast, List.length_nil])
     | with_reducible first | refine z0g ?_ | refine z0f ?_ | refine z0c ?_ | refine z0e ?_ | refine z0b ?_ | refine z0h ?_ | refine qs ?_ | refine qb ?_ | refine z0j ?_ | refine qw ?_ | refine z0n ?_ | refine z0k ?_ | refine qi ?_ | refine qg (h := ?_) | refine qx (h := ?_) | refine qy (h := ?_) | refine qa ?_ | refine qc ?_ | refine ql ?_ | refine qp ?_ | refine z0a ?_ | rfl
     | (with_reducible first | refine ok_lt ?_ ?_ | refine ok_le ?_ ?_ | refine z0i ?_ ?_ | refine z0l ?_ ?_ | refine z0m ?_ ?_ | refine qu ?_ ?_ | refine ok_if ?_ ?_) <;> intro _ <;> try (exfalso; omega)
   exact .inr ⟨i, h, rfl, h1, h2⟩
theorem z1xw {l : List T3} {del : List Int} (hl : l.length ≤ 2000) (hd : VecOk del) (hv : ∀ x, x ∈ l → VecOk x.2.2) : Ok (zg4 l del) fun r => ∃ n t, r = (List.replicate n true, t, del) ∧ DelOk (fun x : T3 => goneV x.2.2 del) l n t := by
 unfold zg4
 repeat' first
   | (dsimp only [Int.toNat_natCast, List.length_nil])
   | ((with_reducible refine z1c (z1y6 hl hd hv) ?_); intro r hr)
   | with_reducible first | refine z0g ?_ | refine z0f ?_ | refine z0c ?_ | refine z0e ?_ | refine z0b ?_ | refine z0h ?_ | refine qs ?_ | refine qb ?_ | refine z0j ?_ | refine qw ?_ | refine z0n ?_ | refine z0k ?_ | refine qi ?_ | refine qg (h := ?_) | refine qx (h := ?_) | refine qy (h := ?_) | refine qa ?_ | refine qc ?_ | refine ql ?_ | refine qp ?_ | refine z0a ?_ | rfl
   | (with_reducible first | refine ok_lt ?_ ?_ | refine ok_le ?_ ?_ | refine z0i ?_ ?_ | refine z0l ?_ ?_ | refine z0m ?_ ?_ | refine qu ?_ ?_ | refine ok_if ?_ ?_) <;> intro _ <;> try (exfalso; omega)
 · rename_i e
   rcases hr with ⟨rfl, h⟩ | ⟨i, h, rfl, h1, h2⟩
   · exact ⟨_, _, rfl, z17r h⟩
   · omega
 all_goals
   rename_i e
   rcases hr with ⟨rfl, h⟩ | ⟨i0, h, rfl, h1, h2⟩
   · omega
   rw [z0r (by omega)]
   have key := z1fo z1v l (fun i j t => (i, j, t, del)) (fun i t => (i, t, del)) (fun x : T3 => goneV x.2.2 del)
     (fun i t ht hi => ok_is (by
       unfold z1v zb4
       dsimp only
       repeat' first
         | (dsimp only [Int.toNat_natCast, List.length_nil])
         | (simp only [zbo])
         | with_reducible first | refine z0g ?_ | refine z0f ?_ | refine z0c ?_ | refine z0e ?_ | refine z0b ?_ | refine z0h ?_ | refine qs ?_ | refine qb ?_ | refine z0j ?_ | refine qw ?_ | refine z0n ?_ | refine z0k ?_ | refine qi ?_ | refine qg (h := ?_) | refine qx (h := ?_) | refine qy (h := ?_) | refine qa ?_ | refine qc ?_ | refine ql ?_ | refine qp ?_ | refine z0a ?_ | rfl
         | (with_reducible first | refine ok_lt ?_ ?_ | refine ok_le ?_ ?_ | refine z0i ?_ ?_ | refine z0l ?_ ?_ | refine z0m ?_ ?_ | refine qu ?_ ?_ | refine ok_if ?_ ?_) <;> intro _ <;> try (exfalso; omega))) (fun i j t ht hi hj e => ok_is (by
       have hm := List.getElem_mem hj
       have hE := (show zcn l[j] del = some (goneV l[j].2.2 del) by unfold zcn; rw [z1dn (hv _ hm) hd]; rfl)
       unfold z1v zb4
       dsimp only
       repeat' first
         | (dsimp only [Int.toNat_natCast, List.length_nil])
         | (simp only [zbo])
         | (rw [e])
         | ((with_reducible refine ok_eq hE ?_))
         | (rw [Bool.not_eq_true'])
         | with_reducible first | refine z0g ?_ | refine z0f ?_ | refine z0c ?_ | refine z0e ?_ | refine z0b ?_ | refine z0h ?_ | refine qs ?_ | refine qb ?_ | refine z0j ?_ | refine qw ?_ | refine z0n ?_ | refine z0k ?_ | refine qi ?_ | refine qg (h := ?_) | refine qx (h := ?_) | refine qy (h := ?_) | refine qa ?_ | refine qc ?_ | refine ql ?_ | refine qp ?_ | refine z0a ?_ | rfl
         | (with_reducible first | refine ok_lt ?_ ?_ | refine ok_le ?_ ?_ | refine z0i ?_ ?_ | refine z0l ?_ ?_ | refine z0m ?_ ?_ | refine qu ?_ ?_ | refine ok_if ?_ ?_) <;> intro _ <;> try (exfalso; omega)
       all_goals first
         | (rename_i e; rw [e, z0r (by omega)]; rfl)
         | (rename_i e; rw [e, z0r (by omega), z0r (by omega)]; rfl))) i0 h h1 h2
   refine z9a key ?_
   rintro _ ⟨i, t, rfl, g1, g2, g3⟩
   have hb : addN i (t.length - i) ≤ t.length := by rw [zku]; omega
   repeat' first
     | (dsimp only [Int.toNat_natCast, List.length_nil])
     | (simp only [zbo])
     | ((with_reducible refine zbv (by rw [z14o (by omega) (by simp)]) ?_))
     | ((with_reducible refine z1h7 hb ?_))
     | with_reducible first | refine z0g ?_ | refine z0f ?_ | refine z0c ?_ | refine z0e ?_ | refine z0b ?_ | refine z0h ?_ | refine qs ?_ | refine qb ?_ | refine z0j ?_ | refine qw ?_ | refine z0n ?_ | refine z0k ?_ | refine qi ?_ | refine qg (h := ?_) | refine qx (h := ?_) | refine qy (h := ?_) | refine qa ?_ | refine qc ?_ | refine ql ?_ | refine qp ?_ | refine z0a ?_ | rfl
     | (with_reducible first | refine ok_lt ?_ ?_ | refine ok_le ?_ ?_ | refine z0i ?_ ?_ | refine z0l ?_ ?_ | refine z0m ?_ ?_ | refine qu ?_ ?_ | refine ok_if ?_ ?_) <;> intro _ <;> try (exfalso; omega)
   exact ⟨i, _, rfl, z1d3 g1 g2 g3 (by simp)⟩
end Go.Proofs.Ytfbdjicfkcklfaa
set_option maxRecDepth 100000
set_option linter.unusedSimpArgs false
set_option linter.unusedVariables false
namespace Go.Proofs.Ytfbdjicfkcklfaa
open Go.Tm Go.Ab
theorem z1ua {l : List T2} (hl : l.length ≤ 2000) : zni l = some l := by
 refine ok_is ?_
 unfold zni
 refine z1mx (fun e => by have := List.eq_nil_of_length_eq_zero e; subst this; rfl) ?_
 repeat' first
   | (dsimp only [Int.toNat_natCast, List.length_nil])
   | with_reducible first | refine z0g ?_ | refine z0f ?_ | refine z0c ?_ | refine z0e ?_ | refine z0b ?_ | refine z0h ?_ | refine qs ?_ | refine qb ?_ | refine z0j ?_ | refine qw ?_ | refine z0n ?_ | refine z0k ?_ | refine qi ?_ | refine qg (h := ?_) | refine qx (h := ?_) | refine qy (h := ?_) | refine qa ?_ | refine qc ?_ | refine ql ?_ | refine qp ?_ | refine z0a ?_ | rfl
   | (with_reducible first | refine ok_lt ?_ ?_ | refine ok_le ?_ ?_ | refine z0i ?_ ?_ | refine z0l ?_ ?_ | refine z0m ?_ ?_ | refine qu ?_ ?_ | refine ok_if ?_ ?_) <;> intro _ <;> try (exfalso; omega)
theorem z1l6 {l : List T3} (hl : l.length ≤ 2000) : zj0 l = some l := by
 refine ok_is ?_
 unfold zj0
 refine z1mx (fun e => by have := List.eq_nil_of_length_eq_zero e; subst this; rfl) ?_
 repeat' first
   | (dsimp only [Int.toNat_natCast, List.length_nil])
   | with_reducible first | refine z0g ?_ | refine z0f ?_ | refine z0c ?_ | refine z0e ?_ | refine z0b ?_ | refine z0h ?_ | refine qs ?_ | refine qb ?_ | refine z0j ?_ | refine qw ?_ | refine z0n ?_ | refine z0k ?_ | refine qi ?_ | refine qg (h := ?_) | refine qx (h := ?_) | refine qy (h := ?_) | refine qa ?_ | refine qc ?_ | refine ql ?_ | refine qp ?_ | refine z0a ?_ | rfl
   | (with_reducible first | refine ok_lt ?_ ?_ | refine ok_le ?_ ?_ | refine z0i ?_ ?_ | refine z0l ?_ ?_ | refine z0m ?_ ?_ | refine qu ?_ ?_ | refine ok_if ?_ ?_) <;> intro _ <;> try (exfalso; omega)
theorem z1u4 {l : List T2} (hl : l.length ≤ 2000) : zn4 l = some (l, l) := by
 refine ok_is ?_
 unfold zn4
 refine z1mx (fun e => by have := List.eq_nil_of_length_eq_zero e; subst this; rfl) ?_
 repeat' first
   | (dsimp only [Int.toNat_natCast, List.length_nil])
   | with_reducible first | refine z0g ?_ | refine z0f ?_ | refine z0c ?_ | refine z0e ?_ | refine z0b ?_ | refine z0h ?_ | refine qs ?_ | refine qb ?_ | refine z0j ?_ | refine qw ?_ | refine z0n ?_ | refine z0k ?_ | refine qi ?_ | refine qg (h := ?_) | refine qx (h := ?_) | refine qy (h := ?_) | refine qa ?_ | refine qc ?_ | refine ql ?_ | refine qp ?_ | refine z0a ?_ | rfl
   | (with_reducible first | refine ok_lt ?_ ?_ | refine ok_le ?_ ?_ | refine z0i ?_ ?_ | refine z0l ?_ ?_ | refine z0m ?_ ?_ | refine qu ?_ ?_ | refine ok_if ?_ ?_) <;> intro _ <;> try (exfalso; omega)
def zz5 (l : List T3) (base : List Int) : List T3 := l.filter fun v => !goneV v.2.2 base
def zsa (l : List T2) (base : List Int) : List T2 := l.filter fun v => !goneV v.2.2.2.2 base
theorem z1uu {l : List T3} {base : List Int} (hl : l.length ≤ 2000) (hb : VecOk base) (hv : ∀ x, x ∈ l → VecOk x.2.2) : zpm l base = some (zz5 l base) := by
 refine ok_is ?_
 unfold zpm
 repeat' first
   | (dsimp only [Int.toNat_natCast, List.length_nil])
   | ((with_reducible refine ok_eq (z1l6 hl) ?_))
   | ((with_reducible refine z1c (z1xw hl hb hv) ?_); rintro _ ⟨n, t, rfl, h1, h2, h3⟩)
   | (simp only [zbo])
   | with_reducible first | refine z0g ?_ | refine z0f ?_ | refine z0c ?_ | refine z0e ?_ | refine z0b ?_ | refine z0h ?_ | refine qs ?_ | refine qb ?_ | refine z0j ?_ | refine qw ?_ | refine z0n ?_ | refine z0k ?_ | refine qi ?_ | refine qg (h := ?_) | refine qx (h := ?_) | refine qy (h := ?_) | refine qa ?_ | refine qc ?_ | refine ql ?_ | refine qp ?_ | refine z0a ?_ | rfl
   | (with_reducible first | refine ok_lt ?_ ?_ | refine ok_le ?_ ?_ | refine z0i ?_ ?_ | refine z0l ?_ ?_ | refine z0m ?_ ?_ | refine qu ?_ ?_ | refine ok_if ?_ ?_) <;> intro _ <;> try (exfalso; omega)
 rw [List.drop_zero, h3]; rfl
theorem z1ts {l : List T2} {base : List Int} (hl : l.length ≤ 2000) (hb : VecOk base) (hv : ∀ x, x ∈ l → VecOk x.2.2.2.2) : Ok (zpl base l) fun r => ∃ n t, r = (List.replicate n true, l, t) ∧ DelOk (fun x : T2 => goneV x.2.2.2.2 base) l n t := by
 unfold zpl
 repeat' first
   | (dsimp only [Int.toNat_natCast, List.length_nil])
   | ((with_reducible refine ok_eq (z1u4 hl) ?_))
   | ((with_reducible refine z1c (z1xb hl hb hv) ?_); rintro _ ⟨n, t, rfl, h⟩)
   | (simp only [zbo])
   | with_reducible first | refine z0g ?_ | refine z0f ?_ | refine z0c ?_ | refine z0e ?_ | refine z0b ?_ | refine z0h ?_ | refine qs ?_ | refine qb ?_ | refine z0j ?_ | refine qw ?_ | refine z0n ?_ | refine z0k ?_ | refine qi ?_ | refine qg (h := ?_) | refine qx (h := ?_) | refine qy (h := ?_) | refine qa ?_ | refine qc ?_ | refine ql ?_ | refine qp ?_ | refine z0a ?_ | rfl
   | (with_reducible first | refine ok_lt ?_ ?_ | refine ok_le ?_ ?_ | refine z0i ?_ ?_ | refine z0l ?_ ?_ | refine z0m ?_ ?_ | refine qu ?_ ?_ | refine ok_if ?_ ?_) <;> intro _ <;> try (exfalso; omega)
 exact ⟨n, t, rfl, h⟩
def z9t (l : List T3) : List T3 := l.filter fun v => z4q v.2.2
theorem z1wj {l : List T3} (hl : l.length ≤ 2000) : zph l = some (z9t l) := by
 refine ok_is ?_
 unfold zph
 refine z4w (by omega) ?_
 repeat' first
   | (dsimp only [Int.toNat_natCast, List.length_nil])
   | with_reducible first | refine z0g ?_ | refine z0f ?_ | refine z0c ?_ | refine z0e ?_ | refine z0b ?_ | refine z0h ?_ | refine qs ?_ | refine qb ?_ | refine z0j ?_ | refine qw ?_ | refine z0n ?_ | refine z0k ?_ | refine qi ?_ | refine qg (h := ?_) | refine qx (h := ?_) | refine qy (h := ?_) | refine qa ?_ | refine qc ?_ | refine ql ?_ | refine qp ?_ | refine z0a ?_ | rfl
   | (with_reducible first | refine ok_lt ?_ ?_ | refine ok_le ?_ ?_ | refine z0i ?_ ?_ | refine z0l ?_ ?_ | refine z0m ?_ ?_ | refine qu ?_ ?_ | refine ok_if ?_ ?_) <;> intro _ <;> try (exfalso; omega)
 refine z1o l.length (fun i (_ : Unit) => (l, (l.length : Int), (i : Int), z9t (l.take i))) (fun _ _ => True) () rfl trivial (fun _ _ => ?_) fun i _ hi _ => ?_
 · unfold z4g zfb
   dsimp only
   repeat' first
     | (dsimp only [Int.toNat_natCast, List.length_nil])
     | with_reducible first | refine z0g ?_ | refine z0f ?_ | refine z0c ?_ | refine z0e ?_ | refine z0b ?_ | refine z0h ?_ | refine qs ?_ | refine qb ?_ | refine z0j ?_ | refine qw ?_ | refine z0n ?_ | refine z0k ?_ | refine qi ?_ | refine qg (h := ?_) | refine qx (h := ?_) | refine qy (h := ?_) | refine qa ?_ | refine qc ?_ | refine ql ?_ | refine qp ?_ | refine z0a ?_ | rfl
     | (with_reducible first | refine ok_lt ?_ ?_ | refine ok_le ?_ ?_ | refine z0i ?_ ?_ | refine z0l ?_ ?_ | refine z0m ?_ ?_ | refine qu ?_ ?_ | refine ok_if ?_ ?_) <;> intro _ <;> try (exfalso; omega)
   rw [List.take_length]
 · unfold z4g zfb
   dsimp only
   have hq : (z9t (l.take i)).length ≤ 2000 := by
     have := List.length_filter_le (fun v : T3 => z4q v.2.2) (l.take i)
     unfold z9t
     simp only [List.length_take] at this
     omega
   have hs : z9t (l.take (i + 1)) = if z4q l[i].2.2 = true then z9t (l.take i) ++ [l[i]] else z9t (l.take i) := by
     unfold z9t
     rw [List.take_succ_eq_append_getElem hi, List.filter_append]
     cases h : z4q l[i].2.2 <;> simp [h]
   repeat' first
     | (dsimp only [Int.toNat_natCast, List.length_nil])
     | ((with_reducible refine ok_eq (z1qt _) ?_))
     | with_reducible first | refine z0g ?_ | refine z0f ?_ | refine z0c ?_ | refine z0e ?_ | refine z0b ?_ | refine z0h ?_ | refine qs ?_ | refine qb ?_ | refine z0j ?_ | refine qw ?_ | refine z0n ?_ | refine z0k ?_ | refine qi ?_ | refine qg (h := ?_) | refine qx (h := ?_) | refine qy (h := ?_) | refine qa ?_ | refine qc ?_ | refine ql ?_ | refine qp ?_ | refine z0a ?_ | rfl
     | (with_reducible first | refine ok_lt ?_ ?_ | refine ok_le ?_ ?_ | refine z0i ?_ ?_ | refine z0l ?_ ?_ | refine z0m ?_ ?_ | refine qu ?_ ?_ | refine ok_if ?_ ?_) <;> intro _ <;> try (exfalso; omega)
   · rename_i e
     rw [if_pos e] at hs
     exact ⟨(), by rw [z0r (by omega), hs]; rfl, trivial⟩
   · rename_i e
     rw [if_neg (by rw [e]; simp)] at hs
     exact ⟨(), by rw [z0r (by omega), hs]; rfl, trivial⟩
theorem z1sd (x : T2) (o : T4) : znb x o = some (decide (x.2.2.2.1 = o.1) || decide (x.2.1 = o.1)) := by
 refine ok_is ?_
 unfold znb
 repeat' first
   | (dsimp only [Int.toNat_natCast, List.length_nil])
   | ((with_reducible refine z0z ?_ ?_) <;> intro _)
   | with_reducible first | refine z0g ?_ | refine z0f ?_ | refine z0c ?_ | refine z0e ?_ | refine z0b ?_ | refine z0h ?_ | refine qs ?_ | refine qb ?_ | refine z0j ?_ | refine qw ?_ | refine z0n ?_ | refine z0k ?_ | refine qi ?_ | refine qg (h := ?_) | refine qx (h := ?_) | refine qy (h := ?_) | refine qa ?_ | refine qc ?_ | refine ql ?_ | refine qp ?_ | refine z0a ?_ | rfl
   | (with_reducible first | refine ok_lt ?_ ?_ | refine ok_le ?_ ?_ | refine z0i ?_ ?_ | refine z0l ?_ ?_ | refine z0m ?_ ?_ | refine qu ?_ ?_ | refine ok_if ?_ ?_) <;> intro _ <;> try (exfalso; omega)
 · rename_i e; simp [e]
 · rename_i e
   rw [decide_eq_false e, Bool.false_or, Bool.eq_iff_iff, decide_eq_true_eq]
   exact zix rfl
theorem z1xp {l : List T3} {del : List Int} (hl : l.length ≤ 2000) (hd : VecOk del) : Ok (zgw l del) fun r => (r = -1 ∧ l.any (fun x : T3 => !hasV del x.1) = false) ∨ ∃ i, ∃ h : i < l.length, r = (i : Int) ∧ (fun x : T3 => !hasV del x.1) l[i] = true ∧ (l.take i).any (fun x : T3 => !hasV del x.1) = false := by
 have key := zy2 z2q l (fun i => (l, del, (l.length : Int), (i : Int))) (fun x : T3 => !hasV del x.1) (fun i => .inr (i : Int)) (.inl ())
   (ok_is (by
     unfold z2q zdh
     dsimp only
     repeat' first
       | (dsimp only [Int.toNat_natCast, List.length_nil])
       | with_reducible first | refine z0g ?_ | refine z0f ?_ | refine z0c ?_ | refine z0e ?_ | refine z0b ?_ | refine z0h ?_ | refine qs ?_ | refine qb ?_ | refine z0j ?_ | refine qw ?_ | refine z0n ?_ | refine z0k ?_ | refine qi ?_ | refine qg (h := ?_) | refine qx (h := ?_) | refine qy (h := ?_) | refine qa ?_ | refine qc ?_ | refine ql ?_ | refine qp ?_ | refine z0a ?_ | rfl
       | (with_reducible first | refine ok_lt ?_ ?_ | refine ok_le ?_ ?_ | refine z0i ?_ ?_ | refine z0l ?_ ?_ | refine z0m ?_ ?_ | refine qu ?_ ?_ | refine ok_if ?_ ?_) <;> intro _ <;> try (exfalso; omega))) (fun i hi => ok_is (by
     have hm := List.getElem_mem hi
     have hE := (show zjn l[i] del = some (!hasV del l[i].1) by unfold zjn; rw [z1ki hd]; rfl)
     unfold z2q zdh
     dsimp only
     repeat' first
       | (dsimp only [Int.toNat_natCast, List.length_nil])
       | ((with_reducible refine ok_eq hE ?_))
       | with_reducible first | refine z0g ?_ | refine z0f ?_ | refine z0c ?_ | refine z0e ?_ | refine z0b ?_ | refine z0h ?_ | refine qs ?_ | refine qb ?_ | refine z0j ?_ | refine qw ?_ | refine z0n ?_ | refine z0k ?_ | refine qi ?_ | refine qg (h := ?_) | refine qx (h := ?_) | refine qy (h := ?_) | refine qa ?_ | refine qc ?_ | refine ql ?_ | refine qp ?_ | refine z0a ?_ | rfl
       | (with_reducible first | refine ok_lt ?_ ?_ | refine ok_le ?_ ?_ | refine z0i ?_ ?_ | refine z0l ?_ ?_ | refine z0m ?_ ?_ | refine qu ?_ ?_ | refine ok_if ?_ ?_) <;> intro _ <;> try (exfalso; omega)
     all_goals first
       | (rename_i e; rw [e]; rfl)
       | (rename_i e; rw [e, z0r (by omega)]; rfl)))
 unfold zgw
 refine z4w (by omega) (z0a (z9a key ?_))
 rintro x (⟨rfl, h⟩ | ⟨i, h, rfl, h1, h2⟩)
 · repeat' first
     | (dsimp only [Int.toNat_natCast, List.length_nil])
     | with_reducible first | refine z0g ?_ | refine z0f ?_ | refine z0c ?_ | refine z0e ?_ | refine z0b ?_ | refine z0h ?_ | refine qs ?_ | refine qb ?_ | refine z0j ?_ | refine qw ?_ | refine z0n ?_ | refine z0k ?_ | refine qi ?_ | refine qg (h := ?_) | refine qx (h := ?_) | refine qy (h := ?_) | refine qa ?_ | refine qc ?_ | refine ql ?_ | refine qp ?_ | refine z0a ?_ | rfl
     | (with_reducible first | refine ok_lt ?_ ?_ | refine ok_le ?_ ?_ | refine z0i ?_ ?_ | refine z0l ?_ ?_ | refine z0m ?_ ?_ | refine qu ?_ ?_ | refine ok_if ?_ ?_) <;> intro _ <;> try (exfalso; omega)
   exact .inl ⟨rfl, h⟩
 · repeat' first
     | (dsimp only [Int.toNat_natCast, List.length_nil])
     | with_reducible first | refine z0g ?_ | refine z0f ?_ | refine z0c ?_ | refine z0e ?_ | refine z0b ?_ | refine z0h ?_ | refine qs ?_ | refine qb ?_ | refine z0j ?_ | refine qw ?_ | refine z0n ?_ | refine z0k ?_ | refine qi ?_ | refine qg (h := ?_) | refine qx (h := ?_) | refine qy (h := ?_) | refine qa ?_ | refine qc ?_ | refine ql ?_ | refine qp ?_ | refine z0a ?_ | rfl
     | (with_reducible first | refine ok_lt ?_ ?_ | refine ok_le ?_ ?_ | refine z0i ?_ ?_ | refine z0l ?_ ?_ | refine z0m ?_ ?_ | refine qu ?_ ?_ | refine ok_if ?_ ?_) <;> intro _ <;> try (exfalso; omega)
   exact .inr ⟨i, h, rfl, h1, h2⟩
theorem z1xa {l : List T2} {del : T4} (hl : l.length ≤ 2000) : Ok (zhf l del) fun r => (r = -1 ∧ l.any (fun x : T2 => decide (x.2.2.2.1 = del.1) || decide (x.2.1 = del.1)) = false) ∨ ∃ i, ∃ h : i < l.length, r = (i : Int) ∧ (fun x : T2 => decide (x.2.2.2.1 = del.1) || decide (x.2.1 = del.1)) l[i] = true ∧ (l.take i).any (fun x : T2 => decide (x.2.2.2.1 = del.1) || decide (x.2.1 = del.1)) = false := by
 have key := zy2 z2r l (fun i => (l, del, (l.length : Int), (i : Int))) (fun x : T2 => decide (x.2.2.2.1 = del.1) || decide (x.2.1 = del.1)) (fun i => .inr (i : Int)) (.inl ())
   (ok_is (by
     unfold z2r zdi
     dsimp only
     repeat' first
       | (dsimp only [Int.toNat_natCast, List.length_nil])
       | with_reducible first | refine z0g ?_ | refine z0f ?_ | refine z0c ?_ | refine z0e ?_ | refine z0b ?_ | refine z0h ?_ | refine qs ?_ | refine qb ?_ | refine z0j ?_ | refine qw ?_ | refine z0n ?_ | refine z0k ?_ | refine qi ?_ | refine qg (h := ?_) | refine qx (h := ?_) | refine qy (h := ?_) | refine qa ?_ | refine qc ?_ | refine ql ?_ | refine qp ?_ | refine z0a ?_ | rfl
       | (with_reducible first | refine ok_lt ?_ ?_ | refine ok_le ?_ ?_ | refine z0i ?_ ?_ | refine z0l ?_ ?_ | refine z0m ?_ ?_ | refine qu ?_ ?_ | refine ok_if ?_ ?_) <;> intro _ <;> try (exfalso; omega))) (fun i hi => ok_is (by
     have hm := List.getElem_mem hi
     have hE := z1sd l[i] del
     unfold z2r zdi
     dsimp only
     repeat' first
       | (dsimp only [Int.toNat_natCast, List.length_nil])
       | ((with_reducible refine ok_eq hE ?_))
       | with_reducible first | refine z0g ?_ | refine z0f ?_ | refine z0c ?_ | refine z0e ?_ | refine z0b ?_ | refine z0h ?_ | refine qs ?_ | refine qb ?_ | refine z0j ?_ | refine qw ?_ | refine z0n ?_ | refine z0k ?_ | refine qi ?_ | refine qg (h := ?_) | refine qx (h := ?_) | refine qy (h := ?_) | refine qa ?_ | refine qc ?_ | refine ql ?_ | refine qp ?_ | refine z0a ?_ | rfl
       | (with_reducible first | refine ok_lt ?_ ?_ | refine ok_le ?_ ?_ | refine z0i ?_ ?_ | refine z0l ?_ ?_ | refine z0m ?_ ?_ | refine qu ?_ ?_ | refine ok_if ?_ ?_) <;> intro _ <;> try (exfalso; omega)
     all_goals first
       | (rename_i e; rw [e]; rfl)
       | (rename_i e; rw [e, z0r (by omega)]; rfl)))
 unfold zhf
 refine z4w (by omega) (z0a (z9a key ?_))
 rintro x (⟨rfl, h⟩ | ⟨i, h, rfl, h1, h2⟩)
 · repeat' first
     | (dsimp only [Int.toNat_natCast, List.length_nil])
     | with_reducible first | refine z0g ?_ | refine z0f ?_ | refine z0c ?_ | refine z0e ?_ | refine z0b ?_ | refine z0h ?_ | refine qs ?_ | refine qb ?_ | refine z0j ?_ | refine qw ?_ | refine z0n ?_ | refine z0k ?_ | refine qi ?_ | refine qg (h := ?_) | refine qx (h := ?_) | refine qy (h := ?_) | refine qa ?_ | refine qc ?_ | refine ql ?_ | refine qp ?_ | refine z0a ?_ | rfl
     | (with_reducible first | refine ok_lt ?_ ?_ | refine ok_le ?_ ?_ | refine z0i ?_ ?_ | refine z0l ?_ ?_ | refine z0m ?_ ?_ | refine qu ?_ ?_ | refine ok_if ?_ ?_) <;> intro _ <;> try (exfalso; omega)
   exact .inl ⟨rfl, h⟩
 · repeat' first
     | (dsimp only [Int.toNat_natCast, List.length_nil])
     | with_reducible first | refine z0g ?_ | refine z0f ?_ | refine z0c ?_ | refine z0e ?_ | refine z0b ?_ | refine z0h ?_ | refine qs ?_ | refine qb ?_ | refine z0j ?_ | refine qw ?_ | refine z0n ?_ | refine z0k ?_ | refine qi ?_ | refine qg (h := ?_) | refine qx (h := ?_) | refine qy (h := ?_) | refine qa ?_ | refine qc ?_ | refine ql ?_ | refine qp ?_ | refine z0a ?_ | rfl
     | (with_reducible first | refine ok_lt ?_ ?_ | refine ok_le ?_ ?_ | refine z0i ?_ ?_ | refine z0l ?_ ?_ | refine z0m ?_ ?_ | refine qu ?_ ?_ | refine ok_if ?_ ?_) <;> intro _ <;> try (exfalso; omega)
   exact .inr ⟨i, h, rfl, h1, h2⟩
theorem z1hs {α : Type} {p : α → Bool} {l : List α} {r : Int} (h : (r = -1 ∧ l.any p = false) ∨ ∃ i, ∃ h : i < l.length, r = (i : Int) ∧ p l[i] = true ∧ (l.take i).any p = false) : leI 0 r = l.any p := by
 rcases h with ⟨rfl, h⟩ | ⟨i, h, rfl, h1, _⟩
 · rw [h]; rfl
 · rw [leI_t (by omega), Eq.comm, List.any_eq_true]
   exact ⟨_, List.getElem_mem h, h1⟩
def z1qf (l : List T3) (seen : List Int) : Bool := (z9t l).any fun x => !hasV seen x.1
theorem z17d (l : List T3) : (z9t l).length ≤ l.length := List.length_filter_le ..
theorem z1tq {l : List T3} {seen : List Int} (hl : l.length ≤ 2000) (hs : VecOk seen) : zn2 l seen = some (z1qf l seen) := by
 refine ok_is ?_
 have := z17d l
 unfold zn2 zkz
 repeat' first
   | (dsimp only [Int.toNat_natCast, List.length_nil])
   | ((with_reducible refine ok_eq (z1wj hl) ?_))
   | ((with_reducible refine z1c (z1xp (show (z9t l).length ≤ 2000 by omega) hs) ?_); intro r hr)
   | with_reducible first | refine z0g ?_ | refine z0f ?_ | refine z0c ?_ | refine z0e ?_ | refine z0b ?_ | refine z0h ?_ | refine qs ?_ | refine qb ?_ | refine z0j ?_ | refine qw ?_ | refine z0n ?_ | refine z0k ?_ | refine qi ?_ | refine qg (h := ?_) | refine qx (h := ?_) | refine qy (h := ?_) | refine qa ?_ | refine qc ?_ | refine ql ?_ | refine qp ?_ | refine z0a ?_ | rfl
   | (with_reducible first | refine ok_lt ?_ ?_ | refine ok_le ?_ ?_ | refine z0i ?_ ?_ | refine z0l ?_ ?_ | refine z0m ?_ ?_ | refine qu ?_ ?_ | refine ok_if ?_ ?_) <;> intro _ <;> try (exfalso; omega)
 exact z1hs hr
def usesV (ents : List T2) (o : T4) : Bool := ents.any fun x : T2 => decide (x.2.2.2.1 = o.1) || decide (x.2.1 = o.1)
theorem z1xj {l : List T2} {o : T4} (hl : l.length ≤ 2000) : zej l o = some (usesV l o) := by
 refine ok_is ?_
 unfold zej
 repeat' first
   | (dsimp only [Int.toNat_natCast, List.length_nil])
   | ((with_reducible refine z1c (z1xa hl) ?_); intro r hr)
   | with_reducible first | refine z0g ?_ | refine z0f ?_ | refine z0c ?_ | refine z0e ?_ | refine z0b ?_ | refine z0h ?_ | refine qs ?_ | refine qb ?_ | refine z0j ?_ | refine qw ?_ | refine z0n ?_ | refine z0k ?_ | refine qi ?_ | refine qg (h := ?_) | refine qx (h := ?_) | refine qy (h := ?_) | refine qa ?_ | refine qc ?_ | refine ql ?_ | refine qp ?_ | refine z0a ?_ | rfl
   | (with_reducible first | refine ok_lt ?_ ?_ | refine ok_le ?_ ?_ | refine z0i ?_ ?_ | refine z0l ?_ ?_ | refine z0m ?_ ?_ | refine qu ?_ ?_ | refine ok_if ?_ ?_) <;> intro _ <;> try (exfalso; omega)
 exact z1hs hr
def z8y (ents : List T2) (o : T4) (base : List Int) : Bool :=
 !hasV base o.1 || (!leqV o.2.2.2.2.1 base || (z1qf o.2.2.2.2.2 o.2.2.2.2.1 || (o.2.2.2.2.2.any (fun v => !hasV base v.1) || usesV ents o)))
structure SmO (o : T4) : Prop where
 seen : VecOk o.2.2.2.2.1
 len : o.2.2.2.2.2.length ≤ 1000
 vers : ∀ v, v ∈ o.2.2.2.2.2 → VecOk v.2.2
theorem z1lr {t : T5} {o : T4} {base : List Int} (ht : t.2.2.1.length ≤ 1000) (ho : SmO o) (hb : VecOk base) : zma t o base = some (z8y t.2.2.1 o base) := by
 refine ok_is ?_
 have hlen := ho.len
 have key := z12l z3n o.2.2.2.2.2 (fun i => (o.2.2.2.2.2, (o.2.2.2.2.2.length : Int), (i : Int), t, o, base)) (fun v => !hasV base v.1) (.inr true) (.inl (t, o))
   (ok_is (by
     unfold z3n zfw
     dsimp only
     repeat' first
       | (dsimp only [Int.toNat_natCast, List.length_nil])
       | with_reducible first | refine z0g ?_ | refine z0f ?_ | refine z0c ?_ | refine z0e ?_ | refine z0b ?_ | refine z0h ?_ | refine qs ?_ | refine qb ?_ | refine z0j ?_ | refine qw ?_ | refine z0n ?_ | refine z0k ?_ | refine qi ?_ | refine qg (h := ?_) | refine qx (h := ?_) | refine qy (h := ?_) | refine qa ?_ | refine qc ?_ | refine ql ?_ | refine qp ?_ | refine z0a ?_ | rfl
       | (with_reducible first | refine ok_lt ?_ ?_ | refine ok_le ?_ ?_ | refine z0i ?_ ?_ | refine z0l ?_ ?_ | refine z0m ?_ ?_ | refine qu ?_ ?_ | refine ok_if ?_ ?_) <;> intro _ <;> try (exfalso; omega))) (fun i hi => ok_is (by
     unfold z3n zfw
     dsimp only
     repeat' first
       | (dsimp only [Int.toNat_natCast, List.length_nil])
       | ((with_reducible refine ok_eq (z1ki hb _) ?_))
       | with_reducible first | refine z0g ?_ | refine z0f ?_ | refine z0c ?_ | refine z0e ?_ | refine z0b ?_ | refine z0h ?_ | refine qs ?_ | refine qb ?_ | refine z0j ?_ | refine qw ?_ | refine z0n ?_ | refine z0k ?_ | refine qi ?_ | refine qg (h := ?_) | refine qx (h := ?_) | refine qy (h := ?_) | refine qa ?_ | refine qc ?_ | refine ql ?_ | refine qp ?_ | refine z0a ?_ | rfl
       | (with_reducible first | refine ok_lt ?_ ?_ | refine ok_le ?_ ?_ | refine z0i ?_ ?_ | refine z0l ?_ ?_ | refine z0m ?_ ?_ | refine qu ?_ ?_ | refine ok_if ?_ ?_) <;> intro _ <;> try (exfalso; omega)
     all_goals first
       | (rename_i e; rw [e, z0r (by omega)]; rfl)
       | (rename_i e; rw [e]; rfl)))
 unfold zma z8y
 repeat' first
   | (dsimp only [Int.toNat_natCast, List.length_nil])
   | ((with_reducible refine ok_eq (z1ki hb _) ?_))
   | ((with_reducible refine ok_eq (z1y8 ho.seen hb) ?_))
   | ((with_reducible refine ok_eq (z1tq (by omega) ho.seen) ?_))
   | ((with_reducible refine ok_eq key (z1ij (fun e => ?_) fun e => ?_)))
   | ((with_reducible refine ok_eq (z1xj (by omega)) ?_))
   | with_reducible first | refine z0g ?_ | refine z0f ?_ | refine z0c ?_ | refine z0e ?_ | refine z0b ?_ | refine z0h ?_ | refine qs ?_ | refine qb ?_ | refine z0j ?_ | refine qw ?_ | refine z0n ?_ | refine z0k ?_ | refine qi ?_ | refine qg (h := ?_) | refine qx (h := ?_) | refine qy (h := ?_) | refine qa ?_ | refine qc ?_ | refine ql ?_ | refine qp ?_ | refine z0a ?_ | rfl
   | (with_reducible first | refine ok_lt ?_ ?_ | refine ok_le ?_ ?_ | refine z0i ?_ ?_ | refine z0l ?_ ?_ | refine z0m ?_ ?_ | refine qu ?_ ?_ | refine ok_if ?_ ?_) <;> intro _ <;> try (exfalso; omega)
 all_goals simp only [*, Bool.not_true, Bool.not_false, Bool.false_or, Bool.true_or]
end Go.Proofs.Ytfbdjicfkcklfaa