import Derived.Test.YtfbdjicfkcklfaaSwEtoI
set_option maxRecDepth 100000
set_option linter.unusedSimpArgs false
set_option linter.unusedVariables false
namespace Go.Proofs.Ytfbdjicfkcklfaa
open Go.Tm Go.Ab
theorem z1e1 (x : T4) (k : List Int) (os : List T4) (es : List T2) (w : List Int) (r : List Bool) (base : List Int) (he : es.length ≤ 1000) (hx : SmO x) (hb : VecOk base) : zgn x k os es w r base = some (!z3c es x base) := by
 unfold zgn
 rw [z1ke (t := (k, os, es, w, r)) he hx hb]; rfl
theorem z1x7 {l : List T4} {k : List Int} {os : List T4} {es : List T2} {w : List Int} {rt : List Bool} {base : List Int} (hl : l.length ≤ 2000) (he : es.length ≤ 1000) (hx : ∀ x, x ∈ l → SmO x) (hb : VecOk base) : Ok (zgj l k os es w rt base) fun r => (r = -1 ∧ l.any (fun x : T4 => !z3c es x base) = false) ∨ ∃ i, ∃ h : i < l.length, r = (i : Int) ∧ (fun x : T4 => !z3c es x base) l[i] = true ∧ (l.take i).any (fun x : T4 => !z3c es x base) = false := by
 have key := zz6 z2o l (fun i => (l, k, os, es, w, rt, base, (l.length : Int), (i : Int))) (fun x : T4 => !z3c es x base) (fun i => .inr (i : Int)) (.inl ())
   (ok_is (by
     unfold z2o zd1
     dsimp only
     repeat' first
       | (dsimp only [Int.toNat_natCast, List.length_nil])
       | with_reducible first | refine z0f ?_ | refine z0g ?_ | refine z0d ?_ | refine z0e ?_ | refine z0b ?_ | refine z0i ?_ | refine qs ?_ | refine qb ?_ | refine z0j ?_ | refine qw ?_ | refine z0n ?_ | refine z0l ?_ | refine qi ?_ | refine qg (h := ?_) | refine qx (h := ?_) | refine qy (h := ?_) | refine qa ?_ | refine qc ?_ | refine ql ?_ | refine qp ?_ | refine z0a ?_ | rfl
       | (with_reducible first | refine ok_lt ?_ ?_ | refine ok_le ?_ ?_ | refine z0h ?_ ?_ | refine z0k ?_ ?_ | refine z0m ?_ ?_ | refine qu ?_ ?_ | refine ok_if ?_ ?_) <;> intro _ <;> try (exfalso; omega))) (fun i hi => ok_is (by
     have hm := List.getElem_mem hi
     have hE := z1e1 l[i] k os es w rt base he (hx _ hm) hb
     unfold z2o zd1
     dsimp only
     repeat' first
       | (dsimp only [Int.toNat_natCast, List.length_nil])
       | ((with_reducible refine ok_eq hE ?_))
       | with_reducible first | refine z0f ?_ | refine z0g ?_ | refine z0d ?_ | refine z0e ?_ | refine z0b ?_ | refine z0i ?_ | refine qs ?_ | refine qb ?_ | refine z0j ?_ | refine qw ?_ | refine z0n ?_ | refine z0l ?_ | refine qi ?_ | refine qg (h := ?_) | refine qx (h := ?_) | refine qy (h := ?_) | refine qa ?_ | refine qc ?_ | refine ql ?_ | refine qp ?_ | refine z0a ?_ | rfl
       | (with_reducible first | refine ok_lt ?_ ?_ | refine ok_le ?_ ?_ | refine z0h ?_ ?_ | refine z0k ?_ ?_ | refine z0m ?_ ?_ | refine qu ?_ ?_ | refine ok_if ?_ ?_) <;> intro _ <;> try (exfalso; omega)
     all_goals first
       | (rename_i e; rw [e]; rfl)
       | (rename_i e; rw [e, z0r (by omega)]; rfl)))
 unfold zgj
 refine z8t (by omega) (z0a (z8o key ?_))
 rintro x (⟨rfl, h⟩ | ⟨i, h, rfl, h1, h2⟩)
 · repeat' first
     | (dsimp only [Int.toNat_natCast, List.length_nil])
     | with_reducible first | refine z0f ?_ | refine z0g ?_ | refine z0d ?_ | refine z0e ?_ | refine z0b ?_ | refine z0i ?_ | refine qs ?_ | refine qb ?_ | refine z0j ?_ | refine qw ?_ | refine z0n ?_ | refine z0l ?_ | refine qi ?_ | refine qg (h := ?_) | refine qx (h := ?_) | refine qy (h := ?_) | refine qa ?_ | refine qc ?_ | refine ql ?_ | refine qp ?_ | refine z0a ?_ | rfl
     | (with_reducible first | refine ok_lt ?_ ?_ | refine ok_le ?_ ?_ | refine z0h ?_ ?_ | refine z0k ?_ ?_ | refine z0m ?_ ?_ | refine qu ?_ ?_ | refine ok_if ?_ ?_) <;> intro _ <;> try (exfalso; omega)
   exact .inl ⟨rfl, h⟩
 · repeat' first
     | (dsimp only [Int.toNat_natCast, List.length_nil])
     | with_reducible first | refine z0f ?_ | refine z0g ?_ | refine z0d ?_ | refine z0e ?_ | refine z0b ?_ | refine z0i ?_ | refine qs ?_ | refine qb ?_ | refine z0j ?_ | refine qw ?_ | refine z0n ?_ | refine z0l ?_ | refine qi ?_ | refine qg (h := ?_) | refine qx (h := ?_) | refine qy (h := ?_) | refine qa ?_ | refine qc ?_ | refine ql ?_ | refine qp ?_ | refine z0a ?_ | rfl
     | (with_reducible first | refine ok_lt ?_ ?_ | refine ok_le ?_ ?_ | refine z0h ?_ ?_ | refine z0k ?_ ?_ | refine z0m ?_ ?_ | refine qu ?_ ?_ | refine ok_if ?_ ?_) <;> intro _ <;> try (exfalso; omega)
   exact .inr ⟨i, h, rfl, h1, h2⟩
theorem z1xp {l : List T4} {m : Nat} {k : List Int} {es : List T2} {w : List Int} {rt : List Bool} {base : List Int} (hl : l.length ≤ 1000) (hm0 : m ≤ es.length) (he : es.length ≤ 1000) (hx : ∀ x, x ∈ l → SmO x) (hb : VecOk base) :
   Ok (zfe l k (List.replicate m true) w rt base es) fun r => ∃ n t, r = (List.replicate n true, t, k, List.replicate m true, w, rt, base, es) ∧ DelOk (fun x : T4 => !z3c (es.take m) x base) l n t := by
 have he' : (es.take m).length ≤ 1000 := by simp; omega
 unfold zfe
 repeat' first
   | (dsimp only [Int.toNat_natCast, List.length_nil])
   | (simp only [zbc, List.drop_zero])
   | ((with_reducible refine z1f (z1x7 (by omega) he' hx hb) ?_); intro r hr)
   | with_reducible first | refine z0f ?_ | refine z0g ?_ | refine z0d ?_ | refine z0e ?_ | refine z0b ?_ | refine z0i ?_ | refine qs ?_ | refine qb ?_ | refine z0j ?_ | refine qw ?_ | refine z0n ?_ | refine z0l ?_ | refine qi ?_ | refine qg (h := ?_) | refine qx (h := ?_) | refine qy (h := ?_) | refine qa ?_ | refine qc ?_ | refine ql ?_ | refine qp ?_ | refine z0a ?_ | rfl
   | (with_reducible first | refine ok_lt ?_ ?_ | refine ok_le ?_ ?_ | refine z0h ?_ ?_ | refine z0k ?_ ?_ | refine z0m ?_ ?_ | refine qu ?_ ?_ | refine ok_if ?_ ?_) <;> intro _ <;> try (exfalso; omega)
 · rename_i e
   rcases hr with ⟨rfl, h⟩ | ⟨i, h, rfl, h1, h2⟩
   · exact ⟨_, _, rfl, z16y h⟩
   · omega
 all_goals
   rename_i e
   rcases hr with ⟨rfl, h⟩ | ⟨i0, h, rfl, h1, h2⟩
   · omega
   rw [z0r (by omega)]
   have key := z1g9 z1r l (fun i j t => (i, j, t, k, List.replicate m true, w, rt, base, es)) (fun i t => (i, t, k, List.replicate m true, w, rt, base, es)) (fun x : T4 => !z3c (es.take m) x base)
     (fun i t ht hi => ok_is (by
       unfold z1r zb4
       dsimp only
       repeat' first
         | (dsimp only [Int.toNat_natCast, List.length_nil])
         | (simp only [zbc])
         | with_reducible first | refine z0f ?_ | refine z0g ?_ | refine z0d ?_ | refine z0e ?_ | refine z0b ?_ | refine z0i ?_ | refine qs ?_ | refine qb ?_ | refine z0j ?_ | refine qw ?_ | refine z0n ?_ | refine z0l ?_ | refine qi ?_ | refine qg (h := ?_) | refine qx (h := ?_) | refine qy (h := ?_) | refine qa ?_ | refine qc ?_ | refine ql ?_ | refine qp ?_ | refine z0a ?_ | rfl
         | (with_reducible first | refine ok_lt ?_ ?_ | refine ok_le ?_ ?_ | refine z0h ?_ ?_ | refine z0k ?_ ?_ | refine z0m ?_ ?_ | refine qu ?_ ?_ | refine ok_if ?_ ?_) <;> intro _ <;> try (exfalso; omega))) (fun i j t ht hi hj e => ok_is (by
       have hm := List.getElem_mem hj
       have hE := fun os => z1e1 l[j] k os (es.take m) w rt base he' (hx _ hm) hb
       unfold z1r zb4
       dsimp only
       repeat' first
         | (dsimp only [Int.toNat_natCast, List.length_nil])
         | (simp only [zbc, List.drop_zero])
         | (rw [e])
         | ((with_reducible refine ok_eq (hE _) ?_))
         | with_reducible first | refine z0f ?_ | refine z0g ?_ | refine z0d ?_ | refine z0e ?_ | refine z0b ?_ | refine z0i ?_ | refine qs ?_ | refine qb ?_ | refine z0j ?_ | refine qw ?_ | refine z0n ?_ | refine z0l ?_ | refine qi ?_ | refine qg (h := ?_) | refine qx (h := ?_) | refine qy (h := ?_) | refine qa ?_ | refine qc ?_ | refine ql ?_ | refine qp ?_ | refine z0a ?_ | rfl
         | (with_reducible first | refine ok_lt ?_ ?_ | refine ok_le ?_ ?_ | refine z0h ?_ ?_ | refine z0k ?_ ?_ | refine z0m ?_ ?_ | refine qu ?_ ?_ | refine ok_if ?_ ?_) <;> intro _ <;> try (exfalso; omega)
       all_goals first
         | (rename_i e; rw [e, z0r (by omega)]; rfl)
         | (rename_i e; rw [e, z0r (by omega), z0r (by omega)]; rfl))) i0 h h1 h2
   refine z8o key ?_
   rintro _ ⟨i, t, rfl, g1, g2, g3⟩
   have hb : addN i (t.length - i) ≤ t.length := by rw [zk4]; omega
   repeat' first
     | (dsimp only [Int.toNat_natCast, List.length_nil])
     | (simp only [zbc])
     | ((with_reducible refine zbf (by rw [z13y (by omega) (by simp)]) ?_))
     | ((with_reducible refine z1h0 hb ?_))
     | with_reducible first | refine z0f ?_ | refine z0g ?_ | refine z0d ?_ | refine z0e ?_ | refine z0b ?_ | refine z0i ?_ | refine qs ?_ | refine qb ?_ | refine z0j ?_ | refine qw ?_ | refine z0n ?_ | refine z0l ?_ | refine qi ?_ | refine qg (h := ?_) | refine qx (h := ?_) | refine qy (h := ?_) | refine qa ?_ | refine qc ?_ | refine ql ?_ | refine qp ?_ | refine z0a ?_ | rfl
     | (with_reducible first | refine ok_lt ?_ ?_ | refine ok_le ?_ ?_ | refine z0h ?_ ?_ | refine z0k ?_ ?_ | refine z0m ?_ ?_ | refine qu ?_ ?_ | refine ok_if ?_ ?_) <;> intro _ <;> try (exfalso; omega)
   exact ⟨i, _, rfl, z1am g1 g2 g3 (by simp)⟩
structure Sm (s : T5) : Prop where
 known : VecOk s.1
 olen : s.2.1.length ≤ 1000
 obj : ∀ o, o ∈ s.2.1 → SmO o
 elen : s.2.2.1.length ≤ 1000
 ent : ∀ x, x ∈ s.2.2.1 → VecOk x.2.2.2.2
theorem z1vx {s : T5} (h : Sm s) : zoo s = some (s.1, s.2.2.2.1, s.2.2.2.2, s.2.1, s.2.2.1) := by
 have h1 := h.olen
 have h2 := h.elen
 refine ok_is ?_
 unfold zoo
 refine ok_eq (z1th (by omega)) ?_
 repeat' first
   | (dsimp only [Int.toNat_natCast, List.length_nil])
   | with_reducible first | refine z0f ?_ | refine z0g ?_ | refine z0d ?_ | refine z0e ?_ | refine z0b ?_ | refine z0i ?_ | refine qs ?_ | refine qb ?_ | refine z0j ?_ | refine qw ?_ | refine z0n ?_ | refine z0l ?_ | refine qi ?_ | refine qg (h := ?_) | refine qx (h := ?_) | refine qy (h := ?_) | refine qa ?_ | refine qc ?_ | refine ql ?_ | refine qp ?_ | refine z0a ?_ | rfl
   | (with_reducible first | refine ok_lt ?_ ?_ | refine ok_le ?_ ?_ | refine z0h ?_ ?_ | refine z0k ?_ ?_ | refine z0m ?_ ?_ | refine qu ?_ ?_ | refine ok_if ?_ ?_) <;> intro _ <;> try (exfalso; omega)
 refine z1o s.2.1.length (fun i (_ : Unit) => (s.2.1, (s.2.1.length : Int), (i : Int), List.replicate 8 (0 : Int), List.replicate 8 (0 : Int), List.replicate 8 false, s.1, s.2.2.2.1, s.2.2.2.2, ([] : List T4), ([] : List T2), s.2.1.take i, s.2.2.1)) (fun _ _ => True) () rfl trivial (fun _ _ => ?_) fun i _ hi _ => ?_
 · unfold z2x zcd
   dsimp only
   repeat' first
     | (dsimp only [Int.toNat_natCast, List.length_nil])
     | with_reducible first | refine z0f ?_ | refine z0g ?_ | refine z0d ?_ | refine z0e ?_ | refine z0b ?_ | refine z0i ?_ | refine qs ?_ | refine qb ?_ | refine z0j ?_ | refine qw ?_ | refine z0n ?_ | refine z0l ?_ | refine qi ?_ | refine qg (h := ?_) | refine qx (h := ?_) | refine qy (h := ?_) | refine qa ?_ | refine qc ?_ | refine ql ?_ | refine qp ?_ | refine z0a ?_ | rfl
     | (with_reducible first | refine ok_lt ?_ ?_ | refine ok_le ?_ ?_ | refine z0h ?_ ?_ | refine z0k ?_ ?_ | refine z0m ?_ ?_ | refine qu ?_ ?_ | refine ok_if ?_ ?_) <;> intro _ <;> try (exfalso; omega)
   rw [List.take_length]
 · unfold z2x zcd
   dsimp only
   have hv := (h.obj _ (List.getElem_mem hi)).len
   repeat' first
     | (dsimp only [Int.toNat_natCast, List.length_nil])
     | ((with_reducible refine ok_eq (z1kv (by omega)) ?_))
     | with_reducible first | refine z0f ?_ | refine z0g ?_ | refine z0d ?_ | refine z0e ?_ | refine z0b ?_ | refine z0i ?_ | refine qs ?_ | refine qb ?_ | refine z0j ?_ | refine qw ?_ | refine z0n ?_ | refine z0l ?_ | refine qi ?_ | refine qg (h := ?_) | refine qx (h := ?_) | refine qy (h := ?_) | refine qa ?_ | refine qc ?_ | refine ql ?_ | refine qp ?_ | refine z0a ?_ | rfl
     | (with_reducible first | refine ok_lt ?_ ?_ | refine ok_le ?_ ?_ | refine z0h ?_ ?_ | refine z0k ?_ ?_ | refine z0m ?_ ?_ | refine qu ?_ ?_ | refine ok_if ?_ ?_) <;> intro _ <;> try (exfalso; omega)
   exact ⟨(), by rw [z0r (by omega), List.take_succ_eq_append_getElem hi]; rfl, trivial⟩
def zjj {α : Type} (f : α → α) (l : List α) (i : Nat) : List α := (l.take i).map f ++ l.drop i
theorem z1rg {α : Type} (f : α → α) (l : List α) (i : Nat) : (zjj f l i).length = l.length := by unfold zjj; simp; omega
theorem z1tu {α : Type} (f : α → α) (l : List α) {i : Nat} (h : i < l.length) : (zjj f l i)[i]? = some l[i] := by
 unfold zjj
 rw [List.getElem?_append_right (by simp; omega)]
 simp only [List.length_map, List.length_take, Nat.min_eq_left (Nat.le_of_lt h), Nat.sub_self, List.getElem?_drop, Nat.add_zero]
 exact List.getElem?_eq_getElem h
theorem z1rd {α : Type} (f : α → α) (l : List α) {i : Nat} (h : i < l.length) {y : α} (e : y = f l[i]) : (zjj f l i).set i y = zjj f l (i + 1) := by
 subst e
 unfold zjj
 rw [List.set_append_right _ _ (by simp; omega)]
 simp only [List.length_map, List.length_take, Nat.min_eq_left (Nat.le_of_lt h), Nat.sub_self]
 rw [List.drop_eq_getElem_cons h, List.set_cons_zero, List.take_succ_eq_append_getElem h, List.map_append, List.append_assoc]; rfl
theorem z1ph {α : Type} (f : α → α) (l : List α) : zjj f l 0 = l := by unfold zjj; simp
theorem z1rz {α : Type} (f : α → α) (l : List α) : zjj f l l.length = l.map f := by unfold zjj; simp
def z5a (base : List Int) (o : T4) : T4 := (o.1, o.2.1, o.2.2.1, o.2.2.2.1, o.2.2.2.2.1, zg9 o.2.2.2.2.2 base)
def z3g (s : T5) (base : List Int) : T5 :=
 (s.1, (s.2.1.map (z5a base)).filter (fun o => z3c (z3v s.2.2.1 base) o base), z3v s.2.2.1 base, s.2.2.2.1, s.2.2.2.2)
theorem z1qp (l : List T3) (base : List Int) : (zg9 l base).length ≤ l.length := List.length_filter_le ..
theorem z1ri (l : List T2) (base : List Int) : (z3v l base).length ≤ l.length := List.length_filter_le ..
theorem z1ku {o : T4} (h : SmO o) (base : List Int) : SmO (z5a base o) :=
 ⟨h.seen, Nat.le_trans (z1qp _ _) h.len, fun v hv => h.vers v (List.mem_filter.1 hv).1⟩
theorem z1ii {s : T5} (h : Sm s) (base : List Int) : Sm (z3g s base) where
 known := h.known
 olen := Nat.le_trans (List.length_filter_le ..) (by rw [List.length_map]; exact h.olen)
 obj := fun o ho => by
   have := (List.mem_filter.1 ho).1
   simp only [List.mem_map] at this
   obtain ⟨x, hx, rfl⟩ := this
   exact z1ku (h.obj x hx) base
 elen := Nat.le_trans (z1ri _ _) h.elen
 ent := fun x hx => h.ent x (List.mem_filter.1 hx).1
theorem zj3 {s : T5} {base : List Int} (h : Sm s) (hb : VecOk base) : z9g s base = some (z3g s base) := by
 have h1 := h.olen
 have h2 := h.elen
 refine ok_is ?_
 unfold z9g
 refine ok_eq (z1vx h) ?_
 dsimp only
 refine zbf rfl (z1f (z1tp (by omega) hb h.ent) ?_)
 rintro _ ⟨m, es, rfl, g1, g2, g3⟩
 repeat' first
   | (dsimp only [Int.toNat_natCast, List.length_nil])
   | (simp only [zbc])
   | with_reducible first | refine z0f ?_ | refine z0g ?_ | refine z0d ?_ | refine z0e ?_ | refine z0b ?_ | refine z0i ?_ | refine qs ?_ | refine qb ?_ | refine z0j ?_ | refine qw ?_ | refine z0n ?_ | refine z0l ?_ | refine qi ?_ | refine qg (h := ?_) | refine qx (h := ?_) | refine qy (h := ?_) | refine qa ?_ | refine qc ?_ | refine ql ?_ | refine qp ?_ | refine z0a ?_ | rfl
   | (with_reducible first | refine ok_lt ?_ ?_ | refine ok_le ?_ ?_ | refine z0h ?_ ?_ | refine z0k ?_ ?_ | refine z0m ?_ ?_ | refine qu ?_ ?_ | refine ok_if ?_ ?_) <;> intro _ <;> try (exfalso; omega)
 refine z1o s.2.1.length (fun i (_ : Unit) => ((s.2.1.length : Int), (i : Int), base, List.replicate 8 (0 : Int), List.replicate 8 (0 : Int), List.replicate 8 false, s.1, List.replicate m true, s.2.2.2.1, s.2.2.2.2, ([] : List T4), ([] : List T2), zjj (z5a base) s.2.1 i, es)) (fun _ _ => True) () (by rw [z1ph]; rfl) trivial (fun _ _ => ?_) fun i _ hi _ => ?_
 · unfold z3f zd7
   dsimp only
   rw [z1rz]
   have ho : ∀ x, x ∈ s.2.1.map (z5a base) → SmO x := fun x hx => by
     simp only [List.mem_map] at hx
     obtain ⟨y, hy, rfl⟩ := hx
     exact z1ku (h.obj y hy) base
   have hol : (s.2.1.map (z5a base)).length ≤ 1000 := by rw [List.length_map]; exact h1
   repeat' first
     | (dsimp only [Int.toNat_natCast, List.length_nil])
     | (simp only [zbc])
     | ((with_reducible refine z1f (z1xp hol g1 (by omega) ho hb) ?_); rintro _ ⟨n, t, rfl, k1, k2, k3⟩)
     | with_reducible first | refine z0f ?_ | refine z0g ?_ | refine z0d ?_ | refine z0e ?_ | refine z0b ?_ | refine z0i ?_ | refine qs ?_ | refine qb ?_ | refine z0j ?_ | refine qw ?_ | refine z0n ?_ | refine z0l ?_ | refine qi ?_ | refine qg (h := ?_) | refine qx (h := ?_) | refine qy (h := ?_) | refine qa ?_ | refine qc ?_ | refine ql ?_ | refine qp ?_ | refine z0a ?_ | rfl
     | (with_reducible first | refine ok_lt ?_ ?_ | refine ok_le ?_ ?_ | refine z0h ?_ ?_ | refine z0k ?_ ?_ | refine z0m ?_ ?_ | refine qu ?_ ?_ | refine ok_if ?_ ?_) <;> intro _ <;> try (exfalso; omega)
   unfold z3g
   rw [List.drop_zero, List.drop_zero, k3, g3]
   simp only [Bool.not_not]
   rfl
 · unfold z3f zd7
   dsimp only
   have hv := h.obj _ (List.getElem_mem hi)
   have hlen := z1rg (z5a base) s.2.1 i
   have hvl := hv.len
   repeat' first
     | (dsimp only [Int.toNat_natCast, List.length_nil])
     | (simp only [zbc])
     | ((with_reducible refine ok_eq (z1tu _ _ hi) ?_))
     | ((with_reducible refine ok_eq (z1u3 (by omega) hb hv.vers) ?_))
     | with_reducible first | refine z0f ?_ | refine z0g ?_ | refine z0d ?_ | refine z0e ?_ | refine z0b ?_ | refine z0i ?_ | refine qs ?_ | refine qb ?_ | refine z0j ?_ | refine qw ?_ | refine z0n ?_ | refine z0l ?_ | refine qi ?_ | refine qg (h := ?_) | refine qx (h := ?_) | refine qy (h := ?_) | refine qa ?_ | refine qc ?_ | refine ql ?_ | refine qp ?_ | refine z0a ?_ | rfl
     | (with_reducible first | refine ok_lt ?_ ?_ | refine ok_le ?_ ?_ | refine z0h ?_ ?_ | refine z0k ?_ ?_ | refine z0m ?_ ?_ | refine qu ?_ ?_ | refine ok_if ?_ ?_) <;> intro _ <;> try (exfalso; omega)
   exact ⟨(), by rw [z0r (by omega), z1rd _ _ hi (by rfl)]; rfl, trivial⟩
def cntO (es : List T2) (base : List Int) (o : T4) : Nat := List.countP (fun v : T3 => !z2n v.2.2) o.2.2.2.2.2 + if z3c es o base = true then 0 else 1
def deadV (s : T5) : Nat := List.countP (fun x : T2 => !z2n x.2.2.2.2) s.2.2.1 + (s.2.1.map (cntO s.2.2.1 s.1)).sum
theorem z1mx {α : Type} (p : α → Bool) (l : List α) {i : Nat} (h : i < l.length) : List.countP p (l.take (i + 1)) = List.countP p (l.take i) + if p l[i] = true then 1 else 0 := by
 rw [List.take_succ_eq_append_getElem h, List.countP_append, List.countP_singleton]
theorem z1tf {α : Type} (p : α → Bool) (l : List α) (i : Nat) : List.countP p (l.take i) ≤ l.length := Nat.le_trans List.countP_le_length (by simp; omega)
theorem z1vd {α : Type} (f : α → Nat) (l : List α) {i : Nat} (h : i < l.length) : ((l.take (i + 1)).map f).sum = ((l.take i).map f).sum + f l[i] := by
 rw [List.take_succ_eq_append_getElem h, List.map_append, List.sum_append]; simp
theorem z1tm {α : Type} (f : α → Nat) (c : Nat) : ∀ (l : List α), (∀ x, x ∈ l → f x ≤ c) → (l.map f).sum ≤ l.length * c
 | [], _ => by simp
 | a :: l, h => by
   have := z1tm f c l fun x hx => h x (List.mem_cons_of_mem _ hx)
   have := h a (List.mem_cons_self ..)
   simp only [List.map_cons, List.sum_cons, List.length_cons, Nat.add_mul]; omega
theorem z1q8 (es : List T2) (base : List Int) {o : T4} (h : SmO o) : cntO es base o ≤ 1001 := by
 unfold cntO
 have := h.len
 have : List.countP (fun v : T3 => !z2n v.2.2) o.2.2.2.2.2 ≤ o.2.2.2.2.2.length := List.countP_le_length
 split <;> omega
theorem z1pz {s : T5} (h : Sm s) (i : Nat) (hi : i ≤ s.2.1.length) : ((s.2.1.take i).map (cntO s.2.2.1 s.1)).sum ≤ 1001000 := by
 have := z1tm (cntO s.2.2.1 s.1) 1001 (s.2.1.take i) fun x hx => z1q8 _ _ (h.obj x (List.mem_of_mem_take hx))
 have h1 := h.olen
 have : (s.2.1.take i).length * 1001 ≤ 1000 * 1001 := Nat.mul_le_mul_right _ (by simp; omega)
 omega
theorem z1cq {s : T5} (h : Sm s) : zj5 s = some (deadV s : Int) := by
 have h1 := h.olen
 have h2 := h.elen
 refine ok_is ?_
 have key : loopC z4c (0, s.2.2.1, (s.2.2.1.length : Int), 0, s) = some ((List.countP (fun x : T2 => !z2n x.2.2.2.2) s.2.2.1 : Int), s) := by
   refine ok_is (z1o s.2.2.1.length (fun i (_ : Unit) => ((List.countP (fun x : T2 => !z2n x.2.2.2.2) (s.2.2.1.take i) : Int), s.2.2.1, (s.2.2.1.length : Int), (i : Int), s)) (fun _ _ => True) () rfl trivial (fun _ _ => ?_) fun i _ hi _ => ?_)
   · unfold z4c zgq
     dsimp only
     repeat' first
       | (dsimp only [Int.toNat_natCast, List.length_nil])
       | with_reducible first | refine z0f ?_ | refine z0g ?_ | refine z0d ?_ | refine z0e ?_ | refine z0b ?_ | refine z0i ?_ | refine qs ?_ | refine qb ?_ | refine z0j ?_ | refine qw ?_ | refine z0n ?_ | refine z0l ?_ | refine qi ?_ | refine qg (h := ?_) | refine qx (h := ?_) | refine qy (h := ?_) | refine qa ?_ | refine qc ?_ | refine ql ?_ | refine qp ?_ | refine z0a ?_ | rfl
       | (with_reducible first | refine ok_lt ?_ ?_ | refine ok_le ?_ ?_ | refine z0h ?_ ?_ | refine z0k ?_ ?_ | refine z0m ?_ ?_ | refine qu ?_ ?_ | refine ok_if ?_ ?_) <;> intro _ <;> try (exfalso; omega)
     rw [List.take_length]
   · unfold z4c zgq
     dsimp only
     have hc := z1mx (fun x : T2 => !z2n x.2.2.2.2) s.2.2.1 hi
     have hb := z1tf (fun x : T2 => !z2n x.2.2.2.2) s.2.2.1 i
     repeat' first
       | (dsimp only [Int.toNat_natCast, List.length_nil])
       | ((with_reducible refine ok_eq (z1ml _) ?_))
       | with_reducible first | refine z0f ?_ | refine z0g ?_ | refine z0d ?_ | refine z0e ?_ | refine z0b ?_ | refine z0i ?_ | refine qs ?_ | refine qb ?_ | refine z0j ?_ | refine qw ?_ | refine z0n ?_ | refine z0l ?_ | refine qi ?_ | refine qg (h := ?_) | refine qx (h := ?_) | refine qy (h := ?_) | refine qa ?_ | refine qc ?_ | refine ql ?_ | refine qp ?_ | refine z0a ?_ | rfl
       | (with_reducible first | refine ok_lt ?_ ?_ | refine ok_le ?_ ?_ | refine z0h ?_ ?_ | refine z0k ?_ ?_ | refine z0m ?_ ?_ | refine qu ?_ ?_ | refine ok_if ?_ ?_) <;> intro _ <;> try (exfalso; omega)
     all_goals
       rename_i e
       rw [e] at hc
       exact ⟨(), by rw [hc]; first | (rw [z0r (by omega), z0r (by omega)]; rfl) | (rw [z0r (by omega)]; rfl), trivial⟩
 unfold zj5
 refine z8t (by omega) (ok_eq key ?_)
 dsimp only
 refine z8t (by omega) ?_
 have hE : List.countP (fun x : T2 => !z2n x.2.2.2.2) s.2.2.1 ≤ s.2.2.1.length := List.countP_le_length
 generalize hE0 : List.countP (fun x : T2 => !z2n x.2.2.2.2) s.2.2.1 = E0 at hE ⊢
 refine z0a (z1o s.2.1.length (fun i (_ : Unit) => (((E0 + ((s.2.1.take i).map (cntO s.2.2.1 s.1)).sum : Nat) : Int), s.2.1, (s.2.1.length : Int), (i : Int), s)) (fun _ _ => True) () (by simp) trivial (fun _ _ => ?_) fun i _ hi _ => ?_)
 · unfold z4n zf1
   dsimp only
   repeat' first
     | (dsimp only [Int.toNat_natCast, List.length_nil])
     | with_reducible first | refine z0f ?_ | refine z0g ?_ | refine z0d ?_ | refine z0e ?_ | refine z0b ?_ | refine z0i ?_ | refine qs ?_ | refine qb ?_ | refine z0j ?_ | refine qw ?_ | refine z0n ?_ | refine z0l ?_ | refine qi ?_ | refine qg (h := ?_) | refine qx (h := ?_) | refine qy (h := ?_) | refine qa ?_ | refine qc ?_ | refine ql ?_ | refine qp ?_ | refine z0a ?_ | rfl
     | (with_reducible first | refine ok_lt ?_ ?_ | refine ok_le ?_ ?_ | refine z0h ?_ ?_ | refine z0k ?_ ?_ | refine z0m ?_ ?_ | refine qu ?_ ?_ | refine ok_if ?_ ?_) <;> intro _ <;> try (exfalso; omega)
   unfold deadV
   rw [List.take_length, hE0]
 · unfold z4n zf1
   dsimp only
   have hv := h.obj _ (List.getElem_mem hi)
   have hv' := hv.len
   have hs := z1pz h i (by omega)
   have hc := z1q8 s.2.2.1 s.1 hv
   have hst := z1vd (cntO s.2.2.1 s.1) s.2.1 hi
   generalize hS : ((s.2.1.take i).map (cntO s.2.2.1 s.1)).sum = S at hs hst ⊢
   have key2 : loopC z1h (((E0 + S : Nat) : Int), s.2.1, (s.2.1.length : Int), (i : Int), s.2.1[i].2.2.2.2.2, (s.2.1[i].2.2.2.2.2.length : Int), 0, s, s.2.1[i]) = some (((E0 + S + List.countP (fun v : T3 => !z2n v.2.2) s.2.1[i].2.2.2.2.2 : Nat) : Int), s.2.1, (s.2.1.length : Int), (i : Int), s, s.2.1[i]) := by
     generalize s.2.1[i] = o at hv hv' hc ⊢
     refine ok_is (z1o o.2.2.2.2.2.length (fun k (_ : Unit) => (((E0 + S + List.countP (fun v : T3 => !z2n v.2.2) (o.2.2.2.2.2.take k) : Nat) : Int), s.2.1, (s.2.1.length : Int), (i : Int), o.2.2.2.2.2, (o.2.2.2.2.2.length : Int), (k : Int), s, o)) (fun _ _ => True) () rfl trivial (fun _ _ => ?_) fun k _ hk _ => ?_)
     · unfold z1h z6e
       dsimp only
       repeat' first
         | (dsimp only [Int.toNat_natCast, List.length_nil])
         | with_reducible first | refine z0f ?_ | refine z0g ?_ | refine z0d ?_ | refine z0e ?_ | refine z0b ?_ | refine z0i ?_ | refine qs ?_ | refine qb ?_ | refine z0j ?_ | refine qw ?_ | refine z0n ?_ | refine z0l ?_ | refine qi ?_ | refine qg (h := ?_) | refine qx (h := ?_) | refine qy (h := ?_) | refine qa ?_ | refine qc ?_ | refine ql ?_ | refine qp ?_ | refine z0a ?_ | rfl
         | (with_reducible first | refine ok_lt ?_ ?_ | refine ok_le ?_ ?_ | refine z0h ?_ ?_ | refine z0k ?_ ?_ | refine z0m ?_ ?_ | refine qu ?_ ?_ | refine ok_if ?_ ?_) <;> intro _ <;> try (exfalso; omega)
       rw [List.take_length]
     · unfold z1h z6e
       dsimp only
       have hc := z1mx (fun v : T3 => !z2n v.2.2) o.2.2.2.2.2 hk
       have hb := z1tf (fun v : T3 => !z2n v.2.2) o.2.2.2.2.2 k
       repeat' first
         | (dsimp only [Int.toNat_natCast, List.length_nil])
         | ((with_reducible refine ok_eq (z1qa _) ?_))
         | with_reducible first | refine z0f ?_ | refine z0g ?_ | refine z0d ?_ | refine z0e ?_ | refine z0b ?_ | refine z0i ?_ | refine qs ?_ | refine qb ?_ | refine z0j ?_ | refine qw ?_ | refine z0n ?_ | refine z0l ?_ | refine qi ?_ | refine qg (h := ?_) | refine qx (h := ?_) | refine qy (h := ?_) | refine qa ?_ | refine qc ?_ | refine ql ?_ | refine qp ?_ | refine z0a ?_ | rfl
         | (with_reducible first | refine ok_lt ?_ ?_ | refine ok_le ?_ ?_ | refine z0h ?_ ?_ | refine z0k ?_ ?_ | refine z0m ?_ ?_ | refine qu ?_ ?_ | refine ok_if ?_ ?_) <;> intro _ <;> try (exfalso; omega)
       all_goals
         rename_i e
         rw [e] at hc
         exact ⟨(), by rw [hc]; first | (rw [z0r (by omega), z0r (by omega)]; rfl) | (rw [z0r (by omega)]; rfl), trivial⟩
   have hn : List.countP (fun v : T3 => !z2n v.2.2) s.2.1[i].2.2.2.2.2 ≤ s.2.1[i].2.2.2.2.2.length := List.countP_le_length
   have hcd : cntO s.2.2.1 s.1 s.2.1[i] = List.countP (fun v : T3 => !z2n v.2.2) s.2.1[i].2.2.2.2.2 + if z3c s.2.2.1 s.2.1[i] s.1 = true then 0 else 1 := rfl
   repeat' first
     | (dsimp only [Int.toNat_natCast, List.length_nil])
     | ((with_reducible refine ok_eq key2 ?_))
     | ((with_reducible refine ok_eq (z1ke h.elen hv h.known) ?_))
     | with_reducible first | refine z0f ?_ | refine z0g ?_ | refine z0d ?_ | refine z0e ?_ | refine z0b ?_ | refine z0i ?_ | refine qs ?_ | refine qb ?_ | refine z0j ?_ | refine qw ?_ | refine z0n ?_ | refine z0l ?_ | refine qi ?_ | refine qg (h := ?_) | refine qx (h := ?_) | refine qy (h := ?_) | refine qa ?_ | refine qc ?_ | refine ql ?_ | refine qp ?_ | refine z0a ?_ | rfl
     | (with_reducible first | refine ok_lt ?_ ?_ | refine ok_le ?_ ?_ | refine z0h ?_ ?_ | refine z0k ?_ ?_ | refine z0m ?_ ?_ | refine qu ?_ ?_ | refine ok_if ?_ ?_) <;> intro _ <;> try (exfalso; omega)
   all_goals
     rename_i e
     rw [e] at hcd
     simp only [Bool.false_eq_true, if_true, if_false] at hcd
     refine ⟨(), ?_, trivial⟩
     rw [hst, hcd]
     simp only [← Nat.add_assoc, Nat.add_zero]
     first | (rw [z0r (by omega), z0r (by omega)]; rfl) | (rw [z0r (by omega)]; rfl)
end Go.Proofs.Ytfbdjicfkcklfaa
set_option maxRecDepth 100000
set_option linter.unusedSimpArgs false
set_option linter.unusedVariables false
namespace Go.Proofs.Ytfbdjicfkcklfaa
open Go.Tm Go.Ab
theorem z1f1 {v : List Int} (h : VecOk v) (id : T0) : zll v id = some (hasV v id) := by
 refine ok_is ?_
 unfold zll hasV
 repeat' first
   | (dsimp only [Int.toNat_natCast, List.length_nil])
   | ((with_reducible refine ok_eq (z1ig h _) ?_))
   | with_reducible first | refine z0f ?_ | refine z0g ?_ | refine z0d ?_ | refine z0e ?_ | refine z0b ?_ | refine z0i ?_ | refine qs ?_ | refine qb ?_ | refine z0j ?_ | refine qw ?_ | refine z0n ?_ | refine z0l ?_ | refine qi ?_ | refine qg (h := ?_) | refine qx (h := ?_) | refine qy (h := ?_) | refine qa ?_ | refine qc ?_ | refine ql ?_ | refine qp ?_ | refine z0a ?_ | rfl
   | (with_reducible first | refine ok_lt ?_ ?_ | refine ok_le ?_ ?_ | refine z0h ?_ ?_ | refine z0k ?_ ?_ | refine z0m ?_ ?_ | refine qu ?_ ?_ | refine ok_if ?_ ?_) <;> intro _ <;> try (exfalso; omega)
 · rw [ltI_t (by assumption), Bool.true_and]
 · rw [ltI_f (by assumption), Bool.false_and]
theorem z1ux {u : U} (h : u.cmp = true) (a : u.T) : eqU u a a = true := (zmt h).2 rfl
theorem zsk {A : Type} {u : U} {a : u.T} {x y : Option A} {Q : A → Prop} (hu : u.cmp = true) (h : Ok y Q) : Ok (bif !(eqU u a a) then x else y) Q := by rw [z1ux hu]; exact h
theorem z1wo {A : Type} {a : List Int} {x y : Option A} {Q : A → Prop} (h : Ok y Q) : Ok (bif !(eqS a a) then x else y) Q := by rw [eqS_t rfl]; exact h
theorem z1p7 {l : List T2} (hl : l.length ≤ 2000) : zwc l l = some true := by
 refine ok_is ?_
 unfold zwc
 repeat' first
   | (dsimp only [Int.toNat_natCast, List.length_nil])
   | ((with_reducible refine z0a (z1o l.length (fun i (_ : Unit) => (l, l, (i : Int))) (fun _ _ => True) () rfl trivial (fun _ _ => ?_) fun i _ hi _ => ?_)))
   | with_reducible first | refine z0f ?_ | refine z0g ?_ | refine z0d ?_ | refine z0e ?_ | refine z0b ?_ | refine z0i ?_ | refine qs ?_ | refine qb ?_ | refine z0j ?_ | refine qw ?_ | refine z0n ?_ | refine z0l ?_ | refine qi ?_ | refine qg (h := ?_) | refine qx (h := ?_) | refine qy (h := ?_) | refine qa ?_ | refine qc ?_ | refine ql ?_ | refine qp ?_ | refine z0a ?_ | rfl
   | (with_reducible first | refine ok_lt ?_ ?_ | refine ok_le ?_ ?_ | refine z0h ?_ ?_ | refine z0k ?_ ?_ | refine z0m ?_ ?_ | refine qu ?_ ?_ | refine ok_if ?_ ?_) <;> intro _ <;> try (exfalso; omega)
 · unfold z5n zgv
   dsimp only
   repeat' first
     | (dsimp only [Int.toNat_natCast, List.length_nil])
     | with_reducible first | refine z0f ?_ | refine z0g ?_ | refine z0d ?_ | refine z0e ?_ | refine z0b ?_ | refine z0i ?_ | refine qs ?_ | refine qb ?_ | refine z0j ?_ | refine qw ?_ | refine z0n ?_ | refine z0l ?_ | refine qi ?_ | refine qg (h := ?_) | refine qx (h := ?_) | refine qy (h := ?_) | refine qa ?_ | refine qc ?_ | refine ql ?_ | refine qp ?_ | refine z0a ?_ | rfl
     | (with_reducible first | refine ok_lt ?_ ?_ | refine ok_le ?_ ?_ | refine z0h ?_ ?_ | refine z0k ?_ ?_ | refine z0m ?_ ?_ | refine qu ?_ ?_ | refine ok_if ?_ ?_) <;> intro _ <;> try (exfalso; omega)
 · unfold z5n zgv
   dsimp only
   repeat' first
     | (dsimp only [Int.toNat_natCast, List.length_nil])
     | (apply zsk (u := c6) rfl)
     | with_reducible first | refine z0f ?_ | refine z0g ?_ | refine z0d ?_ | refine z0e ?_ | refine z0b ?_ | refine z0i ?_ | refine qs ?_ | refine qb ?_ | refine z0j ?_ | refine qw ?_ | refine z0n ?_ | refine z0l ?_ | refine qi ?_ | refine qg (h := ?_) | refine qx (h := ?_) | refine qy (h := ?_) | refine qa ?_ | refine qc ?_ | refine ql ?_ | refine qp ?_ | refine z0a ?_ | rfl
     | (with_reducible first | refine ok_lt ?_ ?_ | refine ok_le ?_ ?_ | refine z0h ?_ ?_ | refine z0k ?_ ?_ | refine z0m ?_ ?_ | refine qu ?_ ?_ | refine ok_if ?_ ?_) <;> intro _ <;> try (exfalso; omega)
   · exact ⟨(), by rw [z0r (by omega)]; rfl, trivial⟩
theorem z1p9 {l : List T3} (hl : l.length ≤ 2000) : zwi l l = some true := by
 refine ok_is ?_
 unfold zwi
 repeat' first
   | (dsimp only [Int.toNat_natCast, List.length_nil])
   | ((with_reducible refine z0a (z1o l.length (fun i (_ : Unit) => (l, l, (i : Int))) (fun _ _ => True) () rfl trivial (fun _ _ => ?_) fun i _ hi _ => ?_)))
   | with_reducible first | refine z0f ?_ | refine z0g ?_ | refine z0d ?_ | refine z0e ?_ | refine z0b ?_ | refine z0i ?_ | refine qs ?_ | refine qb ?_ | refine z0j ?_ | refine qw ?_ | refine z0n ?_ | refine z0l ?_ | refine qi ?_ | refine qg (h := ?_) | refine qx (h := ?_) | refine qy (h := ?_) | refine qa ?_ | refine qc ?_ | refine ql ?_ | refine qp ?_ | refine z0a ?_ | rfl
   | (with_reducible first | refine ok_lt ?_ ?_ | refine ok_le ?_ ?_ | refine z0h ?_ ?_ | refine z0k ?_ ?_ | refine z0m ?_ ?_ | refine qu ?_ ?_ | refine ok_if ?_ ?_) <;> intro _ <;> try (exfalso; omega)
 · unfold z5g zh2
   dsimp only
   repeat' first
     | (dsimp only [Int.toNat_natCast, List.length_nil])
     | with_reducible first | refine z0f ?_ | refine z0g ?_ | refine z0d ?_ | refine z0e ?_ | refine z0b ?_ | refine z0i ?_ | refine qs ?_ | refine qb ?_ | refine z0j ?_ | refine qw ?_ | refine z0n ?_ | refine z0l ?_ | refine qi ?_ | refine qg (h := ?_) | refine qx (h := ?_) | refine qy (h := ?_) | refine qa ?_ | refine qc ?_ | refine ql ?_ | refine qp ?_ | refine z0a ?_ | rfl
     | (with_reducible first | refine ok_lt ?_ ?_ | refine ok_le ?_ ?_ | refine z0h ?_ ?_ | refine z0k ?_ ?_ | refine z0m ?_ ?_ | refine qu ?_ ?_ | refine ok_if ?_ ?_) <;> intro _ <;> try (exfalso; omega)
 · unfold z5g zh2
   dsimp only
   repeat' first
     | (dsimp only [Int.toNat_natCast, List.length_nil])
     | (apply zsk (u := c11) rfl)
     | with_reducible first | refine z0f ?_ | refine z0g ?_ | refine z0d ?_ | refine z0e ?_ | refine z0b ?_ | refine z0i ?_ | refine qs ?_ | refine qb ?_ | refine z0j ?_ | refine qw ?_ | refine z0n ?_ | refine z0l ?_ | refine qi ?_ | refine qg (h := ?_) | refine qx (h := ?_) | refine qy (h := ?_) | refine qa ?_ | refine qc ?_ | refine ql ?_ | refine qp ?_ | refine z0a ?_ | rfl
     | (with_reducible first | refine ok_lt ?_ ?_ | refine ok_le ?_ ?_ | refine z0h ?_ ?_ | refine z0k ?_ ?_ | refine z0m ?_ ?_ | refine qu ?_ ?_ | refine ok_if ?_ ?_) <;> intro _ <;> try (exfalso; omega)
   · exact ⟨(), by rw [z0r (by omega)]; rfl, trivial⟩
theorem z1b0 {s : T5} (h : Sm s) : zma s s = some true := by
 have h1 := h.olen
 have h2 := h.elen
 refine ok_is ?_
 unfold zma
 repeat' first
   | (dsimp only [Int.toNat_natCast, List.length_nil])
   | (apply zsk (u := c1) rfl)
   | (apply zsk (u := c16) rfl)
   | (apply zsk (u := (.arr 8 .bool)) rfl)
   | ((with_reducible refine ok_eq (z1p7 (by omega)) ?_))
   | ((with_reducible refine z0a (z1o s.2.1.length (fun i (_ : Unit) => ((i : Int), s, s)) (fun _ _ => True) () rfl trivial (fun _ _ => ?_) fun i _ hi _ => ?_)))
   | with_reducible first | refine z0f ?_ | refine z0g ?_ | refine z0d ?_ | refine z0e ?_ | refine z0b ?_ | refine z0i ?_ | refine qs ?_ | refine qb ?_ | refine z0j ?_ | refine qw ?_ | refine z0n ?_ | refine z0l ?_ | refine qi ?_ | refine qg (h := ?_) | refine qx (h := ?_) | refine qy (h := ?_) | refine qa ?_ | refine qc ?_ | refine ql ?_ | refine qp ?_ | refine z0a ?_ | rfl
   | (with_reducible first | refine ok_lt ?_ ?_ | refine ok_le ?_ ?_ | refine z0h ?_ ?_ | refine z0k ?_ ?_ | refine z0m ?_ ?_ | refine qu ?_ ?_ | refine ok_if ?_ ?_) <;> intro _ <;> try (exfalso; omega)
 · unfold z5l zgx
   dsimp only
   repeat' first
     | (dsimp only [Int.toNat_natCast, List.length_nil])
     | with_reducible first | refine z0f ?_ | refine z0g ?_ | refine z0d ?_ | refine z0e ?_ | refine z0b ?_ | refine z0i ?_ | refine qs ?_ | refine qb ?_ | refine z0j ?_ | refine qw ?_ | refine z0n ?_ | refine z0l ?_ | refine qi ?_ | refine qg (h := ?_) | refine qx (h := ?_) | refine qy (h := ?_) | refine qa ?_ | refine qc ?_ | refine ql ?_ | refine qp ?_ | refine z0a ?_ | rfl
     | (with_reducible first | refine ok_lt ?_ ?_ | refine ok_le ?_ ?_ | refine z0h ?_ ?_ | refine z0k ?_ ?_ | refine z0m ?_ ?_ | refine qu ?_ ?_ | refine ok_if ?_ ?_) <;> intro _ <;> try (exfalso; omega)
 · unfold z5l zgx
   dsimp only
   have hv := (h.obj _ (List.getElem_mem hi)).len
   have hbb : (s.2.1[i].2.1 == s.2.1[i].2.1) = true := by simp
   repeat' first
     | (dsimp only [Int.toNat_natCast, List.length_nil])
     | (apply zsk (u := c0) rfl)
     | (apply zsk (u := c1) rfl)
     | ((with_reducible refine z1wo ?_))
     | ((with_reducible refine ok_eq (z1p9 (by omega)) ?_))
     | (rw [hbb])
     | with_reducible first | refine z0f ?_ | refine z0g ?_ | refine z0d ?_ | refine z0e ?_ | refine z0b ?_ | refine z0i ?_ | refine qs ?_ | refine qb ?_ | refine z0j ?_ | refine qw ?_ | refine z0n ?_ | refine z0l ?_ | refine qi ?_ | refine qg (h := ?_) | refine qx (h := ?_) | refine qy (h := ?_) | refine qa ?_ | refine qc ?_ | refine ql ?_ | refine qp ?_ | refine z0a ?_ | rfl
     | (with_reducible first | refine ok_lt ?_ ?_ | refine ok_le ?_ ?_ | refine z0h ?_ ?_ | refine z0k ?_ ?_ | refine z0m ?_ ?_ | refine qu ?_ ?_ | refine ok_if ?_ ?_) <;> intro _ <;> try (exfalso; omega)
   all_goals first
     | exact ⟨(), by rw [z0r (by omega)]; rfl, trivial⟩
end Go.Proofs.Ytfbdjicfkcklfaa
set_option maxRecDepth 100000
set_option maxHeartbeats 2000000
set_option linter.unusedSimpArgs false
set_option linter.unusedVariables false
namespace Go.Proofs.Ytfbdjicfkcklfaa
open Go.Tm Go.Ab
theorem z1aj (x : T0) : Ok (zit x) fun r => True := by
 unfold zit
 repeat' first
   | (dsimp only [Int.toNat_natCast, List.length_nil])
   | with_reducible first | refine z0f ?_ | refine z0g ?_ | refine z0d ?_ | refine z0e ?_ | refine z0b ?_ | refine z0i ?_ | refine qs ?_ | refine qb ?_ | refine z0j ?_ | refine qw ?_ | refine z0n ?_ | refine z0l ?_ | refine qi ?_ | refine qg (h := ?_) | refine qx (h := ?_) | refine qy (h := ?_) | refine qa ?_ | refine qc ?_ | refine ql ?_ | refine qp ?_ | refine z0a ?_ | rfl
   | (with_reducible first | refine ok_lt ?_ ?_ | refine ok_le ?_ ?_ | refine z0h ?_ ?_ | refine z0k ?_ ?_ | refine z0m ?_ ?_ | refine qu ?_ ?_ | refine ok_if ?_ ?_) <;> intro _ <;> try (exfalso; omega)
theorem z1wj {l : List T0} {v : List Int} (hl : l.length ≤ 1000) (hv : VecOk v) : Ok (zmq l v) fun r => r = true → ∀ x, x ∈ l → 0 < x.2 := by
 unfold zmq
 refine z0a (z1o l.length (fun i (_ : Unit) => (l, (i : Int), v)) (fun i _ => ∀ j (h : j < l.length), j < i → 0 < l[j].2) () rfl (fun j _ h => by omega) (fun _ ha => ?_) fun i _ hi ha => ?_)
 · unfold z6y zj7
   dsimp only
   repeat' first
     | (dsimp only [Int.toNat_natCast, List.length_nil])
     | with_reducible first | refine z0f ?_ | refine z0g ?_ | refine z0d ?_ | refine z0e ?_ | refine z0b ?_ | refine z0i ?_ | refine qs ?_ | refine qb ?_ | refine z0j ?_ | refine qw ?_ | refine z0n ?_ | refine z0l ?_ | refine qi ?_ | refine qg (h := ?_) | refine qx (h := ?_) | refine qy (h := ?_) | refine qa ?_ | refine qc ?_ | refine ql ?_ | refine qp ?_ | refine z0a ?_ | rfl
     | (with_reducible first | refine ok_lt ?_ ?_ | refine ok_le ?_ ?_ | refine z0h ?_ ?_ | refine z0k ?_ ?_ | refine z0m ?_ ?_ | refine qu ?_ ?_ | refine ok_if ?_ ?_) <;> intro _ <;> try (exfalso; omega)
   intro _ x hx
   obtain ⟨j, hj, rfl⟩ := List.mem_iff_getElem.1 hx
   exact ha j hj hj
 · unfold z6y zj7
   dsimp only
   have nx : hasV v l[i] = true → ∀ j (h : j < l.length), j < i + 1 → 0 < l[j].2 := fun e j hj hlt => by
     by_cases h : j = i
     · subst h
       unfold hasV at e
       rw [Bool.and_eq_true] at e
       exact of_decide_eq_true e.1
     · exact ha j hj (by omega)
   have nx' : ∀ x, hasV v x = true → l[((i : Nat) : Int).toNat]? = some x → ∀ j (h : j < l.length), j < i + 1 → 0 < l[j].2 := fun x e h => nx (by
     rw [Int.toNat_natCast, List.getElem?_eq_getElem hi] at h
     cases h; exact e)
   repeat' first
     | (dsimp only [Int.toNat_natCast, List.length_nil])
     | ((with_reducible refine ok_eq (z1f1 hv _) ?_))
     | ((with_reducible refine ok_eq (zt0 _ _) ?_))
     | (rw [z0r (show -9223372036854775808 ≤ (i : Int) - 1 ∧ (i : Int) - 1 ≤ 9223372036854775807 by omega)])
     | ((with_reducible refine z1w3 (by omega) ?_); intro _ _)
     | with_reducible first | refine z0f ?_ | refine z0g ?_ | refine z0d ?_ | refine z0e ?_ | refine z0b ?_ | refine z0i ?_ | refine qs ?_ | refine qb ?_ | refine z0j ?_ | refine qw ?_ | refine z0n ?_ | refine z0l ?_ | refine qi ?_ | refine qg (h := ?_) | refine qx (h := ?_) | refine qy (h := ?_) | refine qa ?_ | refine qc ?_ | refine ql ?_ | refine qp ?_ | refine z0a ?_ | rfl
     | (with_reducible first | refine ok_lt ?_ ?_ | refine ok_le ?_ ?_ | refine z0h ?_ ?_ | refine z0k ?_ ?_ | refine z0m ?_ ?_ | refine qu ?_ ?_ | refine ok_if ?_ ?_) <;> intro _ <;> try (exfalso; omega)
   all_goals first
     | (intro h; exact absurd h (by simp))
     | exact ⟨(), by rw [z0r (by omega)]; rfl, nx' _ (by assumption) (by assumption)⟩
theorem z1x1 {l : List Int} (hl : l.length ≤ 1000) : Ok (zqg l) fun r => True := by
 unfold zqg
 repeat' first
   | (dsimp only [Int.toNat_natCast, List.length_nil])
   | ((with_reducible refine z0a (z1o l.length (fun i (_ : Unit) => (l, (i : Int))) (fun i _ => True) () rfl trivial (fun _ _ => ?_) fun i _ hi _ => ?_)))
   | with_reducible first | refine z0f ?_ | refine z0g ?_ | refine z0d ?_ | refine z0e ?_ | refine z0b ?_ | refine z0i ?_ | refine qs ?_ | refine qb ?_ | refine z0j ?_ | refine qw ?_ | refine z0n ?_ | refine z0l ?_ | refine qi ?_ | refine qg (h := ?_) | refine qx (h := ?_) | refine qy (h := ?_) | refine qa ?_ | refine qc ?_ | refine ql ?_ | refine qp ?_ | refine z0a ?_ | rfl
   | (with_reducible first | refine ok_lt ?_ ?_ | refine ok_le ?_ ?_ | refine z0h ?_ ?_ | refine z0k ?_ ?_ | refine z0m ?_ ?_ | refine qu ?_ ?_ | refine ok_if ?_ ?_) <;> intro _ <;> try (exfalso; omega)
 · unfold z5k zhb
   dsimp only
   repeat' first
     | (dsimp only [Int.toNat_natCast, List.length_nil])
     | with_reducible first | refine z0f ?_ | refine z0g ?_ | refine z0d ?_ | refine z0e ?_ | refine z0b ?_ | refine z0i ?_ | refine qs ?_ | refine qb ?_ | refine z0j ?_ | refine qw ?_ | refine z0n ?_ | refine z0l ?_ | refine qi ?_ | refine qg (h := ?_) | refine qx (h := ?_) | refine qy (h := ?_) | refine qa ?_ | refine qc ?_ | refine ql ?_ | refine qp ?_ | refine z0a ?_ | rfl
     | (with_reducible first | refine ok_lt ?_ ?_ | refine ok_le ?_ ?_ | refine z0h ?_ ?_ | refine z0k ?_ ?_ | refine z0m ?_ ?_ | refine qu ?_ ?_ | refine ok_if ?_ ?_) <;> intro _ <;> try (exfalso; omega)
 · unfold z5k zhb
   dsimp only
   repeat' first
     | (dsimp only [Int.toNat_natCast, List.length_nil])
     | with_reducible first | refine z0f ?_ | refine z0g ?_ | refine z0d ?_ | refine z0e ?_ | refine z0b ?_ | refine z0i ?_ | refine qs ?_ | refine qb ?_ | refine z0j ?_ | refine qw ?_ | refine z0n ?_ | refine z0l ?_ | refine qi ?_ | refine qg (h := ?_) | refine qx (h := ?_) | refine qy (h := ?_) | refine qa ?_ | refine qc ?_ | refine ql ?_ | refine qp ?_ | refine z0a ?_ | rfl
     | (with_reducible first | refine ok_lt ?_ ?_ | refine ok_le ?_ ?_ | refine z0h ?_ ?_ | refine z0k ?_ ?_ | refine z0m ?_ ?_ | refine qu ?_ ?_ | refine ok_if ?_ ?_) <;> intro _ <;> try (exfalso; omega)
   all_goals exact ⟨(), by rw [z0r (by omega)]; rfl, trivial⟩
theorem z1wi (e : T1) (h1 : e.2.2.2.2.2.2.1.length ≤ 10) (h2 : e.2.2.2.2.2.2.2.1.length ≤ 10) (obj dir gone base off data ward : Bool) : Ok (zb5 e obj dir gone base off data ward) fun r => r = true → base = false → e.2.2.2.2.2.2.2.1.length = 0 := by
 cases base with
 | true =>
   refine z8o (R := fun _ => True) ?_ fun _ _ _ h => by cases h
   unfold zb5
   repeat' first
     | (dsimp only [Int.toNat_natCast, List.length_nil])
     | ((with_reducible refine z1f (z1aj _) ?_); intro _ _)
     | with_reducible first | refine z0f ?_ | refine z0g ?_ | refine z0d ?_ | refine z0e ?_ | refine z0b ?_ | refine z0i ?_ | refine qs ?_ | refine qb ?_ | refine z0j ?_ | refine qw ?_ | refine z0n ?_ | refine z0l ?_ | refine qi ?_ | refine qg (h := ?_) | refine qx (h := ?_) | refine qy (h := ?_) | refine qa ?_ | refine qc ?_ | refine ql ?_ | refine qp ?_ | refine z0a ?_ | rfl
     | (with_reducible first | refine ok_lt ?_ ?_ | refine ok_le ?_ ?_ | refine z0h ?_ ?_ | refine z0k ?_ ?_ | refine z0m ?_ ?_ | refine qu ?_ ?_ | refine ok_if ?_ ?_) <;> intro _ <;> try (exfalso; omega)
 | false =>
   unfold zb5
   repeat' first
     | (dsimp only [Int.toNat_natCast, List.length_nil])
     | ((with_reducible refine z1f (z1aj _) ?_); intro _ _)
     | with_reducible first | refine z0f ?_ | refine z0g ?_ | refine z0d ?_ | refine z0e ?_ | refine z0b ?_ | refine z0i ?_ | refine qs ?_ | refine qb ?_ | refine z0j ?_ | refine qw ?_ | refine z0n ?_ | refine z0l ?_ | refine qi ?_ | refine qg (h := ?_) | refine qx (h := ?_) | refine qy (h := ?_) | refine qa ?_ | refine qc ?_ | refine ql ?_ | refine qp ?_ | refine z0a ?_ | rfl
     | (with_reducible first | refine ok_lt ?_ ?_ | refine ok_le ?_ ?_ | refine z0h ?_ ?_ | refine z0k ?_ ?_ | refine z0m ?_ ?_ | refine qu ?_ ?_ | refine ok_if ?_ ?_) <;> intro _ <;> try (exfalso; omega)
   all_goals first
     | (intro _ _; omega)
     | (intro h; exact absurd h (by simp))
structure Chk (e : T1) : Prop where
 rep : 1 ≤ e.1.1 ∧ e.1.1 ≤ 8
 seq : 1 ≤ e.1.2
 base : ¬ e.2.2.1 = 3 → ¬ e.2.2.1 = 4 → ¬ e.2.2.1 = 5 → e.2.2.2.2.2.2.2.1.length = 0
 pos : ∀ b, b ∈ e.2.2.2.2.2.2.2.1 → 0 < b.2
theorem z1v1 (e : T1) (h : EvIn e) : Ok (ztj e) fun r => r = true → Chk e := by
 have h1 := h.gone
 have h2 := h.base
 have h3 := h.name
 have h4 := h.data
 have h5 := h.dep
 have h6 : e.2.1.length = 8 := h.dep
 unfold z19z at h1
 unfold zi4 at h2
 unfold z1m9 at h4
 have look : Ok (loopC z3p (0, e)) (fun s => s = .inl e ∨ s = .inr false) := by
   refine z1o 8 (fun i (_ : Unit) => ((i : Int), e)) (fun i _ => True) () rfl trivial (fun _ _ => ?_) fun i _ hi _ => ?_
   · unfold z3p zfk
     dsimp only
     repeat' first
       | (dsimp only [Int.toNat_natCast, List.length_nil])
       | with_reducible first | refine z0f ?_ | refine z0g ?_ | refine z0d ?_ | refine z0e ?_ | refine z0b ?_ | refine z0i ?_ | refine qs ?_ | refine qb ?_ | refine z0j ?_ | refine qw ?_ | refine z0n ?_ | refine z0l ?_ | refine qi ?_ | refine qg (h := ?_) | refine qx (h := ?_) | refine qy (h := ?_) | refine qa ?_ | refine qc ?_ | refine ql ?_ | refine qp ?_ | refine z0a ?_ | rfl
       | (with_reducible first | refine ok_lt ?_ ?_ | refine ok_le ?_ ?_ | refine z0h ?_ ?_ | refine z0k ?_ ?_ | refine z0m ?_ ?_ | refine qu ?_ ?_ | refine ok_if ?_ ?_) <;> intro _ <;> try (exfalso; omega)
     exact .inl rfl
   · unfold z3p zfk
     dsimp only
     repeat' first
       | (dsimp only [Int.toNat_natCast, List.length_nil])
       | with_reducible first | refine z0f ?_ | refine z0g ?_ | refine z0d ?_ | refine z0e ?_ | refine z0b ?_ | refine z0i ?_ | refine qs ?_ | refine qb ?_ | refine z0j ?_ | refine qw ?_ | refine z0n ?_ | refine z0l ?_ | refine qi ?_ | refine qg (h := ?_) | refine qx (h := ?_) | refine qy (h := ?_) | refine qa ?_ | refine qc ?_ | refine ql ?_ | refine qp ?_ | refine z0a ?_ | rfl
       | (with_reducible first | refine ok_lt ?_ ?_ | refine ok_le ?_ ?_ | refine z0h ?_ ?_ | refine z0k ?_ ?_ | refine z0m ?_ ?_ | refine qu ?_ ?_ | refine ok_if ?_ ?_) <;> intro _ <;> try (exfalso; omega)
     · exact .inr rfl
     · exact ⟨(), by rw [z0r (by omega)]; rfl, trivial⟩
 unfold ztj
 repeat' first
   | (dsimp only [Int.toNat_natCast, List.length_nil])
   | ((with_reducible refine ok_eq (z1ig h5 _) ?_))
   | (with_reducible refine z1f look ?_)
   | with_reducible first | refine z0f ?_ | refine z0g ?_ | refine z0d ?_ | refine z0e ?_ | refine z0b ?_ | refine z0i ?_ | refine qs ?_ | refine qb ?_ | refine z0j ?_ | refine qw ?_ | refine z0n ?_ | refine z0l ?_ | refine qi ?_ | refine qg (h := ?_) | refine qx (h := ?_) | refine qy (h := ?_) | refine qa ?_ | refine qc ?_ | refine ql ?_ | refine qp ?_ | refine z0a ?_ | rfl
   | (with_reducible first | refine ok_lt ?_ ?_ | refine ok_le ?_ ?_ | refine z0h ?_ ?_ | refine z0k ?_ ?_ | refine z0m ?_ ?_ | refine qu ?_ ?_ | refine ok_if ?_ ?_) <;> intro _ <;> try (exfalso; omega)
 all_goals first
   | (intro h; exact absurd h (by simp))
   | skip
 rintro _ (rfl | rfl)
 · dsimp only [Sum.elim_inl]
   refine z1f (R := fun j => ∃ a b, j = (a, b, e)) ?_ ?_
   · repeat' first
       | (dsimp only [Int.toNat_natCast, List.length_nil])
       | ((with_reducible refine ok_eq (z1f1 h5 _) ?_))
       | ((with_reducible refine z1f (z1aj _) ?_); intro _ _)
       | with_reducible first | refine z0f ?_ | refine z0g ?_ | refine z0d ?_ | refine z0e ?_ | refine z0b ?_ | refine z0i ?_ | refine qs ?_ | refine qb ?_ | refine z0j ?_ | refine qw ?_ | refine z0n ?_ | refine z0l ?_ | refine qi ?_ | refine qg (h := ?_) | refine qx (h := ?_) | refine qy (h := ?_) | refine qa ?_ | refine qc ?_ | refine ql ?_ | refine qp ?_ | refine z0a ?_ | rfl
       | (with_reducible first | refine ok_lt ?_ ?_ | refine ok_le ?_ ?_ | refine z0h ?_ ?_ | refine z0k ?_ ?_ | refine z0m ?_ ?_ | refine qu ?_ ?_ | refine ok_if ?_ ?_) <;> intro _ <;> try (exfalso; omega)
     all_goals exact ⟨_, _, rfl⟩
   rintro _ ⟨a, b, rfl⟩
   dsimp only
   refine z1f (R := fun j => ∃ a b c d, j = (a, b, c, d, e) ∧ (d = true → ∀ x, x ∈ e.2.2.2.2.2.2.2.1 → 0 < x.2)) ?_ ?_
   · repeat' first
       | (dsimp only [Int.toNat_natCast, List.length_nil])
       | ((with_reducible refine z1f (z1wj (by omega) h5) ?_); intro _ _)
       | with_reducible first | refine z0f ?_ | refine z0g ?_ | refine z0d ?_ | refine z0e ?_ | refine z0b ?_ | refine z0i ?_ | refine qs ?_ | refine qb ?_ | refine z0j ?_ | refine qw ?_ | refine z0n ?_ | refine z0l ?_ | refine qi ?_ | refine qg (h := ?_) | refine qx (h := ?_) | refine qy (h := ?_) | refine qa ?_ | refine qc ?_ | refine ql ?_ | refine qp ?_ | refine z0a ?_ | rfl
       | (with_reducible first | refine ok_lt ?_ ?_ | refine ok_le ?_ ?_ | refine z0h ?_ ?_ | refine z0k ?_ ?_ | refine z0m ?_ ?_ | refine qu ?_ ?_ | refine ok_if ?_ ?_) <;> intro _ <;> try (exfalso; omega)
     all_goals exact ⟨_, _, _, _, rfl, by assumption⟩
   rintro _ ⟨a, b, c, d, rfl, hd⟩
   dsimp only
   refine z1f (R := fun j => ∃ f, j = (a, b, c, d, f, e)) ?_ ?_
   · repeat' first
       | (dsimp only [Int.toNat_natCast, List.length_nil])
       | with_reducible first | refine z0f ?_ | refine z0g ?_ | refine z0d ?_ | refine z0e ?_ | refine z0b ?_ | refine z0i ?_ | refine qs ?_ | refine qb ?_ | refine z0j ?_ | refine qw ?_ | refine z0n ?_ | refine z0l ?_ | refine qi ?_ | refine qg (h := ?_) | refine qx (h := ?_) | refine qy (h := ?_) | refine qa ?_ | refine qc ?_ | refine ql ?_ | refine qp ?_ | refine z0a ?_ | rfl
       | (with_reducible first | refine ok_lt ?_ ?_ | refine ok_le ?_ ?_ | refine z0h ?_ ?_ | refine z0k ?_ ?_ | refine z0m ?_ ?_ | refine qu ?_ ?_ | refine ok_if ?_ ?_) <;> intro _ <;> try (exfalso; omega)
     all_goals exact ⟨_, rfl⟩
   rintro _ ⟨f, rfl⟩
   dsimp only
   refine z1f (R := fun j => ∃ g, j = (a, b, c, d, f, e.2.2.1, g, e) ∧ (g = true → e.2.2.1 = 1 ∨ e.2.2.1 = 2)) ?_ ?_
   · repeat' first
       | (dsimp only [Int.toNat_natCast, List.length_nil])
       | with_reducible first | refine z0f ?_ | refine z0g ?_ | refine z0d ?_ | refine z0e ?_ | refine z0b ?_ | refine z0i ?_ | refine qs ?_ | refine qb ?_ | refine z0j ?_ | refine qw ?_ | refine z0n ?_ | refine z0l ?_ | refine qi ?_ | refine qg (h := ?_) | refine qx (h := ?_) | refine qy (h := ?_) | refine qa ?_ | refine qc ?_ | refine ql ?_ | refine qp ?_ | refine z0a ?_ | rfl
       | (with_reducible first | refine ok_lt ?_ ?_ | refine ok_le ?_ ?_ | refine z0h ?_ ?_ | refine z0k ?_ ?_ | refine z0m ?_ ?_ | refine qu ?_ ?_ | refine ok_if ?_ ?_) <;> intro _ <;> try (exfalso; omega)
     · exact ⟨_, rfl, fun _ => .inl (by assumption)⟩
     · exact ⟨_, rfl, fun h => .inr (of_decide_eq_true h)⟩
   rintro _ ⟨g, rfl, hg⟩
   dsimp only
   repeat' first
     | (dsimp only [Int.toNat_natCast, List.length_nil])
     | ((with_reducible refine z1f (z1x1 (by omega)) ?_); intro _ _)
     | ((with_reducible refine z1f (z1wi e h1 h2 _ _ _ _ _ _ _) ?_); intro _ hmd)
     | with_reducible first | refine z0f ?_ | refine z0g ?_ | refine z0d ?_ | refine z0e ?_ | refine z0b ?_ | refine z0i ?_ | refine qs ?_ | refine qb ?_ | refine z0j ?_ | refine qw ?_ | refine z0n ?_ | refine z0l ?_ | refine qi ?_ | refine qg (h := ?_) | refine qx (h := ?_) | refine qy (h := ?_) | refine qa ?_ | refine qc ?_ | refine ql ?_ | refine qp ?_ | refine z0a ?_ | rfl
     | (with_reducible first | refine ok_lt ?_ ?_ | refine ok_le ?_ ?_ | refine z0h ?_ ?_ | refine z0k ?_ ?_ | refine z0m ?_ ?_ | refine qu ?_ ?_ | refine ok_if ?_ ?_) <;> intro _ <;> try (exfalso; omega)
   all_goals first
     | (intro h; cases h; done)
     | (intro h
        have hb := hmd h rfl
        exact ⟨by omega, by omega, fun _ _ _ => hb, fun b hbm => by rw [List.eq_nil_of_length_eq_zero hb] at hbm; cases hbm⟩)
     | (intro h
        exact ⟨by omega, by omega, fun _ _ _ => by omega, hd (by assumption)⟩)
 · dsimp only [Sum.elim_inr]
   refine z0d ?_
   intro h; exact absurd h (by simp)
end Go.Proofs.Ytfbdjicfkcklfaa
set_option maxRecDepth 100000
set_option maxHeartbeats 2000000
set_option linter.unusedSimpArgs false
set_option linter.unusedVariables false
namespace Go.Proofs.Ytfbdjicfkcklfaa
open Go.Tm Go.Ab
def Objs (l : List T4) (id : T0) (r : T4 × Bool) : Prop := (r.2 = false ∧ ∀ o, o ∈ l → ¬ o.1 = id) ∨ (r.2 = true ∧ r.1 ∈ l ∧ r.1.1 = id)
theorem z1dq (s : T5) (id : T0) (hl : s.2.1.length ≤ 1000) : Ok (zle s id) fun r => Objs s.2.1 id r := by
 unfold zle
 refine z0a (z1o s.2.1.length (fun i (_ : Unit) => ((i : Int), s, id, ((0, 0), false, (0, 0), ([] : List Int), List.replicate 8 (0 : Int), ([] : List T3)))) (fun i _ => ∀ j (h : j < s.2.1.length), j < i → ¬ s.2.1[j].1 = id) () rfl (fun j _ h => by omega) (fun _ ha => ?_) fun i _ hi ha => ?_)
 · unfold z5e zgu
   dsimp only
   repeat' first
     | (dsimp only [Int.toNat_natCast, List.length_nil])
     | with_reducible first | refine z0f ?_ | refine z0g ?_ | refine z0d ?_ | refine z0e ?_ | refine z0b ?_ | refine z0i ?_ | refine qs ?_ | refine qb ?_ | refine z0j ?_ | refine qw ?_ | refine z0n ?_ | refine z0l ?_ | refine qi ?_ | refine qg (h := ?_) | refine qx (h := ?_) | refine qy (h := ?_) | refine qa ?_ | refine qc ?_ | refine ql ?_ | refine qp ?_ | refine z0a ?_ | rfl
     | (with_reducible first | refine ok_lt ?_ ?_ | refine ok_le ?_ ?_ | refine z0h ?_ ?_ | refine z0k ?_ ?_ | refine z0m ?_ ?_ | refine qu ?_ ?_ | refine ok_if ?_ ?_) <;> intro _ <;> try (exfalso; omega)
   refine .inl ⟨rfl, fun o ho => ?_⟩
   obtain ⟨j, hj, rfl⟩ := List.mem_iff_getElem.1 ho
   exact ha j hj hj
 · unfold z5e zgu
   dsimp only
   repeat' first
     | (dsimp only [Int.toNat_natCast, List.length_nil])
     | ((with_reducible refine z0z ?_ ?_) <;> intro _)
     | with_reducible first | refine z0f ?_ | refine z0g ?_ | refine z0d ?_ | refine z0e ?_ | refine z0b ?_ | refine z0i ?_ | refine qs ?_ | refine qb ?_ | refine z0j ?_ | refine qw ?_ | refine z0n ?_ | refine z0l ?_ | refine qi ?_ | refine qg (h := ?_) | refine qx (h := ?_) | refine qy (h := ?_) | refine qa ?_ | refine qc ?_ | refine ql ?_ | refine qp ?_ | refine z0a ?_ | rfl
     | (with_reducible first | refine ok_lt ?_ ?_ | refine ok_le ?_ ?_ | refine z0h ?_ ?_ | refine z0k ?_ ?_ | refine z0m ?_ ?_ | refine qu ?_ ?_ | refine ok_if ?_ ?_) <;> intro _ <;> try (exfalso; omega)
   · exact .inr ⟨rfl, List.getElem_mem hi, by assumption⟩
   · refine ⟨(), by rw [z0r (by omega)]; rfl, fun j hj hlt => ?_⟩
     by_cases e : j = i
     · subst e; assumption
     · exact ha j hj (by omega)
theorem z1tx (x : T0) : Ok (zvz x) fun r => r = true → x.1 = 0 ∧ x.2 = 0 := by
 unfold zvz
 repeat' first
   | (dsimp only [Int.toNat_natCast, List.length_nil])
   | with_reducible first | refine z0f ?_ | refine z0g ?_ | refine z0d ?_ | refine z0e ?_ | refine z0b ?_ | refine z0i ?_ | refine qs ?_ | refine qb ?_ | refine z0j ?_ | refine qw ?_ | refine z0n ?_ | refine z0l ?_ | refine qi ?_ | refine qg (h := ?_) | refine qx (h := ?_) | refine qy (h := ?_) | refine qa ?_ | refine qc ?_ | refine ql ?_ | refine qp ?_ | refine z0a ?_ | rfl
   | (with_reducible first | refine ok_lt ?_ ?_ | refine ok_le ?_ ?_ | refine z0h ?_ ?_ | refine z0k ?_ ?_ | refine z0m ?_ ?_ | refine qu ?_ ?_ | refine ok_if ?_ ?_) <;> intro _ <;> try (exfalso; omega)
 · exact fun h => ⟨by assumption, of_decide_eq_true h⟩
 · exact fun h => absurd h (by simp)
theorem z1tc (s : T5) (id : T0) (hl : s.2.1.length ≤ 1000) : Ok (ztq s id) fun r => r = 0 → id = (0, 0) ∨ ∃ o, o ∈ s.2.1 ∧ o.1 = id := by
 unfold ztq
 repeat' first
   | (dsimp only [Int.toNat_natCast, List.length_nil])
   | ((with_reducible refine z1f (z1tx _) ?_); intro _ hz)
   | ((with_reducible refine z1f (z1dq s id hl) ?_); rintro r (⟨h1, _⟩ | ⟨h1, h2, h3⟩))
   | with_reducible first | refine z0f ?_ | refine z0g ?_ | refine z0d ?_ | refine z0e ?_ | refine z0b ?_ | refine z0i ?_ | refine qs ?_ | refine qb ?_ | refine z0j ?_ | refine qw ?_ | refine z0n ?_ | refine z0l ?_ | refine qi ?_ | refine qg (h := ?_) | refine qx (h := ?_) | refine qy (h := ?_) | refine qa ?_ | refine qc ?_ | refine ql ?_ | refine qp ?_ | refine z0a ?_ | rfl
   | (with_reducible first | refine ok_lt ?_ ?_ | refine ok_le ?_ ?_ | refine z0h ?_ ?_ | refine z0k ?_ ?_ | refine z0m ?_ ?_ | refine qu ?_ ?_ | refine ok_if ?_ ?_) <;> intro _ <;> try (exfalso; omega)
 all_goals first
   | (intro h; cases h; done)
   | exact fun _ => .inl (Prod.ext (hz (by assumption)).1 (hz (by assumption)).2)
   | exact fun _ => .inr ⟨_, h2, h3⟩
   | (exfalso; simp_all; done)
structure WhyOk (s : T5) (e : T1) : Prop where
 chk : Chk e
 new : hasV s.1 e.1 = false
 dep : leqV e.2.1 s.1 = true
 dir : e.2.2.1 = 1 ∨ e.2.2.1 = 2 ∨ e.2.2.1 = 7 → e.2.2.2.2.1 = (0, 0) ∨ ∃ o, o ∈ s.2.1 ∧ o.1 = e.2.2.2.2.1
 obj : e.2.2.1 = 7 → ∃ o, o ∈ s.2.1 ∧ o.1 = e.2.2.2.1
 base : ∀ b, b ∈ e.2.2.2.2.2.2.2.1 → ∃ o, o ∈ s.2.1 ∧ ∃ v, v ∈ o.2.2.2.2.2 ∧ v.1 = b
theorem z1y7 {s : T5} {e : T1} (h : EvIn e) (hs : Sm s) (hr : s.2.2.2.2.length = 8) : Ok (z10j s e) fun r => r = 0 → WhyOk s e := by
 have h1 := h.base
 have h2 := hs.olen
 have nb : Chk e → ¬ e.2.2.1 = 3 → ¬ e.2.2.1 = 4 → ¬ e.2.2.1 = 5 → ∀ b, b ∈ e.2.2.2.2.2.2.2.1 → ∃ o, o ∈ s.2.1 ∧ ∃ v, v ∈ o.2.2.2.2.2 ∧ v.1 = b := fun hc a b c x hx => by
   rw [List.eq_nil_of_length_eq_zero (hc.base a b c)] at hx; cases hx
 unfold z10j
 refine z1f (z1v1 e h) ?_
 intro ck hck
 refine z0i ?_
 refine ok_if (fun hck1 => ?_) (fun _ => ?_)
 rotate_left
 · refine z0d ?_
   intro h; cases h
 replace hck := hck hck1
 have hrp := hck.rep
 have w1 : W64 (e.1.1 - 1) = e.1.1 - 1 := z0r (by omega)
 refine ok_eq (z1f1 hs.known _) ?_
 refine ok_if (fun _ => ?_) (fun hnew => ?_)
 · refine z0d ?_
   intro h; cases h
 refine ok_eq (z1uj h.dep hs.known) ?_
 refine z0i (ok_if (fun hdep => ?_) (fun _ => ?_))
 rotate_left
 · refine z0d ?_
   intro h; cases h
 rw [w1]
 refine ok_in (by first | omega | (simp only [List.length_set, List.length_append, List.length_cons, List.length_nil, List.length_replicate, List.length_take, List.length_drop, List.length_map, Int.toNat_natCast] <;> omega)) (z1sv (by first | omega | (simp only [List.length_set, List.length_append, List.length_cons, List.length_nil, List.length_replicate, List.length_take, List.length_drop, List.length_map, Int.toNat_natCast] <;> omega)) ?_)
 refine ok_if (fun _ => ?_) (fun _ => ?_)
 · refine z0d ?_
   intro h; cases h
 refine z0h (fun hk8 => z0d ?_) (fun hk8 => z0h (fun hk9 => z0d ?_) (fun hk9 => ?_))
 · exact fun _ => ⟨hck, hnew, hdep, fun h => by omega, fun h => by omega, nb hck (by omega) (by omega) (by omega)⟩
 · exact fun _ => ⟨hck, hnew, hdep, fun h => by omega, fun h => by omega, nb hck (by omega) (by omega) (by omega)⟩
 refine z1f (R := fun j => ∃ g, j = (g, s, e) ∧ ((g = true ∧ (e.2.2.1 = 1 ∨ e.2.2.1 = 2)) ∨ (g = false ∧ ¬ e.2.2.1 = 1 ∧ ¬ e.2.2.1 = 2))) ?_ ?_
 · refine z0h (fun h => z0d ⟨_, rfl, .inl ⟨rfl, .inl h⟩⟩) (fun h => z0d ⟨_, rfl, ?_⟩)
   by_cases h2 : e.2.2.1 = 2
   · exact .inl ⟨eqI_t h2, .inr h2⟩
   · exact .inr ⟨eqI_f h2, h, h2⟩
 rintro _ ⟨g, rfl, hg⟩
 dsimp only
 rcases hg with ⟨rfl, hg⟩ | ⟨rfl, hg1, hg2⟩
 · refine z0e (z1f (z1tc s _ h2) fun r hd => z0d fun e0 => ?_)
   exact ⟨hck, hnew, hdep, fun _ => hd e0, fun h => by omega, nb hck (by omega) (by omega) (by omega)⟩
 refine z0b (z1f (z1dq s _ h2) ?_)
 rintro ⟨o, f⟩ (⟨rfl, _⟩ | ⟨rfl, ho, hid⟩)
 · dsimp only
   refine z0i (z0b (z0d ?_))
   intro h; cases h
 dsimp only at ho hid ⊢
 refine z0i (z0e ?_)
 refine z0h (fun hk7 => ?_) fun hk7 => z0h (fun hk6 => z0d fun _ => ?_) fun hk6 => ?_
 · refine z1f (z1tc s _ h2) fun r hd => z0d fun e0 => ?_
   exact ⟨hck, hnew, hdep, fun _ => hd e0, fun _ => ⟨o, ho, hid⟩, nb hck (by omega) (by omega) (by omega)⟩
 · exact ⟨hck, hnew, hdep, fun h => by omega, fun h => by omega, nb hck (by omega) (by omega) (by omega)⟩
 refine ok_if (fun _ => ?_) (fun _ => ?_)
 · refine z0d ?_
   intro h; cases h
 have hov := (hs.obj o ho).len
 refine z1f (R := fun x => (∃ n : Int, x = .inr n ∧ ¬ n = 0) ∨ (x = .inl () ∧ ∀ b, b ∈ e.2.2.2.2.2.2.2.1 → ∃ v, v ∈ o.2.2.2.2.2 ∧ v.1 = b)) ?_ ?_
 · refine z1o e.2.2.2.2.2.2.2.1.length (fun i (_ : Unit) => ((i : Int), e, o)) (fun i _ => ∀ j (h : j < e.2.2.2.2.2.2.2.1.length), j < i → ∃ v, v ∈ o.2.2.2.2.2 ∧ v.1 = e.2.2.2.2.2.2.2.1[j]) () rfl (fun j _ h => by omega) (fun _ ha => ?_) fun i _ hi ha => ?_
   · unfold zi4 at h1
     unfold z1k z6n
     dsimp only
     repeat' first
       | (dsimp only [Int.toNat_natCast, List.length_nil])
       | with_reducible first | refine z0f ?_ | refine z0g ?_ | refine z0d ?_ | refine z0e ?_ | refine z0b ?_ | refine z0i ?_ | refine qs ?_ | refine qb ?_ | refine z0j ?_ | refine qw ?_ | refine z0n ?_ | refine z0l ?_ | refine qi ?_ | refine qg (h := ?_) | refine qx (h := ?_) | refine qy (h := ?_) | refine qa ?_ | refine qc ?_ | refine ql ?_ | refine qp ?_ | refine z0a ?_ | rfl
       | (with_reducible first | refine ok_lt ?_ ?_ | refine ok_le ?_ ?_ | refine z0h ?_ ?_ | refine z0k ?_ ?_ | refine z0m ?_ ?_ | refine qu ?_ ?_ | refine ok_if ?_ ?_) <;> intro _ <;> try (exfalso; omega)
     refine .inr ⟨rfl, fun b hb => ?_⟩
     obtain ⟨j, hj, rfl⟩ := List.mem_iff_getElem.1 hb
     exact ha j hj hj
   · unfold zi4 at h1
     unfold z1k z6n
     dsimp only
     repeat' first
       | (dsimp only [Int.toNat_natCast, List.length_nil])
       | ((with_reducible refine z1f (z1xd _ _ (by omega)) ?_); intro _ hdata)
       | with_reducible first | refine z0f ?_ | refine z0g ?_ | refine z0d ?_ | refine z0e ?_ | refine z0b ?_ | refine z0i ?_ | refine qs ?_ | refine qb ?_ | refine z0j ?_ | refine qw ?_ | refine z0n ?_ | refine z0l ?_ | refine qi ?_ | refine qg (h := ?_) | refine qx (h := ?_) | refine qy (h := ?_) | refine qa ?_ | refine qc ?_ | refine ql ?_ | refine qp ?_ | refine z0a ?_ | rfl
       | (with_reducible first | refine ok_lt ?_ ?_ | refine ok_le ?_ ?_ | refine z0h ?_ ?_ | refine z0k ?_ ?_ | refine z0m ?_ ?_ | refine qu ?_ ?_ | refine ok_if ?_ ?_) <;> intro _ <;> try (exfalso; omega)
     · refine ⟨(), by rw [z0r (by omega)]; rfl, fun j hj hlt => ?_⟩
       by_cases e : j = i
       · subst e
         rcases hdata (by assumption) with hz | hz
         · have := hck.pos _ (List.getElem_mem hi)
           omega
         · exact hz
       · exact ha j hj (by omega)
     · exact .inl ⟨_, rfl, by omega⟩
 rintro x (⟨n, rfl, hn⟩ | ⟨rfl, hb⟩)
 · dsimp only [Sum.elim_inr]
   exact z0d fun h => absurd h hn
 · dsimp only [Sum.elim_inl]
   exact z0d fun _ => ⟨hck, hnew, hdep, fun h => by omega, fun h => by omega, fun b hb' => ⟨o, ho, hb b hb'⟩⟩
theorem z1cj {l : List T1} {s : T5} (h : StOk l (z6q l) s) (hl : l.length ≤ 1000) : Sm s where
 known := by rw [h.known]; exact (zca l).1
 olen := Nat.le_trans h.olen hl
 obj := fun o ho => ⟨(h.obj o ho).seen.v, Nat.le_trans (h.obj o ho).len hl, fun v hv => ((h.obj o ho).vers v hv).by'.v⟩
 elen := Nat.le_trans h.elen hl
 ent := fun x hx => (h.ent x hx).by'.v
structure TakeOk (l : List T1) : Prop where
 evs : Evs l (z6q l)
 nd : ∀ j k (h : j < l.length) (g : k < l.length), l[j].1 = l[k].1 → j = k
 seq : ∀ e, e ∈ l → 1 ≤ e.1.2
 dir : ∀ e, e ∈ l → e.2.2.1 = 1 ∨ e.2.2.1 = 2 ∨ e.2.2.1 = 7 → e.2.2.2.2.1 = (0, 0) ∨ ∃ x, x ∈ l ∧ makes x ∧ x.1 = e.2.2.2.2.1
 obj : ∀ e, e ∈ l → e.2.2.1 = 7 → ∃ x, x ∈ l ∧ makes x ∧ x.1 = e.2.2.2.1
theorem z1qs : TakeOk [] where
 evs := ⟨Nat.zero_le _, fun e h => (by cases h), fun i h => (by cases h), fun e h => (by cases h), (zca []).1, (zca []).2, fun e h => (by cases h), fun e h => (by cases h)⟩
 nd := fun j k h => by cases h
 seq := fun e h => by cases h
 dir := fun e h => by cases h
 obj := fun e h => by cases h
theorem z1r9 {l : List T1} {s : T5} {x : T1} (h : TakeOk l) (hs : StOk l (z6q l) s) (hx : EvIn x) (hw : WhyOk s x) (hl : l.length < 1000) : TakeOk (l ++ [x]) := by
 have hk := zca l
 have e := z1hh l x
 have hle : leV (z6q l) (z6q (l ++ [x])) := by rw [e]; exact z16l hk.1 (zew _)
 have hm : ∀ y, y ∈ l ++ [x] → y ∈ l ∨ y = x := fun y hy => by simpa using hy
 have hsm := z1cj hs (by omega)
 have chain0 := h.evs.chain
 refine ⟨⟨by simp; omega, fun y hy => ?_, ?_, fun y hy => ?_, (zca _).1, (zca _).2, fun y hy => ?_, fun y hy => ?_⟩, ?_, fun y hy => ?_, fun y hy hk' => ?_, fun y hy hk' => ?_⟩
 · rcases hm y hy with hy | rfl
   · exact h.evs.ev y hy
   · exact hx
 · intro i hi b hb
   by_cases hlt : i < l.length
   · rw [List.getElem_append_left hlt] at hb
     obtain ⟨j, hj, h1, h2⟩ := chain0 i hlt b hb
     exact ⟨j, by simp; omega, h1, by rw [List.getElem_append_left hj]; exact h2⟩
   · have hi' : i = l.length := by simp at hi; omega
     subst hi'
     rw [List.getElem_append_right (Nat.le_refl _)] at hb
     simp only [Nat.sub_self, List.getElem_singleton] at hb
     obtain ⟨o, ho, v, hv, rfl⟩ := hw.base b (List.mem_of_getElem? hb)
     obtain ⟨y, hy, h1, _⟩ := ((hs.obj o ho).vers v hv).ev
     obtain ⟨j, hj, rfl⟩ := List.mem_iff_getElem.1 hy
     exact ⟨j, by simp; omega, hj, by rw [List.getElem_append_left hj]; exact h1.symm⟩
 · rcases hm y hy with hy | rfl
   · exact h.evs.rep y hy
   · exact hw.chk.rep
 · rcases hm y hy with hy | rfl
   · exact z1ej hle (h.evs.means y hy)
   · rw [e]; exact z1eo hk.1 hw.chk.rep
 · rcases hm y hy with hy | rfl
   · exact z11k (h.evs.dep y hy) hle
   · have := hw.dep
     rw [zp7 hx.dep hsm.known, hs.known] at this
     exact z11k this hle
 · have key : ∀ j (hj : j < l.length), ¬ l[j].1 = x.1 := fun j hj he => by
     have h1 := h.evs.means _ (List.getElem_mem hj)
     rw [he] at h1
     have h2 := hw.new
     rw [hs.known] at h2
     unfold hasV at h2
     rw [ltI_t (by have := hw.chk.seq; omega), leI_t h1] at h2
     cases h2
   intro j k hj hk' he
   by_cases h1 : j < l.length <;> by_cases h2 : k < l.length
   · rw [List.getElem_append_left h1, List.getElem_append_left h2] at he
     exact h.nd j k h1 h2 he
   · rw [List.getElem_append_left h1, List.getElem_append_right (by omega)] at he
     simp only [List.getElem_singleton] at he
     exact absurd he (key j h1)
   · rw [List.getElem_append_left h2, List.getElem_append_right (by omega)] at he
     simp only [List.getElem_singleton] at he
     exact absurd he.symm (key k h2)
   · simp at hj hk'; omega
 · rcases hm y hy with hy | rfl
   · exact h.seq y hy
   · exact hw.chk.seq
 · rcases hm y hy with hy | rfl
   · rcases h.dir y hy hk' with h1 | ⟨z, h1, h2⟩
     · exact .inl h1
     · exact .inr ⟨z, by simp [h1], h2⟩
   · rcases hw.dir hk' with h1 | ⟨o, ho, h1⟩
     · exact .inl h1
     · obtain ⟨z, h3, h4, h5⟩ := hs.mem o ho
       exact .inr ⟨z, by simp [h3], h4, by rw [← h5, h1]⟩
 · rcases hm y hy with hy | rfl
   · obtain ⟨z, h1, h2⟩ := h.obj y hy hk'
     exact ⟨z, by simp [h1], h2⟩
   · obtain ⟨o, ho, h1⟩ := hw.obj hk'
     obtain ⟨z, h3, h4, h5⟩ := hs.mem o ho
     exact ⟨z, by simp [h3], h4, by rw [← h5, h1]⟩
theorem z1x9 {l : List T1} (hl : l.length ≤ 100) (hin : ∀ e, e ∈ l → EvIn e) : Ok (zrl l) fun r => TakeOk r ∧ r.length ≤ 100 := by
 unfold zrl
 refine zbf rfl (z0a (z1o l.length (fun i (a : List T1) => (l, (i : Int), a)) (fun i a => a.length ≤ i ∧ TakeOk a) [] rfl ⟨Nat.zero_le _, z1qs⟩ (fun a ha => ?_) fun i a hi ha => ?_))
 · obtain ⟨h1, h2⟩ := ha
   unfold z5j zgz
   dsimp only
   repeat' first
     | (dsimp only [Int.toNat_natCast, List.length_nil])
     | with_reducible first | refine z0f ?_ | refine z0g ?_ | refine z0d ?_ | refine z0e ?_ | refine z0b ?_ | refine z0i ?_ | refine qs ?_ | refine qb ?_ | refine z0j ?_ | refine qw ?_ | refine z0n ?_ | refine z0l ?_ | refine qi ?_ | refine qg (h := ?_) | refine qx (h := ?_) | refine qy (h := ?_) | refine qa ?_ | refine qc ?_ | refine ql ?_ | refine qp ?_ | refine z0a ?_ | rfl
     | (with_reducible first | refine ok_lt ?_ ?_ | refine ok_le ?_ ?_ | refine z0h ?_ ?_ | refine z0k ?_ ?_ | refine z0m ?_ ?_ | refine qu ?_ ?_ | refine ok_if ?_ ?_) <;> intro _ <;> try (exfalso; omega)
   exact ⟨h2, by omega⟩
 · obtain ⟨h1, h2⟩ := ha
   unfold z5j zgz
   dsimp only
   have hmi := hin _ (List.getElem_mem hi)
   refine z8t (by omega) (ok_lt (fun _ => ?_) fun _ => by omega)
   refine zbf rfl (z1f (z1uc h2.evs) ?_)
   rintro ⟨r1, r2, r3, r4, r5, r6⟩ ⟨hst, hr⟩
   dsimp only at hst hr ⊢
   subst hr
   have hsm := z1cj hst (by omega)
   have hr8 := hst.r
   refine z1n2 hi (z0j (z1f (z1y7 hmi hsm hr8) ?_))
   intro w hw
   refine z0h (fun hw0 => ?_) fun hw0 => ?_
   · repeat' first
       | (dsimp only [Int.toNat_natCast, List.length_nil])
       | with_reducible first | refine z0f ?_ | refine z0g ?_ | refine z0d ?_ | refine z0e ?_ | refine z0b ?_ | refine z0i ?_ | refine qs ?_ | refine qb ?_ | refine z0j ?_ | refine qw ?_ | refine z0n ?_ | refine z0l ?_ | refine qi ?_ | refine qg (h := ?_) | refine qx (h := ?_) | refine qy (h := ?_) | refine qa ?_ | refine qc ?_ | refine ql ?_ | refine qp ?_ | refine z0a ?_ | rfl
       | (with_reducible first | refine ok_lt ?_ ?_ | refine ok_le ?_ ?_ | refine z0h ?_ ?_ | refine z0k ?_ ?_ | refine z0m ?_ ?_ | refine qu ?_ ?_ | refine ok_if ?_ ?_) <;> intro _ <;> try (exfalso; omega)
     exact ⟨_, by rw [z0r (by omega)]; rfl, by simp; omega, z1r9 h2 hst hmi (hw hw0) (by omega)⟩
   · repeat' first
       | (dsimp only [Int.toNat_natCast, List.length_nil])
       | with_reducible first | refine z0f ?_ | refine z0g ?_ | refine z0d ?_ | refine z0e ?_ | refine z0b ?_ | refine z0i ?_ | refine qs ?_ | refine qb ?_ | refine z0j ?_ | refine qw ?_ | refine z0n ?_ | refine z0l ?_ | refine qi ?_ | refine qg (h := ?_) | refine qx (h := ?_) | refine qy (h := ?_) | refine qa ?_ | refine qc ?_ | refine ql ?_ | refine qp ?_ | refine z0a ?_ | rfl
       | (with_reducible first | refine ok_lt ?_ ?_ | refine ok_le ?_ ?_ | refine z0h ?_ ?_ | refine z0k ?_ ?_ | refine z0m ?_ ?_ | refine qu ?_ ?_ | refine ok_if ?_ ?_) <;> intro _ <;> try (exfalso; omega)
     exact ⟨_, by rw [z0r (by omega)]; rfl, by omega, h2⟩
end Go.Proofs.Ytfbdjicfkcklfaa
set_option maxRecDepth 100000
set_option maxHeartbeats 2000000
set_option linter.unusedSimpArgs false
set_option linter.unusedVariables false
namespace Go.Proofs.Ytfbdjicfkcklfaa
open Go.Tm Go.Ab
def ev0 : T1 := ((1, 1), List.replicate 8 (0 : Int), 1, (0, 0), (0, 0), ([97] : List Int), [], [], 0, [], 0)
def ev1 : T1 := ((1, 2), (List.replicate 8 (0 : Int)).set 0 1, 6, (1, 1), (0, 0), [], ([(1, 1)] : List T0), [], 0, [], 0)
theorem w1 : W64 (0 + 1) = 1 := z0r (by omega)
theorem w2 : W64 (1 + 1) = 2 := z0r (by omega)
theorem w0 : W64 (1 - 1) = 0 := z0r (by omega)
theorem i0 : idxI [ev0, ev1] 0 = some ev0 := rfl
theorem i1 : idxI [ev0, ev1] 1 = some ev1 := rfl
theorem l2 : ([ev0, ev1] : List T1).length = 2 := rfl
theorem z1wl (x : T0) : zha [x] x = some true := by
 refine ok_is ?_
 unfold zha
 refine z0a (z1o 1 (fun i (_ : Unit) => ([x], (i : Int), x)) (fun i _ => i = 0) () rfl rfl (fun _ h => by omega) fun i _ hi h0 => ?_)
 subst h0
 unfold z6t zgi
 dsimp only
 have hl : ([x] : List T0).length = 1 := rfl
 repeat' first
   | (dsimp only [Int.toNat_natCast, List.length_nil])
   | ((with_reducible refine ok_eq (show idxI [x] ((0 : Nat) : Int) = some x from rfl) ?_))
   | ((with_reducible refine z0z ?_ ?_) <;> intro _)
   | with_reducible first | refine z0f ?_ | refine z0g ?_ | refine z0d ?_ | refine z0e ?_ | refine z0b ?_ | refine z0i ?_ | refine qs ?_ | refine qb ?_ | refine z0j ?_ | refine qw ?_ | refine z0n ?_ | refine z0l ?_ | refine qi ?_ | refine qg (h := ?_) | refine qx (h := ?_) | refine qy (h := ?_) | refine qa ?_ | refine qc ?_ | refine ql ?_ | refine qp ?_ | refine z0a ?_ | rfl
   | (with_reducible first | refine ok_lt ?_ ?_ | refine ok_le ?_ ?_ | refine z0h ?_ ?_ | refine z0k ?_ ?_ | refine z0m ?_ ?_ | refine qu ?_ ?_ | refine ok_if ?_ ?_) <;> intro _ <;> try (exfalso; omega)
 all_goals (rename_i e; exact absurd rfl e)
theorem z1x2 (x : T2) : zg1 [] x = some [x] := by
 refine ok_is ?_
 unfold zg1
 refine zbf rfl (z0a (z1o 0 (fun i (_ : Unit) => ([], false, (i : Int), x, [])) (fun i _ => True) () rfl trivial (fun _ _ => ?_) fun i _ hi _ => by omega))
 unfold z3o zce
 dsimp only
 repeat' first
   | (dsimp only [Int.toNat_natCast, List.length_nil])
   | with_reducible first | refine z0f ?_ | refine z0g ?_ | refine z0d ?_ | refine z0e ?_ | refine z0b ?_ | refine z0i ?_ | refine qs ?_ | refine qb ?_ | refine z0j ?_ | refine qw ?_ | refine z0n ?_ | refine z0l ?_ | refine qi ?_ | refine qg (h := ?_) | refine qx (h := ?_) | refine qy (h := ?_) | refine qa ?_ | refine qc ?_ | refine ql ?_ | refine qp ?_ | refine z0a ?_ | rfl
   | (with_reducible first | refine ok_lt ?_ ?_ | refine ok_le ?_ ?_ | refine z0h ?_ ?_ | refine z0k ?_ ?_ | refine z0m ?_ ?_ | refine qu ?_ ?_ | refine ok_if ?_ ?_) <;> intro _ <;> try (exfalso; omega)
 rfl
def ent0 : T2 := ((1, 1), (0, 0), [97], (1, 1), withV (List.replicate 8 0) (1, 2))
theorem z1rq : loopC z0v ([ev0, ev1], [], 0, 0, ((1, 1), (0, 0), [97], (1, 1), List.replicate 8 (0 : Int))) = some ([ev0, ev1], [], 0, ent0) := by
 refine ok_is ?_
 have hl : ([ev0, ev1] : List T1).length = 2 := rfl
 refine z1o 2 (fun k (b : List Int) => ([ev0, ev1], [], 0, (k : Int), ((1, 1), (0, 0), [97], (1, 1), b))) (fun k b => b = if k ≤ 1 then List.replicate 8 0 else withV (List.replicate 8 0) (1, 2)) (List.replicate 8 0) rfl rfl (fun b hb => ?_) fun k b hk hb => ?_
 · unfold z0v z1z
   dsimp only
   repeat' first
     | (dsimp only [Int.toNat_natCast, List.length_nil])
     | with_reducible first | refine z0f ?_ | refine z0g ?_ | refine z0d ?_ | refine z0e ?_ | refine z0b ?_ | refine z0i ?_ | refine qs ?_ | refine qb ?_ | refine z0j ?_ | refine qw ?_ | refine z0n ?_ | refine z0l ?_ | refine qi ?_ | refine qg (h := ?_) | refine qx (h := ?_) | refine qy (h := ?_) | refine qa ?_ | refine qc ?_ | refine ql ?_ | refine qp ?_ | refine z0a ?_ | rfl
     | (with_reducible first | refine ok_lt ?_ ?_ | refine ok_le ?_ ?_ | refine z0h ?_ ?_ | refine z0k ?_ ?_ | refine z0m ?_ ?_ | refine qu ?_ ?_ | refine ok_if ?_ ?_) <;> intro _ <;> try (exfalso; omega)
   rw [hb]; rfl
 · unfold z0v z1z
   dsimp only
   have k0 : ev0.2.2.1 = 1 := rfl
   have k1 : ev1.2.2.1 = 6 := rfl
   have hk' : k = 0 ∨ k = 1 := by omega
   rcases hk' with rfl | rfl
   · repeat' first
       | (dsimp only [Int.toNat_natCast, List.length_nil])
       | ((with_reducible refine ok_eq (show idxI [ev0, ev1] ((0 : Nat) : Int) = some ev0 from rfl) ?_))
       | with_reducible first | refine z0f ?_ | refine z0g ?_ | refine z0d ?_ | refine z0e ?_ | refine z0b ?_ | refine z0i ?_ | refine qs ?_ | refine qb ?_ | refine z0j ?_ | refine qw ?_ | refine z0n ?_ | refine z0l ?_ | refine qi ?_ | refine qg (h := ?_) | refine qx (h := ?_) | refine qy (h := ?_) | refine qa ?_ | refine qc ?_ | refine ql ?_ | refine qp ?_ | refine z0a ?_ | rfl
       | (with_reducible first | refine ok_lt ?_ ?_ | refine ok_le ?_ ?_ | refine z0h ?_ ?_ | refine z0k ?_ ?_ | refine z0m ?_ ?_ | refine qu ?_ ?_ | refine ok_if ?_ ?_) <;> intro _ <;> try (exfalso; omega)
     exact ⟨_, by rw [z0r (by omega)]; rfl, hb⟩
   · have hb' : b = List.replicate 8 (0 : Int) := hb
     subst hb'
     repeat' first
       | (dsimp only [Int.toNat_natCast, List.length_nil])
       | ((with_reducible refine ok_eq (show idxI [ev0, ev1] ((1 : Nat) : Int) = some ev1 from rfl) ?_))
       | ((with_reducible refine z0z ?_ ?_) <;> intro _)
       | (apply ok_eq (z1wl (1, 1)))
       | (apply ok_eq (zk5 zsv _))
       | with_reducible first | refine z0f ?_ | refine z0g ?_ | refine z0d ?_ | refine z0e ?_ | refine z0b ?_ | refine z0i ?_ | refine qs ?_ | refine qb ?_ | refine z0j ?_ | refine qw ?_ | refine z0n ?_ | refine z0l ?_ | refine qi ?_ | refine qg (h := ?_) | refine qx (h := ?_) | refine qy (h := ?_) | refine qa ?_ | refine qc ?_ | refine ql ?_ | refine qp ?_ | refine z0a ?_ | rfl
       | (with_reducible first | refine ok_lt ?_ ?_ | refine ok_le ?_ ?_ | refine z0h ?_ ?_ | refine z0k ?_ ?_ | refine z0m ?_ ?_ | refine qu ?_ ?_ | refine ok_if ?_ ?_) <;> intro _ <;> try (exfalso; omega)
     all_goals first
       | (exfalso; rename_i e; exact e rfl)
       | exact ⟨_, by rw [z0r (by omega)]; rfl, rfl⟩
theorem z1lc : ze2 [ev0, ev1] = some [ent0] := by
 refine ok_is ?_
 have hl : ([ev0, ev1] : List T1).length = 2 := rfl
 unfold ze2
 refine z0a (z1o 2 (fun i (a : List T2) => ([ev0, ev1], a, (i : Int))) (fun i a => a = if i = 0 then [] else [ent0]) [] rfl rfl (fun a ha => ?_) fun i a hi ha => ?_)
 · unfold z2s z8h
   dsimp only
   repeat' first
     | (dsimp only [Int.toNat_natCast, List.length_nil])
     | with_reducible first | refine z0f ?_ | refine z0g ?_ | refine z0d ?_ | refine z0e ?_ | refine z0b ?_ | refine z0i ?_ | refine qs ?_ | refine qb ?_ | refine z0j ?_ | refine qw ?_ | refine z0n ?_ | refine z0l ?_ | refine qi ?_ | refine qg (h := ?_) | refine qx (h := ?_) | refine qy (h := ?_) | refine qa ?_ | refine qc ?_ | refine ql ?_ | refine qp ?_ | refine z0a ?_ | rfl
     | (with_reducible first | refine ok_lt ?_ ?_ | refine ok_le ?_ ?_ | refine z0h ?_ ?_ | refine z0k ?_ ?_ | refine z0m ?_ ?_ | refine qu ?_ ?_ | refine ok_if ?_ ?_) <;> intro _ <;> try (exfalso; omega)
   rw [ha]; rfl
 · unfold z2s z8h
   dsimp only
   have k0 : ev0.2.2.1 = 1 := rfl
   have k1 : ev1.2.2.1 = 6 := rfl
   have hi' : i = 0 ∨ i = 1 := by omega
   rcases hi' with rfl | rfl
   · have ha' : a = [] := ha
     subst ha'
     repeat' first
       | (dsimp only [Int.toNat_natCast, List.length_nil])
       | ((with_reducible refine ok_eq (show idxI [ev0, ev1] ((0 : Nat) : Int) = some ev0 from rfl) ?_))
       | (apply ok_eq z1rq)
       | ((with_reducible refine ok_eq (z1x2 _) ?_))
       | with_reducible first | refine z0f ?_ | refine z0g ?_ | refine z0d ?_ | refine z0e ?_ | refine z0b ?_ | refine z0i ?_ | refine qs ?_ | refine qb ?_ | refine z0j ?_ | refine qw ?_ | refine z0n ?_ | refine z0l ?_ | refine qi ?_ | refine qg (h := ?_) | refine qx (h := ?_) | refine qy (h := ?_) | refine qa ?_ | refine qc ?_ | refine ql ?_ | refine qp ?_ | refine z0a ?_ | rfl
       | (with_reducible first | refine ok_lt ?_ ?_ | refine ok_le ?_ ?_ | refine z0h ?_ ?_ | refine z0k ?_ ?_ | refine z0m ?_ ?_ | refine qu ?_ ?_ | refine ok_if ?_ ?_) <;> intro _ <;> try (exfalso; omega)
     all_goals exact ⟨_, by rw [z0r (by omega)]; rfl, rfl⟩
   · have ha' : a = [ent0] := ha
     subst ha'
     repeat' first
       | (dsimp only [Int.toNat_natCast, List.length_nil])
       | ((with_reducible refine ok_eq (show idxI [ev0, ev1] ((1 : Nat) : Int) = some ev1 from rfl) ?_))
       | with_reducible first | refine z0f ?_ | refine z0g ?_ | refine z0d ?_ | refine z0e ?_ | refine z0b ?_ | refine z0i ?_ | refine qs ?_ | refine qb ?_ | refine z0j ?_ | refine qw ?_ | refine z0n ?_ | refine z0l ?_ | refine qi ?_ | refine qg (h := ?_) | refine qx (h := ?_) | refine qy (h := ?_) | refine qa ?_ | refine qc ?_ | refine ql ?_ | refine qp ?_ | refine z0a ?_ | rfl
       | (with_reducible first | refine ok_lt ?_ ?_ | refine ok_le ?_ ?_ | refine z0h ?_ ?_ | refine z0k ?_ ?_ | refine z0m ?_ ?_ | refine qu ?_ ?_ | refine ok_if ?_ ?_) <;> intro _ <;> try (exfalso; omega)
     all_goals exact ⟨_, by rw [z0r (by omega)]; rfl, rfl⟩
theorem z1s8 : Evs [ev0, ev1] (z6q [ev0, ev1]) := by
 have hin : ∀ e, e ∈ [ev0, ev1] → EvIn e ∧ (1 ≤ e.1.1 ∧ e.1.1 ≤ 8) ∧ (zi4 e)[0]? = none ∧ leqV e.2.1 (z6q [ev0, ev1]) = true := fun e he => by
   simp only [List.mem_cons, List.not_mem_nil, or_false] at he
   rcases he with rfl | rfl
   · exact ⟨⟨rfl, z10k, by decide, by decide, by decide, by decide, by decide⟩, by decide, rfl, by decide⟩
   · exact ⟨⟨rfl, fun i hi => by
       have : ∀ i, i < 8 → 0 ≤ (ev1.2.1[i]?).getD 0 := by decide
       exact this i hi, by decide, by decide, by decide, by decide, by decide⟩, by decide, rfl, by decide⟩
 refine ⟨by decide, fun e he => (hin e he).1, fun i hi b hb => ?_, fun e he => (hin e he).2.1, (zca _).1, (zca _).2, fun e he => ?_, fun e he => ?_⟩
 · rw [(hin _ (List.getElem_mem hi)).2.2.1] at hb; cases hb
 · exact z1dt _ _ zsv z10k e he (hin e he).2.1
 · exact (zp7 (hin e he).1.dep (zca _).1).1 (hin e he).2.2.2
theorem z1md : zd6 = some true := by
 have hK : z6q [ev0, ev1] = [2, 0, 0, 0, 0, 0, 0, 0] := by decide
 have E := z1s8
 have hb := z1k3 E z1lc
 refine ok_is ?_
 unfold zd6
 refine z1f (show Ok (zet _) _ from hb) ?_
 rintro ⟨k, objs, ents, w, rt⟩ ⟨hs, he⟩
 have hsm := z1cj hs (by decide)
 dsimp only at he
 subst he
 have hk : k = [2, 0, 0, 0, 0, 0, 0, 0] := hs.known.trans hK
 have hob : ∃ o, objs = [o] := by
   obtain ⟨o, ho, h1⟩ := hs.all ev0 (by simp) (.inl rfl)
   have hid : ∀ x, x ∈ objs → x.1 = (1, 1) := fun x hx => by
     obtain ⟨e, he, h2, h3⟩ := hs.mem x hx
     simp only [List.mem_cons, List.not_mem_nil, or_false] at he
     rcases he with rfl | rfl
     · exact h3
     · rcases h2 with h2 | h2 <;> cases h2
   have hnd := hs.nd (fun j k hj hk => by
     have : ∀ j, j < 2 → ∀ k, k < 2 → ∀ (hj : j < [ev0, ev1].length) (hk : k < [ev0, ev1].length), [ev0, ev1][j].1 = [ev0, ev1][k].1 → j = k := by
       intro j hj k hk
       have h1 : j = 0 ∨ j = 1 := by omega
       have h2 : k = 0 ∨ k = 1 := by omega
       rcases h1 with rfl | rfl <;> rcases h2 with rfl | rfl <;> intro _ _ h <;> first | rfl | cases h
     exact this j hj k hk hj hk)
   dsimp only at hnd ho
   match objs, ho, hid, hnd with
   | [o], _, _, _ => exact ⟨o, rfl⟩
   | a :: b :: l, _, hid, hnd =>
     exfalso
     rw [List.map_cons, List.map_cons, List.nodup_cons] at hnd
     exact hnd.1 (by rw [hid a (by simp), hid b (by simp)]; exact List.mem_cons_self ..)
 obtain ⟨o, rfl⟩ := hob
 have hoid : o.1 = (1, 1) := by
   obtain ⟨e, he, h2, h3⟩ := hs.mem o (by simp)
   simp only [List.mem_cons, List.not_mem_nil, or_false] at he
   rcases he with rfl | rfl
   · exact h3
   · rcases h2 with h2 | h2 <;> cases h2
 have hoo := hs.obj o (by simp)
 have hov : o.2.2.2.2.2 = [] := by
   cases hl : o.2.2.2.2.2 with
   | nil => rfl
   | cons v l =>
     obtain ⟨e, he, _, h3⟩ := (hoo.vers v (by rw [hl]; simp)).ev
     simp only [List.mem_cons, List.not_mem_nil, or_false] at he
     rcases he with rfl | rfl <;> cases h3
 have hseen : leqV o.2.2.2.2.1 [2, 0, 0, 0, 0, 0, 0, 0] = true := by
   rw [← hK]
   exact (zp7 hoo.seen.v (zca _).1).2 hoo.seen.le
 obtain ⟨o1, o2, o3, o4, o5, o6⟩ := o
 dsimp only at hoid hov hseen
 subst hoid; subst hov; subst hk
 refine ok_eq (zj3 hsm (by rfl)) (ok_eq (zj3 hsm (by rfl)) ?_)
 have hc1 : z3g ([2, 0, 0, 0, 0, 0, 0, 0], [((1, 1), o2, o3, o4, o5, [])], [ent0], w, rt) ((List.replicate 8 (0 : Int)).set 0 1) = ([2, 0, 0, 0, 0, 0, 0, 0], [((1, 1), o2, o3, o4, o5, [])], [ent0], w, rt) := by
   have h1 : z3v [ent0] ((List.replicate 8 (0 : Int)).set 0 1) = [ent0] := by decide
   have h2 : z3c [ent0] ((1, 1), o2, o3, o4, o5, []) ((List.replicate 8 (0 : Int)).set 0 1) = true := by
     unfold z3c
     have : usesV [ent0] ((1, 1), o2, o3, o4, o5, []) = true := rfl
     rw [this]; simp
   unfold z3g
   simp only [h1, List.map_cons, List.map_nil, z5a, zg9, List.filter_nil, List.filter_cons, h2, if_true]
 have hc2 : z3g ([2, 0, 0, 0, 0, 0, 0, 0], [((1, 1), o2, o3, o4, o5, [])], [ent0], w, rt) ((List.replicate 8 (0 : Int)).set 0 2) = ([2, 0, 0, 0, 0, 0, 0, 0], [], [], w, rt) := by
   have h1 : z3v [ent0] ((List.replicate 8 (0 : Int)).set 0 2) = [] := by decide
   have h2 : z3c [] ((1, 1), o2, o3, o4, o5, []) ((List.replicate 8 (0 : Int)).set 0 2) = false := by
     unfold z3c
     have a1 : hasV ((List.replicate 8 (0 : Int)).set 0 2) (1, 1) = true := by decide
     have a2 : leqV o5 ((List.replicate 8 (0 : Int)).set 0 2) = true := hseen
     simp only [a1, a2]; rfl
   unfold z3g
   simp only [h1, List.map_cons, List.map_nil, z5a, zg9, List.filter_nil, List.filter_cons, h2, Bool.false_eq_true, if_false]
 have hd : deadV ([2, 0, 0, 0, 0, 0, 0, 0], [((1, 1), o2, o3, o4, o5, [])], [ent0], w, rt) = 1 := by
   have h2 : z3c [ent0] ((1, 1), o2, o3, o4, o5, []) [2, 0, 0, 0, 0, 0, 0, 0] = true := by
     unfold z3c
     have : usesV [ent0] ((1, 1), o2, o3, o4, o5, []) = true := rfl
     rw [this]; simp
   have h3 : List.countP (fun x : T2 => !z2n x.2.2.2.2) [ent0] = 1 := by decide
   unfold deadV
   simp only [h3, List.map_cons, List.map_nil, cntO, h2, List.countP_nil, List.sum_cons, List.sum_nil, if_true, Nat.add_zero]
 rw [hc1, hc2]
 dsimp only
 have hw0 : W64 (((0 : Nat) : Int) + ((0 : Nat) : Int)) = 0 := z0r (by omega)
 refine z8t (by simp) (z0h (fun _ => ?_) fun h => (h rfl).elim)
 refine z8t (by simp) (z0h (fun _ => ?_) fun h => (h rfl).elim)
 refine z8t (by simp) (z8t (by simp) ?_)
 refine z0h (fun _ => ?_) fun h => (h hw0).elim
 refine z1nk (u := c1) rfl (fun _ => ?_) fun h => (h rfl).elim
 refine ok_eq (z1cq hsm) (z0d ?_)
 rw [hd]; rfl
end Go.Proofs.Ytfbdjicfkcklfaa