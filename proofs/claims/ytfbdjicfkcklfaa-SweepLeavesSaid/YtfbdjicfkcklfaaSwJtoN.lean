import Derived.Test.YtfbdjicfkcklfaaSwEtoI
set_option maxRecDepth 100000
set_option linter.unusedSimpArgs false
set_option linter.unusedVariables false
namespace Go.Proofs.Ytfbdjicfkcklfaa
open Go.Tm Go.Ab
theorem z1ej (x : T4) (k : List Int) (os : List T4) (es : List T2) (w : List Int) (r : List Bool) (base : List Int) (he : es.length ≤ 1000) (hx : SmO x) (hb : VecOk base) : zgu x k os es w r base = some (!z8y es x base) := by
 unfold zgu
 rw [z1lr (t := (k, os, es, w, r)) he hx hb]; rfl
theorem z1wy {l : List T4} {k : List Int} {os : List T4} {es : List T2} {w : List Int} {rt : List Bool} {base : List Int} (hl : l.length ≤ 2000) (he : es.length ≤ 1000) (hx : ∀ x, x ∈ l → SmO x) (hb : VecOk base) : Ok (zhc l k os es w rt base) fun r => (r = -1 ∧ l.any (fun x : T4 => !z8y es x base) = false) ∨ ∃ i, ∃ h : i < l.length, r = (i : Int) ∧ (fun x : T4 => !z8y es x base) l[i] = true ∧ (l.take i).any (fun x : T4 => !z8y es x base) = false := by
 have key := zy2 z2u l (fun i => (l, k, os, es, w, rt, base, (l.length : Int), (i : Int))) (fun x : T4 => !z8y es x base) (fun i => .inr (i : Int)) (.inl ())
   (ok_is (by
     unfold z2u zda
     dsimp only
     repeat' first
       | (dsimp only [Int.toNat_natCast, List.length_nil])
       | with_reducible first | refine z0g ?_ | refine z0f ?_ | refine z0c ?_ | refine z0e ?_ | refine z0b ?_ | refine z0h ?_ | refine qs ?_ | refine qb ?_ | refine z0j ?_ | refine qw ?_ | refine z0n ?_ | refine z0k ?_ | refine qi ?_ | refine qg (h := ?_) | refine qx (h := ?_) | refine qy (h := ?_) | refine qa ?_ | refine qc ?_ | refine ql ?_ | refine qp ?_ | refine z0a ?_ | rfl
       | (with_reducible first | refine ok_lt ?_ ?_ | refine ok_le ?_ ?_ | refine z0i ?_ ?_ | refine z0l ?_ ?_ | refine z0m ?_ ?_ | refine qu ?_ ?_ | refine ok_if ?_ ?_) <;> intro _ <;> try (exfalso; omega))) (fun i hi => ok_is (by
     have hm := List.getElem_mem hi
     have hE := z1ej l[i] k os es w rt base he (hx _ hm) hb
     unfold z2u zda
     dsimp only
     repeat' first
       | (dsimp only [Int.toNat_natCast, List.length_nil])
       | ((with_reducible refine ok_eq hE ?_))
       | with_reducible first | refine z0g ?_ | refine z0f ?_ | refine z0c ?_ | refine z0e ?_ | refine z0b ?_ | refine z0h ?_ | refine qs ?_ | refine qb ?_ | refine z0j ?_ | refine qw ?_ | refine z0n ?_ | refine z0k ?_ | refine qi ?_ | refine qg (h := ?_) | refine qx (h := ?_) | refine qy (h := ?_) | refine qa ?_ | refine qc ?_ | refine ql ?_ | refine qp ?_ | refine z0a ?_ | rfl
       | (with_reducible first | refine ok_lt ?_ ?_ | refine ok_le ?_ ?_ | refine z0i ?_ ?_ | refine z0l ?_ ?_ | refine z0m ?_ ?_ | refine qu ?_ ?_ | refine ok_if ?_ ?_) <;> intro _ <;> try (exfalso; omega)
     all_goals first
       | (rename_i e; rw [e]; rfl)
       | (rename_i e; rw [e, z0r (by omega)]; rfl)))
 unfold zhc
 refine z4w (by omega) (z0a (z9a key ?_))
 rintro x (⟨rfl, h⟩ | ⟨i, h, rfl, h1, h2⟩)
 · repeat' first
     | (dsimp only [Int.toNat_natCast, List.length_nil])
     | with_reducible first | refine z0g ?_ | refine z0f ?_ | refine z0c ?_ | refine z0e ?_ | refine z0b ?_ | refine z0h ?_ | refine qs ?_ | refine qb ?_ | refine z0j ?_ | refine qw ?_ | refine z0n ?_ | refine z0k ?_ | refine qi ?_ | refine qg (h := ?_) | refine qx (h := ?_) | refine qy (h := ?_) | refine qa ?_ | refine qc ?_ | refine ql ?_ | refine qp ?_ | refine z0a ?_ | rfl
     | (with_reducible first | refine ok_lt ?_ ?_ | refine ok_le ?_ ?_ | refine z0i ?_ ?_ | refine z0l ?_ ?_ | refine z0m ?_ ?_ | refine qu ?_ ?_ | refine ok_if ?_ ?_) <;> intro _ <;> try (exfalso; omega)
   exact .inl ⟨rfl, h⟩
 · repeat' first
     | (dsimp only [Int.toNat_natCast, List.length_nil])
     | with_reducible first | refine z0g ?_ | refine z0f ?_ | refine z0c ?_ | refine z0e ?_ | refine z0b ?_ | refine z0h ?_ | refine qs ?_ | refine qb ?_ | refine z0j ?_ | refine qw ?_ | refine z0n ?_ | refine z0k ?_ | refine qi ?_ | refine qg (h := ?_) | refine qx (h := ?_) | refine qy (h := ?_) | refine qa ?_ | refine qc ?_ | refine ql ?_ | refine qp ?_ | refine z0a ?_ | rfl
     | (with_reducible first | refine ok_lt ?_ ?_ | refine ok_le ?_ ?_ | refine z0i ?_ ?_ | refine z0l ?_ ?_ | refine z0m ?_ ?_ | refine qu ?_ ?_ | refine ok_if ?_ ?_) <;> intro _ <;> try (exfalso; omega)
   exact .inr ⟨i, h, rfl, h1, h2⟩
theorem z1y3 {l : List T4} {m : Nat} {k : List Int} {es : List T2} {w : List Int} {rt : List Bool} {base : List Int} (hl : l.length ≤ 1000) (hm0 : m ≤ es.length) (he : es.length ≤ 1000) (hx : ∀ x, x ∈ l → SmO x) (hb : VecOk base) :
   Ok (zg3 l k (List.replicate m true) w rt base es) fun r => ∃ n t, r = (List.replicate n true, t, k, List.replicate m true, w, rt, base, es) ∧ DelOk (fun x : T4 => !z8y (es.take m) x base) l n t := by
 have he' : (es.take m).length ≤ 1000 := by simp; omega
 unfold zg3
 repeat' first
   | (dsimp only [Int.toNat_natCast, List.length_nil])
   | (simp only [zbo, List.drop_zero])
   | ((with_reducible refine z1c (z1wy (by omega) he' hx hb) ?_); intro r hr)
   | with_reducible first | refine z0g ?_ | refine z0f ?_ | refine z0c ?_ | refine z0e ?_ | refine z0b ?_ | refine z0h ?_ | refine qs ?_ | refine qb ?_ | refine z0j ?_ | refine qw ?_ | refine z0n ?_ | refine z0k ?_ | refine qi ?_ | refine qg (h := ?_) | refine qx (h := ?_) | refine qy (h := ?_) | refine qa ?_ | refine qc ?_ | refine ql ?_ | refine qp ?_ | refine z0a ?_ | rfl
   | (with_reducible first | refine ok_lt ?_ ?_ | refine ok_le ?_ ?_ | refine z0i ?_ ?_ | refine z0l ?_ ?_ | refine z0m ?_ ?_ | refine qu ?_ ?_ | refine ok_if ?_ ?_) <;> intro _ <;> try (exfalso; omega)
 · rename_i e
   rcases hr with ⟨rfl, h⟩ | ⟨i, h, rfl, h1, h2⟩
   · exact ⟨_, _, rfl, z17r h⟩
   · omega
 all_goals
   rename_i e
   rcases hr with ⟨rfl, h⟩ | ⟨i0, h, rfl, h1, h2⟩
   · omega
   rw [z0r (by omega)]
   have key := z1fo z1u l (fun i j t => (i, j, t, k, List.replicate m true, w, rt, base, es)) (fun i t => (i, t, k, List.replicate m true, w, rt, base, es)) (fun x : T4 => !z8y (es.take m) x base)
     (fun i t ht hi => ok_is (by
       unfold z1u zb5
       dsimp only
       repeat' first
         | (dsimp only [Int.toNat_natCast, List.length_nil])
         | (simp only [zbo])
         | with_reducible first | refine z0g ?_ | refine z0f ?_ | refine z0c ?_ | refine z0e ?_ | refine z0b ?_ | refine z0h ?_ | refine qs ?_ | refine qb ?_ | refine z0j ?_ | refine qw ?_ | refine z0n ?_ | refine z0k ?_ | refine qi ?_ | refine qg (h := ?_) | refine qx (h := ?_) | refine qy (h := ?_) | refine qa ?_ | refine qc ?_ | refine ql ?_ | refine qp ?_ | refine z0a ?_ | rfl
         | (with_reducible first | refine ok_lt ?_ ?_ | refine ok_le ?_ ?_ | refine z0i ?_ ?_ | refine z0l ?_ ?_ | refine z0m ?_ ?_ | refine qu ?_ ?_ | refine ok_if ?_ ?_) <;> intro _ <;> try (exfalso; omega))) (fun i j t ht hi hj e => ok_is (by
       have hm := List.getElem_mem hj
       have hE := fun os => z1ej l[j] k os (es.take m) w rt base he' (hx _ hm) hb
       unfold z1u zb5
       dsimp only
       repeat' first
         | (dsimp only [Int.toNat_natCast, List.length_nil])
         | (simp only [zbo, List.drop_zero])
         | (rw [e])
         | ((with_reducible refine ok_eq (hE _) ?_))
         | with_reducible first | refine z0g ?_ | refine z0f ?_ | refine z0c ?_ | refine z0e ?_ | refine z0b ?_ | refine z0h ?_ | refine qs ?_ | refine qb ?_ | refine z0j ?_ | refine qw ?_ | refine z0n ?_ | refine z0k ?_ | refine qi ?_ | refine qg (h := ?_) | refine qx (h := ?_) | refine qy (h := ?_) | refine qa ?_ | refine qc ?_ | refine ql ?_ | refine qp ?_ | refine z0a ?_ | rfl
         | (with_reducible first | refine ok_lt ?_ ?_ | refine ok_le ?_ ?_ | refine z0i ?_ ?_ | refine z0l ?_ ?_ | refine z0m ?_ ?_ | refine qu ?_ ?_ | refine ok_if ?_ ?_) <;> intro _ <;> try (exfalso; omega)
       all_goals first
         | (rename_i e; rw [e, z0r (by omega)]; rfl)
         | (rename_i e; rw [e, z0r (by omega), z0r (by omega)]; rfl))) i0 h h1 h2
   refine z9a key ?_
   rintro _ ⟨i, t, rfl, g1, g2, g3⟩
   have hb : addN i (t.length - i) ≤ t.length := by rw [zku]; omega
   repeat' first
     | (dsimp only [Int.toNat_natCast, List.length_nil])
     | (simp only [zbo])
     | ((with_reducible refine zbv (by rw [z14o (by omega) (by simp)]) ?_))
     | ((with_reducible refine z1h7 hb ?_))
     | with_reducible first | refine z0g ?_ | refine z0f ?_ | refine z0c ?_ | refine z0e ?_ | refine z0b ?_ | refine z0h ?_ | refine qs ?_ | refine qb ?_ | refine z0j ?_ | refine qw ?_ | refine z0n ?_ | refine z0k ?_ | refine qi ?_ | refine qg (h := ?_) | refine qx (h := ?_) | refine qy (h := ?_) | refine qa ?_ | refine qc ?_ | refine ql ?_ | refine qp ?_ | refine z0a ?_ | rfl
     | (with_reducible first | refine ok_lt ?_ ?_ | refine ok_le ?_ ?_ | refine z0i ?_ ?_ | refine z0l ?_ ?_ | refine z0m ?_ ?_ | refine qu ?_ ?_ | refine ok_if ?_ ?_) <;> intro _ <;> try (exfalso; omega)
   exact ⟨i, _, rfl, z1d3 g1 g2 g3 (by simp)⟩
structure Sm (s : T5) : Prop where
 known : VecOk s.1
 olen : s.2.1.length ≤ 1000
 obj : ∀ o, o ∈ s.2.1 → SmO o
 elen : s.2.2.1.length ≤ 1000
 ent : ∀ x, x ∈ s.2.2.1 → VecOk x.2.2.2.2
theorem z1vl {s : T5} (h : Sm s) : zpn s = some (s.1, s.2.2.2.1, s.2.2.2.2, s.2.1, s.2.2.1) := by
 have h1 := h.olen
 have h2 := h.elen
 refine ok_is ?_
 unfold zpn
 refine ok_eq (z1ua (by omega)) ?_
 repeat' first
   | (dsimp only [Int.toNat_natCast, List.length_nil])
   | with_reducible first | refine z0g ?_ | refine z0f ?_ | refine z0c ?_ | refine z0e ?_ | refine z0b ?_ | refine z0h ?_ | refine qs ?_ | refine qb ?_ | refine z0j ?_ | refine qw ?_ | refine z0n ?_ | refine z0k ?_ | refine qi ?_ | refine qg (h := ?_) | refine qx (h := ?_) | refine qy (h := ?_) | refine qa ?_ | refine qc ?_ | refine ql ?_ | refine qp ?_ | refine z0a ?_ | rfl
   | (with_reducible first | refine ok_lt ?_ ?_ | refine ok_le ?_ ?_ | refine z0i ?_ ?_ | refine z0l ?_ ?_ | refine z0m ?_ ?_ | refine qu ?_ ?_ | refine ok_if ?_ ?_) <;> intro _ <;> try (exfalso; omega)
 refine z1o s.2.1.length (fun i (_ : Unit) => (s.2.1, (s.2.1.length : Int), (i : Int), List.replicate 8 (0 : Int), List.replicate 8 (0 : Int), List.replicate 8 false, s.1, s.2.2.2.1, s.2.2.2.2, ([] : List T4), ([] : List T2), s.2.1.take i, s.2.2.1)) (fun _ _ => True) () rfl trivial (fun _ _ => ?_) fun i _ hi _ => ?_
 · unfold z3b zcu
   dsimp only
   repeat' first
     | (dsimp only [Int.toNat_natCast, List.length_nil])
     | with_reducible first | refine z0g ?_ | refine z0f ?_ | refine z0c ?_ | refine z0e ?_ | refine z0b ?_ | refine z0h ?_ | refine qs ?_ | refine qb ?_ | refine z0j ?_ | refine qw ?_ | refine z0n ?_ | refine z0k ?_ | refine qi ?_ | refine qg (h := ?_) | refine qx (h := ?_) | refine qy (h := ?_) | refine qa ?_ | refine qc ?_ | refine ql ?_ | refine qp ?_ | refine z0a ?_ | rfl
     | (with_reducible first | refine ok_lt ?_ ?_ | refine ok_le ?_ ?_ | refine z0i ?_ ?_ | refine z0l ?_ ?_ | refine z0m ?_ ?_ | refine qu ?_ ?_ | refine ok_if ?_ ?_) <;> intro _ <;> try (exfalso; omega)
   rw [List.take_length]
 · unfold z3b zcu
   dsimp only
   have hv := (h.obj _ (List.getElem_mem hi)).len
   repeat' first
     | (dsimp only [Int.toNat_natCast, List.length_nil])
     | ((with_reducible refine ok_eq (z1l6 (by omega)) ?_))
     | with_reducible first | refine z0g ?_ | refine z0f ?_ | refine z0c ?_ | refine z0e ?_ | refine z0b ?_ | refine z0h ?_ | refine qs ?_ | refine qb ?_ | refine z0j ?_ | refine qw ?_ | refine z0n ?_ | refine z0k ?_ | refine qi ?_ | refine qg (h := ?_) | refine qx (h := ?_) | refine qy (h := ?_) | refine qa ?_ | refine qc ?_ | refine ql ?_ | refine qp ?_ | refine z0a ?_ | rfl
     | (with_reducible first | refine ok_lt ?_ ?_ | refine ok_le ?_ ?_ | refine z0i ?_ ?_ | refine z0l ?_ ?_ | refine z0m ?_ ?_ | refine qu ?_ ?_ | refine ok_if ?_ ?_) <;> intro _ <;> try (exfalso; omega)
   exact ⟨(), by rw [z0r (by omega), List.take_succ_eq_append_getElem hi]; rfl, trivial⟩
def zkb {α : Type} (f : α → α) (l : List α) (i : Nat) : List α := (l.take i).map f ++ l.drop i
theorem z1ri {α : Type} (f : α → α) (l : List α) (i : Nat) : (zkb f l i).length = l.length := by unfold zkb; simp; omega
theorem z1th {α : Type} (f : α → α) (l : List α) {i : Nat} (h : i < l.length) : (zkb f l i)[i]? = some l[i] := by
 unfold zkb
 rw [List.getElem?_append_right (by simp; omega)]
 simp only [List.length_map, List.length_take, Nat.min_eq_left (Nat.le_of_lt h), Nat.sub_self, List.getElem?_drop, Nat.add_zero]
 exact List.getElem?_eq_getElem h
theorem z1sc {α : Type} (f : α → α) (l : List α) {i : Nat} (h : i < l.length) {y : α} (e : y = f l[i]) : (zkb f l i).set i y = zkb f l (i + 1) := by
 subst e
 unfold zkb
 rw [List.set_append_right _ _ (by simp; omega)]
 simp only [List.length_map, List.length_take, Nat.min_eq_left (Nat.le_of_lt h), Nat.sub_self]
 rw [List.drop_eq_getElem_cons h, List.set_cons_zero, List.take_succ_eq_append_getElem h, List.map_append, List.append_assoc]; rfl
theorem z1pg {α : Type} (f : α → α) (l : List α) : zkb f l 0 = l := by unfold zkb; simp
theorem z1sh {α : Type} (f : α → α) (l : List α) : zkb f l l.length = l.map f := by unfold zkb; simp
def ziq (base : List Int) (o : T4) : T4 := (o.1, o.2.1, o.2.2.1, o.2.2.2.1, o.2.2.2.2.1, zz5 o.2.2.2.2.2 base)
def z2x (s : T5) (base : List Int) : T5 :=
 (s.1, (s.2.1.map (ziq base)).filter (fun o => z8y (zsa s.2.2.1 base) o base), zsa s.2.2.1 base, s.2.2.2.1, s.2.2.2.2)
theorem z1rn (l : List T3) (base : List Int) : (zz5 l base).length ≤ l.length := List.length_filter_le ..
theorem z1ro (l : List T2) (base : List Int) : (zsa l base).length ≤ l.length := List.length_filter_le ..
theorem z1aq {o : T4} (h : SmO o) (base : List Int) : SmO (ziq base o) :=
 ⟨h.seen, Nat.le_trans (z1rn _ _) h.len, fun v hv => h.vers v (List.mem_filter.1 hv).1⟩
theorem z1se {s : T5} (h : Sm s) (base : List Int) : Sm (z2x s base) where
 known := h.known
 olen := Nat.le_trans (List.length_filter_le ..) (by rw [List.length_map]; exact h.olen)
 obj := fun o ho => by
   have := (List.mem_filter.1 ho).1
   simp only [List.mem_map] at this
   obtain ⟨x, hx, rfl⟩ := this
   exact z1aq (h.obj x hx) base
 elen := Nat.le_trans (z1ro _ _) h.elen
 ent := fun x hx => h.ent x (List.mem_filter.1 hx).1
theorem z18f {s : T5} {base : List Int} (h : Sm s) (hb : VecOk base) : zgn s base = some (z2x s base) := by
 have h1 := h.olen
 have h2 := h.elen
 refine ok_is ?_
 unfold zgn
 refine ok_eq (z1vl h) ?_
 dsimp only
 refine zbv rfl (z1c (z1ts (by omega) hb h.ent) ?_)
 rintro _ ⟨m, es, rfl, g1, g2, g3⟩
 repeat' first
   | (dsimp only [Int.toNat_natCast, List.length_nil])
   | (simp only [zbo])
   | with_reducible first | refine z0g ?_ | refine z0f ?_ | refine z0c ?_ | refine z0e ?_ | refine z0b ?_ | refine z0h ?_ | refine qs ?_ | refine qb ?_ | refine z0j ?_ | refine qw ?_ | refine z0n ?_ | refine z0k ?_ | refine qi ?_ | refine qg (h := ?_) | refine qx (h := ?_) | refine qy (h := ?_) | refine qa ?_ | refine qc ?_ | refine ql ?_ | refine qp ?_ | refine z0a ?_ | rfl
   | (with_reducible first | refine ok_lt ?_ ?_ | refine ok_le ?_ ?_ | refine z0i ?_ ?_ | refine z0l ?_ ?_ | refine z0m ?_ ?_ | refine qu ?_ ?_ | refine ok_if ?_ ?_) <;> intro _ <;> try (exfalso; omega)
 refine z1o s.2.1.length (fun i (_ : Unit) => ((s.2.1.length : Int), (i : Int), base, List.replicate 8 (0 : Int), List.replicate 8 (0 : Int), List.replicate 8 false, s.1, List.replicate m true, s.2.2.2.1, s.2.2.2.2, ([] : List T4), ([] : List T2), zkb (ziq base) s.2.1 i, es)) (fun _ _ => True) () (by rw [z1pg]; rfl) trivial (fun _ _ => ?_) fun i _ hi _ => ?_
 · unfold z3l ze7
   dsimp only
   rw [z1sh]
   have ho : ∀ x, x ∈ s.2.1.map (ziq base) → SmO x := fun x hx => by
     simp only [List.mem_map] at hx
     obtain ⟨y, hy, rfl⟩ := hx
     exact z1aq (h.obj y hy) base
   have hol : (s.2.1.map (ziq base)).length ≤ 1000 := by rw [List.length_map]; exact h1
   repeat' first
     | (dsimp only [Int.toNat_natCast, List.length_nil])
     | (simp only [zbo])
     | ((with_reducible refine z1c (z1y3 hol g1 (by omega) ho hb) ?_); rintro _ ⟨n, t, rfl, k1, k2, k3⟩)
     | with_reducible first | refine z0g ?_ | refine z0f ?_ | refine z0c ?_ | refine z0e ?_ | refine z0b ?_ | refine z0h ?_ | refine qs ?_ | refine qb ?_ | refine z0j ?_ | refine qw ?_ | refine z0n ?_ | refine z0k ?_ | refine qi ?_ | refine qg (h := ?_) | refine qx (h := ?_) | refine qy (h := ?_) | refine qa ?_ | refine qc ?_ | refine ql ?_ | refine qp ?_ | refine z0a ?_ | rfl
     | (with_reducible first | refine ok_lt ?_ ?_ | refine ok_le ?_ ?_ | refine z0i ?_ ?_ | refine z0l ?_ ?_ | refine z0m ?_ ?_ | refine qu ?_ ?_ | refine ok_if ?_ ?_) <;> intro _ <;> try (exfalso; omega)
   unfold z2x
   rw [List.drop_zero, List.drop_zero, k3, g3]
   simp only [Bool.not_not]
   rfl
 · unfold z3l ze7
   dsimp only
   have hv := h.obj _ (List.getElem_mem hi)
   have hlen := z1ri (ziq base) s.2.1 i
   have hvl := hv.len
   repeat' first
     | (dsimp only [Int.toNat_natCast, List.length_nil])
     | (simp only [zbo])
     | ((with_reducible refine ok_eq (z1th _ _ hi) ?_))
     | ((with_reducible refine ok_eq (z1uu (by omega) hb hv.vers) ?_))
     | with_reducible first | refine z0g ?_ | refine z0f ?_ | refine z0c ?_ | refine z0e ?_ | refine z0b ?_ | refine z0h ?_ | refine qs ?_ | refine qb ?_ | refine z0j ?_ | refine qw ?_ | refine z0n ?_ | refine z0k ?_ | refine qi ?_ | refine qg (h := ?_) | refine qx (h := ?_) | refine qy (h := ?_) | refine qa ?_ | refine qc ?_ | refine ql ?_ | refine qp ?_ | refine z0a ?_ | rfl
     | (with_reducible first | refine ok_lt ?_ ?_ | refine ok_le ?_ ?_ | refine z0i ?_ ?_ | refine z0l ?_ ?_ | refine z0m ?_ ?_ | refine qu ?_ ?_ | refine ok_if ?_ ?_) <;> intro _ <;> try (exfalso; omega)
   exact ⟨(), by rw [z0r (by omega), z1sc _ _ hi (by rfl)]; rfl, trivial⟩
def cntO (es : List T2) (base : List Int) (o : T4) : Nat := List.countP (fun v : T3 => !z4q v.2.2) o.2.2.2.2.2 + if z8y es o base = true then 0 else 1
def deadV (s : T5) : Nat := List.countP (fun x : T2 => !z4q x.2.2.2.2) s.2.2.1 + (s.2.1.map (cntO s.2.2.1 s.1)).sum
theorem z1p5 {α : Type} (p : α → Bool) (l : List α) {i : Nat} (h : i < l.length) : List.countP p (l.take (i + 1)) = List.countP p (l.take i) + if p l[i] = true then 1 else 0 := by
 rw [List.take_succ_eq_append_getElem h, List.countP_append, List.countP_singleton]
theorem z1up {α : Type} (p : α → Bool) (l : List α) (i : Nat) : List.countP p (l.take i) ≤ l.length := Nat.le_trans List.countP_le_length (by simp; omega)
theorem z1w0 {α : Type} (f : α → Nat) (l : List α) {i : Nat} (h : i < l.length) : ((l.take (i + 1)).map f).sum = ((l.take i).map f).sum + f l[i] := by
 rw [List.take_succ_eq_append_getElem h, List.map_append, List.sum_append]; simp
theorem z1st {α : Type} (f : α → Nat) (c : Nat) : ∀ (l : List α), (∀ x, x ∈ l → f x ≤ c) → (l.map f).sum ≤ l.length * c
 | [], _ => by simp
 | a :: l, h => by
   have := z1st f c l fun x hx => h x (List.mem_cons_of_mem _ hx)
   have := h a (List.mem_cons_self ..)
   simp only [List.map_cons, List.sum_cons, List.length_cons, Nat.add_mul]; omega
theorem z1qg (es : List T2) (base : List Int) {o : T4} (h : SmO o) : cntO es base o ≤ 1001 := by
 unfold cntO
 have := h.len
 have : List.countP (fun v : T3 => !z4q v.2.2) o.2.2.2.2.2 ≤ o.2.2.2.2.2.length := List.countP_le_length
 split <;> omega
theorem z1xm {s : T5} (h : Sm s) (i : Nat) (hi : i ≤ s.2.1.length) : ((s.2.1.take i).map (cntO s.2.2.1 s.1)).sum ≤ 1001000 := by
 have := z1st (cntO s.2.2.1 s.1) 1001 (s.2.1.take i) fun x hx => z1qg _ _ (h.obj x (List.mem_of_mem_take hx))
 have h1 := h.olen
 have : (s.2.1.take i).length * 1001 ≤ 1000 * 1001 := Nat.mul_le_mul_right _ (by simp; omega)
 omega
theorem z1wm {s : T5} (h : Sm s) : zwu s = some (deadV s : Int) := by
 have h1 := h.olen
 have h2 := h.elen
 refine ok_is ?_
 have key : loopC z4p (0, s.2.2.1, (s.2.2.1.length : Int), 0, s) = some ((List.countP (fun x : T2 => !z4q x.2.2.2.2) s.2.2.1 : Int), s) := by
   refine ok_is (z1o s.2.2.1.length (fun i (_ : Unit) => ((List.countP (fun x : T2 => !z4q x.2.2.2.2) (s.2.2.1.take i) : Int), s.2.2.1, (s.2.2.1.length : Int), (i : Int), s)) (fun _ _ => True) () rfl trivial (fun _ _ => ?_) fun i _ hi _ => ?_)
   · unfold z4p zhx
     dsimp only
     repeat' first
       | (dsimp only [Int.toNat_natCast, List.length_nil])
       | with_reducible first | refine z0g ?_ | refine z0f ?_ | refine z0c ?_ | refine z0e ?_ | refine z0b ?_ | refine z0h ?_ | refine qs ?_ | refine qb ?_ | refine z0j ?_ | refine qw ?_ | refine z0n ?_ | refine z0k ?_ | refine qi ?_ | refine qg (h := ?_) | refine qx (h := ?_) | refine qy (h := ?_) | refine qa ?_ | refine qc ?_ | refine ql ?_ | refine qp ?_ | refine z0a ?_ | rfl
       | (with_reducible first | refine ok_lt ?_ ?_ | refine ok_le ?_ ?_ | refine z0i ?_ ?_ | refine z0l ?_ ?_ | refine z0m ?_ ?_ | refine qu ?_ ?_ | refine ok_if ?_ ?_) <;> intro _ <;> try (exfalso; omega)
     rw [List.take_length]
   · unfold z4p zhx
     dsimp only
     have hc := z1p5 (fun x : T2 => !z4q x.2.2.2.2) s.2.2.1 hi
     have hb := z1up (fun x : T2 => !z4q x.2.2.2.2) s.2.2.1 i
     repeat' first
       | (dsimp only [Int.toNat_natCast, List.length_nil])
       | ((with_reducible refine ok_eq (z1o7 _) ?_))
       | with_reducible first | refine z0g ?_ | refine z0f ?_ | refine z0c ?_ | refine z0e ?_ | refine z0b ?_ | refine z0h ?_ | refine qs ?_ | refine qb ?_ | refine z0j ?_ | refine qw ?_ | refine z0n ?_ | refine z0k ?_ | refine qi ?_ | refine qg (h := ?_) | refine qx (h := ?_) | refine qy (h := ?_) | refine qa ?_ | refine qc ?_ | refine ql ?_ | refine qp ?_ | refine z0a ?_ | rfl
       | (with_reducible first | refine ok_lt ?_ ?_ | refine ok_le ?_ ?_ | refine z0i ?_ ?_ | refine z0l ?_ ?_ | refine z0m ?_ ?_ | refine qu ?_ ?_ | refine ok_if ?_ ?_) <;> intro _ <;> try (exfalso; omega)
     all_goals
       rename_i e
       rw [e] at hc
       exact ⟨(), by rw [hc]; first | (rw [z0r (by omega), z0r (by omega)]; rfl) | (rw [z0r (by omega)]; rfl), trivial⟩
 unfold zwu
 refine z4w (by omega) (ok_eq key ?_)
 dsimp only
 refine z4w (by omega) ?_
 have hE : List.countP (fun x : T2 => !z4q x.2.2.2.2) s.2.2.1 ≤ s.2.2.1.length := List.countP_le_length
 generalize hE0 : List.countP (fun x : T2 => !z4q x.2.2.2.2) s.2.2.1 = E0 at hE ⊢
 refine z0a (z1o s.2.1.length (fun i (_ : Unit) => (((E0 + ((s.2.1.take i).map (cntO s.2.2.1 s.1)).sum : Nat) : Int), s.2.1, (s.2.1.length : Int), (i : Int), s)) (fun _ _ => True) () (by simp) trivial (fun _ _ => ?_) fun i _ hi _ => ?_)
 · unfold z4x zfv
   dsimp only
   repeat' first
     | (dsimp only [Int.toNat_natCast, List.length_nil])
     | with_reducible first | refine z0g ?_ | refine z0f ?_ | refine z0c ?_ | refine z0e ?_ | refine z0b ?_ | refine z0h ?_ | refine qs ?_ | refine qb ?_ | refine z0j ?_ | refine qw ?_ | refine z0n ?_ | refine z0k ?_ | refine qi ?_ | refine qg (h := ?_) | refine qx (h := ?_) | refine qy (h := ?_) | refine qa ?_ | refine qc ?_ | refine ql ?_ | refine qp ?_ | refine z0a ?_ | rfl
     | (with_reducible first | refine ok_lt ?_ ?_ | refine ok_le ?_ ?_ | refine z0i ?_ ?_ | refine z0l ?_ ?_ | refine z0m ?_ ?_ | refine qu ?_ ?_ | refine ok_if ?_ ?_) <;> intro _ <;> try (exfalso; omega)
   unfold deadV
   rw [List.take_length, hE0]
 · unfold z4x zfv
   dsimp only
   have hv := h.obj _ (List.getElem_mem hi)
   have hv' := hv.len
   have hs := z1xm h i (by omega)
   have hc := z1qg s.2.2.1 s.1 hv
   have hst := z1w0 (cntO s.2.2.1 s.1) s.2.1 hi
   generalize hS : ((s.2.1.take i).map (cntO s.2.2.1 s.1)).sum = S at hs hst ⊢
   have key2 : loopC z1i (((E0 + S : Nat) : Int), s.2.1, (s.2.1.length : Int), (i : Int), s.2.1[i].2.2.2.2.2, (s.2.1[i].2.2.2.2.2.length : Int), 0, s, s.2.1[i]) = some (((E0 + S + List.countP (fun v : T3 => !z4q v.2.2) s.2.1[i].2.2.2.2.2 : Nat) : Int), s.2.1, (s.2.1.length : Int), (i : Int), s, s.2.1[i]) := by
     generalize s.2.1[i] = o at hv hv' hc ⊢
     refine ok_is (z1o o.2.2.2.2.2.length (fun k (_ : Unit) => (((E0 + S + List.countP (fun v : T3 => !z4q v.2.2) (o.2.2.2.2.2.take k) : Nat) : Int), s.2.1, (s.2.1.length : Int), (i : Int), o.2.2.2.2.2, (o.2.2.2.2.2.length : Int), (k : Int), s, o)) (fun _ _ => True) () rfl trivial (fun _ _ => ?_) fun k _ hk _ => ?_)
     · unfold z1i z6l
       dsimp only
       repeat' first
         | (dsimp only [Int.toNat_natCast, List.length_nil])
         | with_reducible first | refine z0g ?_ | refine z0f ?_ | refine z0c ?_ | refine z0e ?_ | refine z0b ?_ | refine z0h ?_ | refine qs ?_ | refine qb ?_ | refine z0j ?_ | refine qw ?_ | refine z0n ?_ | refine z0k ?_ | refine qi ?_ | refine qg (h := ?_) | refine qx (h := ?_) | refine qy (h := ?_) | refine qa ?_ | refine qc ?_ | refine ql ?_ | refine qp ?_ | refine z0a ?_ | rfl
         | (with_reducible first | refine ok_lt ?_ ?_ | refine ok_le ?_ ?_ | refine z0i ?_ ?_ | refine z0l ?_ ?_ | refine z0m ?_ ?_ | refine qu ?_ ?_ | refine ok_if ?_ ?_) <;> intro _ <;> try (exfalso; omega)
       rw [List.take_length]
     · unfold z1i z6l
       dsimp only
       have hc := z1p5 (fun v : T3 => !z4q v.2.2) o.2.2.2.2.2 hk
       have hb := z1up (fun v : T3 => !z4q v.2.2) o.2.2.2.2.2 k
       repeat' first
         | (dsimp only [Int.toNat_natCast, List.length_nil])
         | ((with_reducible refine ok_eq (z1qt _) ?_))
         | with_reducible first | refine z0g ?_ | refine z0f ?_ | refine z0c ?_ | refine z0e ?_ | refine z0b ?_ | refine z0h ?_ | refine qs ?_ | refine qb ?_ | refine z0j ?_ | refine qw ?_ | refine z0n ?_ | refine z0k ?_ | refine qi ?_ | refine qg (h := ?_) | refine qx (h := ?_) | refine qy (h := ?_) | refine qa ?_ | refine qc ?_ | refine ql ?_ | refine qp ?_ | refine z0a ?_ | rfl
         | (with_reducible first | refine ok_lt ?_ ?_ | refine ok_le ?_ ?_ | refine z0i ?_ ?_ | refine z0l ?_ ?_ | refine z0m ?_ ?_ | refine qu ?_ ?_ | refine ok_if ?_ ?_) <;> intro _ <;> try (exfalso; omega)
       all_goals
         rename_i e
         rw [e] at hc
         exact ⟨(), by rw [hc]; first | (rw [z0r (by omega), z0r (by omega)]; rfl) | (rw [z0r (by omega)]; rfl), trivial⟩
   have hn : List.countP (fun v : T3 => !z4q v.2.2) s.2.1[i].2.2.2.2.2 ≤ s.2.1[i].2.2.2.2.2.length := List.countP_le_length
   have hcd : cntO s.2.2.1 s.1 s.2.1[i] = List.countP (fun v : T3 => !z4q v.2.2) s.2.1[i].2.2.2.2.2 + if z8y s.2.2.1 s.2.1[i] s.1 = true then 0 else 1 := rfl
   repeat' first
     | (dsimp only [Int.toNat_natCast, List.length_nil])
     | ((with_reducible refine ok_eq key2 ?_))
     | ((with_reducible refine ok_eq (z1lr h.elen hv h.known) ?_))
     | with_reducible first | refine z0g ?_ | refine z0f ?_ | refine z0c ?_ | refine z0e ?_ | refine z0b ?_ | refine z0h ?_ | refine qs ?_ | refine qb ?_ | refine z0j ?_ | refine qw ?_ | refine z0n ?_ | refine z0k ?_ | refine qi ?_ | refine qg (h := ?_) | refine qx (h := ?_) | refine qy (h := ?_) | refine qa ?_ | refine qc ?_ | refine ql ?_ | refine qp ?_ | refine z0a ?_ | rfl
     | (with_reducible first | refine ok_lt ?_ ?_ | refine ok_le ?_ ?_ | refine z0i ?_ ?_ | refine z0l ?_ ?_ | refine z0m ?_ ?_ | refine qu ?_ ?_ | refine ok_if ?_ ?_) <;> intro _ <;> try (exfalso; omega)
   all_goals
     rename_i e
     rw [e] at hcd
     simp only [Bool.false_eq_true, if_true, if_false] at hcd
     refine ⟨(), ?_, trivial⟩
     rw [hst, hcd]
     simp only [← Nat.add_assoc, Nat.add_zero]
     first | (rw [z0r (by omega), z0r (by omega)]; rfl) | (rw [z0r (by omega)]; rfl)
end Go.Proofs.Ytfbdjicfkcklfaa
set_option maxRecDepth 100000
set_option linter.unusedSimpArgs false
set_option linter.unusedVariables false
namespace Go.Proofs.Ytfbdjicfkcklfaa
open Go.Tm Go.Ab
theorem z1g3 {v : List Int} (h : VecOk v) (id : T0) : zmp v id = some (hasV v id) := by
 refine ok_is ?_
 unfold zmp hasV
 repeat' first
   | (dsimp only [Int.toNat_natCast, List.length_nil])
   | ((with_reducible refine ok_eq (z1h5 h _) ?_))
   | with_reducible first | refine z0g ?_ | refine z0f ?_ | refine z0c ?_ | refine z0e ?_ | refine z0b ?_ | refine z0h ?_ | refine qs ?_ | refine qb ?_ | refine z0j ?_ | refine qw ?_ | refine z0n ?_ | refine z0k ?_ | refine qi ?_ | refine qg (h := ?_) | refine qx (h := ?_) | refine qy (h := ?_) | refine qa ?_ | refine qc ?_ | refine ql ?_ | refine qp ?_ | refine z0a ?_ | rfl
   | (with_reducible first | refine ok_lt ?_ ?_ | refine ok_le ?_ ?_ | refine z0i ?_ ?_ | refine z0l ?_ ?_ | refine z0m ?_ ?_ | refine qu ?_ ?_ | refine ok_if ?_ ?_) <;> intro _ <;> try (exfalso; omega)
 · rw [ltI_t (by assumption), Bool.true_and]
 · rw [ltI_f (by assumption), Bool.false_and]
theorem z1ia {l : List T3} (hl : l.length ≤ 2000) (hv : ∀ v, v ∈ l → VecOk v.2.2) : zob l = some (z9t l) := by
 refine ok_is ?_
 unfold zob
 repeat' first
   | (dsimp only [Int.toNat_natCast, List.length_nil])
   | with_reducible first | refine z0g ?_ | refine z0f ?_ | refine z0c ?_ | refine z0e ?_ | refine z0b ?_ | refine z0h ?_ | refine qs ?_ | refine qb ?_ | refine z0j ?_ | refine qw ?_ | refine z0n ?_ | refine z0k ?_ | refine qi ?_ | refine qg (h := ?_) | refine qx (h := ?_) | refine qy (h := ?_) | refine qa ?_ | refine qc ?_ | refine ql ?_ | refine qp ?_ | refine z0a ?_ | rfl
   | (with_reducible first | refine ok_lt ?_ ?_ | refine ok_le ?_ ?_ | refine z0i ?_ ?_ | refine z0l ?_ ?_ | refine z0m ?_ ?_ | refine qu ?_ ?_ | refine ok_if ?_ ?_) <;> intro _ <;> try (exfalso; omega)
 refine z1o l.length (fun i (_ : Unit) => (l, (i : Int), z9t (l.take i))) (fun _ _ => True) () rfl trivial (fun _ _ => ?_) fun i _ hi _ => ?_
 · unfold z5f zgc
   dsimp only
   repeat' first
     | (dsimp only [Int.toNat_natCast, List.length_nil])
     | with_reducible first | refine z0g ?_ | refine z0f ?_ | refine z0c ?_ | refine z0e ?_ | refine z0b ?_ | refine z0h ?_ | refine qs ?_ | refine qb ?_ | refine z0j ?_ | refine qw ?_ | refine z0n ?_ | refine z0k ?_ | refine qi ?_ | refine qg (h := ?_) | refine qx (h := ?_) | refine qy (h := ?_) | refine qa ?_ | refine qc ?_ | refine ql ?_ | refine qp ?_ | refine z0a ?_ | rfl
     | (with_reducible first | refine ok_lt ?_ ?_ | refine ok_le ?_ ?_ | refine z0i ?_ ?_ | refine z0l ?_ ?_ | refine z0m ?_ ?_ | refine qu ?_ ?_ | refine ok_if ?_ ?_) <;> intro _ <;> try (exfalso; omega)
   rw [List.take_length]
 · unfold z5f zgc
   dsimp only
   have hq : (z9t (l.take i)).length ≤ 2000 := by
     have := z17d (l.take i)
     simp only [List.length_take] at this
     omega
   have hs : z9t (l.take (i + 1)) = if z4q l[i].2.2 = true then z9t (l.take i) ++ [l[i]] else z9t (l.take i) := by
     unfold z9t
     rw [List.take_succ_eq_append_getElem hi, List.filter_append]
     cases h : z4q l[i].2.2 <;> simp [h]
   have hm := hv _ (List.getElem_mem hi)
   repeat' first
     | (dsimp only [Int.toNat_natCast, List.length_nil])
     | ((with_reducible refine ok_eq (z1uf _ hm) ?_))
     | with_reducible first | refine z0g ?_ | refine z0f ?_ | refine z0c ?_ | refine z0e ?_ | refine z0b ?_ | refine z0h ?_ | refine qs ?_ | refine qb ?_ | refine z0j ?_ | refine qw ?_ | refine z0n ?_ | refine z0k ?_ | refine qi ?_ | refine qg (h := ?_) | refine qx (h := ?_) | refine qy (h := ?_) | refine qa ?_ | refine qc ?_ | refine ql ?_ | refine qp ?_ | refine z0a ?_ | rfl
     | (with_reducible first | refine ok_lt ?_ ?_ | refine ok_le ?_ ?_ | refine z0i ?_ ?_ | refine z0l ?_ ?_ | refine z0m ?_ ?_ | refine qu ?_ ?_ | refine ok_if ?_ ?_) <;> intro _ <;> try (exfalso; omega)
   · rename_i e
     rw [if_pos e] at hs
     exact ⟨(), by rw [z0r (by omega), hs]; rfl, trivial⟩
   · rename_i e
     rw [if_neg (by rw [e]; simp)] at hs
     exact ⟨(), by rw [z0r (by omega), hs]; rfl, trivial⟩
theorem z1vu {u : U} (h : u.cmp = true) (a : u.T) : eqU u a a = true := (zix h).2 rfl
theorem z1dc {A : Type} {u : U} {a : u.T} {x y : Option A} {Q : A → Prop} (hu : u.cmp = true) (h : Ok y Q) : Ok (bif !(eqU u a a) then x else y) Q := by rw [z1vu hu]; exact h
theorem z1y5 {A : Type} {a : List Int} {x y : Option A} {Q : A → Prop} (h : Ok y Q) : Ok (bif !(eqS a a) then x else y) Q := by rw [eqS_t rfl]; exact h
theorem z1q9 {l : List T3} (hl : l.length ≤ 2000) : zxd l l = some true := by
 refine ok_is ?_
 unfold zxd
 repeat' first
   | (dsimp only [Int.toNat_natCast, List.length_nil])
   | ((with_reducible refine z0a (z1o l.length (fun i (_ : Unit) => (l, l, (i : Int))) (fun _ _ => True) () rfl trivial (fun _ _ => ?_) fun i _ hi _ => ?_)))
   | with_reducible first | refine z0g ?_ | refine z0f ?_ | refine z0c ?_ | refine z0e ?_ | refine z0b ?_ | refine z0h ?_ | refine qs ?_ | refine qb ?_ | refine z0j ?_ | refine qw ?_ | refine z0n ?_ | refine z0k ?_ | refine qi ?_ | refine qg (h := ?_) | refine qx (h := ?_) | refine qy (h := ?_) | refine qa ?_ | refine qc ?_ | refine ql ?_ | refine qp ?_ | refine z0a ?_ | rfl
   | (with_reducible first | refine ok_lt ?_ ?_ | refine ok_le ?_ ?_ | refine z0i ?_ ?_ | refine z0l ?_ ?_ | refine z0m ?_ ?_ | refine qu ?_ ?_ | refine ok_if ?_ ?_) <;> intro _ <;> try (exfalso; omega)
 · unfold z5u zhi
   dsimp only
   repeat' first
     | (dsimp only [Int.toNat_natCast, List.length_nil])
     | with_reducible first | refine z0g ?_ | refine z0f ?_ | refine z0c ?_ | refine z0e ?_ | refine z0b ?_ | refine z0h ?_ | refine qs ?_ | refine qb ?_ | refine z0j ?_ | refine qw ?_ | refine z0n ?_ | refine z0k ?_ | refine qi ?_ | refine qg (h := ?_) | refine qx (h := ?_) | refine qy (h := ?_) | refine qa ?_ | refine qc ?_ | refine ql ?_ | refine qp ?_ | refine z0a ?_ | rfl
     | (with_reducible first | refine ok_lt ?_ ?_ | refine ok_le ?_ ?_ | refine z0i ?_ ?_ | refine z0l ?_ ?_ | refine z0m ?_ ?_ | refine qu ?_ ?_ | refine ok_if ?_ ?_) <;> intro _ <;> try (exfalso; omega)
 · unfold z5u zhi
   dsimp only
   repeat' first
     | (dsimp only [Int.toNat_natCast, List.length_nil])
     | (apply z1dc (u := c11) rfl)
     | with_reducible first | refine z0g ?_ | refine z0f ?_ | refine z0c ?_ | refine z0e ?_ | refine z0b ?_ | refine z0h ?_ | refine qs ?_ | refine qb ?_ | refine z0j ?_ | refine qw ?_ | refine z0n ?_ | refine z0k ?_ | refine qi ?_ | refine qg (h := ?_) | refine qx (h := ?_) | refine qy (h := ?_) | refine qa ?_ | refine qc ?_ | refine ql ?_ | refine qp ?_ | refine z0a ?_ | rfl
     | (with_reducible first | refine ok_lt ?_ ?_ | refine ok_le ?_ ?_ | refine z0i ?_ ?_ | refine z0l ?_ ?_ | refine z0m ?_ ?_ | refine qu ?_ ?_ | refine ok_if ?_ ?_) <;> intro _ <;> try (exfalso; omega)
   · exact ⟨(), by rw [z0r (by omega)]; rfl, trivial⟩
end Go.Proofs.Ytfbdjicfkcklfaa
set_option maxRecDepth 100000
set_option maxHeartbeats 2000000
set_option linter.unusedSimpArgs false
set_option linter.unusedVariables false
namespace Go.Proofs.Ytfbdjicfkcklfaa
open Go.Tm Go.Ab
theorem z1cc (x : T0) : Ok (zjr x) fun r => True := by
 unfold zjr
 repeat' first
   | (dsimp only [Int.toNat_natCast, List.length_nil])
   | with_reducible first | refine z0g ?_ | refine z0f ?_ | refine z0c ?_ | refine z0e ?_ | refine z0b ?_ | refine z0h ?_ | refine qs ?_ | refine qb ?_ | refine z0j ?_ | refine qw ?_ | refine z0n ?_ | refine z0k ?_ | refine qi ?_ | refine qg (h := ?_) | refine qx (h := ?_) | refine qy (h := ?_) | refine qa ?_ | refine qc ?_ | refine ql ?_ | refine qp ?_ | refine z0a ?_ | rfl
   | (with_reducible first | refine ok_lt ?_ ?_ | refine ok_le ?_ ?_ | refine z0i ?_ ?_ | refine z0l ?_ ?_ | refine z0m ?_ ?_ | refine qu ?_ ?_ | refine ok_if ?_ ?_) <;> intro _ <;> try (exfalso; omega)
theorem z1xr {l : List T0} {v : List Int} (hl : l.length ≤ 1000) (hv : VecOk v) : Ok (znc l v) fun r => r = true → ∀ x, x ∈ l → 0 < x.2 := by
 unfold znc
 refine z0a (z1o l.length (fun i (_ : Unit) => (l, (i : Int), v)) (fun i _ => ∀ j (h : j < l.length), j < i → 0 < l[j].2) () rfl (fun j _ h => by omega) (fun _ ha => ?_) fun i _ hi ha => ?_)
 · unfold z7j zk2
   dsimp only
   repeat' first
     | (dsimp only [Int.toNat_natCast, List.length_nil])
     | with_reducible first | refine z0g ?_ | refine z0f ?_ | refine z0c ?_ | refine z0e ?_ | refine z0b ?_ | refine z0h ?_ | refine qs ?_ | refine qb ?_ | refine z0j ?_ | refine qw ?_ | refine z0n ?_ | refine z0k ?_ | refine qi ?_ | refine qg (h := ?_) | refine qx (h := ?_) | refine qy (h := ?_) | refine qa ?_ | refine qc ?_ | refine ql ?_ | refine qp ?_ | refine z0a ?_ | rfl
     | (with_reducible first | refine ok_lt ?_ ?_ | refine ok_le ?_ ?_ | refine z0i ?_ ?_ | refine z0l ?_ ?_ | refine z0m ?_ ?_ | refine qu ?_ ?_ | refine ok_if ?_ ?_) <;> intro _ <;> try (exfalso; omega)
   intro _ x hx
   obtain ⟨j, hj, rfl⟩ := List.mem_iff_getElem.1 hx
   exact ha j hj hj
 · unfold z7j zk2
   dsimp only
   have nx : hasV v l[i] = true → ∀ j (h : j < l.length), j < i + 1 → 0 < l[j].2 := fun e j hj hlt => by
     by_cases h : j = i
     · subst h
       unfold hasV at e
       rw [Bool.and_eq_true] at e
       exact of_decide_eq_true e.1
     · exact ha j hj (by omega)
   have nx' : ∀ x, hasV v x = true → l[((i : Nat) : Int).toNat]? = some x → ∀ j (h : j < l.length), j < i + 1 → 0 < l[j].2 := fun x e h => nx (by
     rw [Int.toNat_natCast, List.getElem?_eq_getElem hi] at h
     cases h; exact e)
   repeat' first
     | (dsimp only [Int.toNat_natCast, List.length_nil])
     | ((with_reducible refine ok_eq (z1g3 hv _) ?_))
     | ((with_reducible refine ok_eq (zu1 _ _) ?_))
     | (rw [z0r (show -9223372036854775808 ≤ (i : Int) - 1 ∧ (i : Int) - 1 ≤ 9223372036854775807 by omega)])
     | ((with_reducible refine z1xe (by omega) ?_); intro _ _)
     | with_reducible first | refine z0g ?_ | refine z0f ?_ | refine z0c ?_ | refine z0e ?_ | refine z0b ?_ | refine z0h ?_ | refine qs ?_ | refine qb ?_ | refine z0j ?_ | refine qw ?_ | refine z0n ?_ | refine z0k ?_ | refine qi ?_ | refine qg (h := ?_) | refine qx (h := ?_) | refine qy (h := ?_) | refine qa ?_ | refine qc ?_ | refine ql ?_ | refine qp ?_ | refine z0a ?_ | rfl
     | (with_reducible first | refine ok_lt ?_ ?_ | refine ok_le ?_ ?_ | refine z0i ?_ ?_ | refine z0l ?_ ?_ | refine z0m ?_ ?_ | refine qu ?_ ?_ | refine ok_if ?_ ?_) <;> intro _ <;> try (exfalso; omega)
   all_goals first
     | (intro h; exact absurd h (by simp))
     | exact ⟨(), by rw [z0r (by omega)]; rfl, nx' _ (by assumption) (by assumption)⟩
theorem z1x1 {l : List Int} (hl : l.length ≤ 1000) : Ok (zri l) fun r => True := by
 unfold zri
 repeat' first
   | (dsimp only [Int.toNat_natCast, List.length_nil])
   | ((with_reducible refine z0a (z1o l.length (fun i (_ : Unit) => (l, (i : Int))) (fun i _ => True) () rfl trivial (fun _ _ => ?_) fun i _ hi _ => ?_)))
   | with_reducible first | refine z0g ?_ | refine z0f ?_ | refine z0c ?_ | refine z0e ?_ | refine z0b ?_ | refine z0h ?_ | refine qs ?_ | refine qb ?_ | refine z0j ?_ | refine qw ?_ | refine z0n ?_ | refine z0k ?_ | refine qi ?_ | refine qg (h := ?_) | refine qx (h := ?_) | refine qy (h := ?_) | refine qa ?_ | refine qc ?_ | refine ql ?_ | refine qp ?_ | refine z0a ?_ | rfl
   | (with_reducible first | refine ok_lt ?_ ?_ | refine ok_le ?_ ?_ | refine z0i ?_ ?_ | refine z0l ?_ ?_ | refine z0m ?_ ?_ | refine qu ?_ ?_ | refine ok_if ?_ ?_) <;> intro _ <;> try (exfalso; omega)
 · unfold z5t zi0
   dsimp only
   repeat' first
     | (dsimp only [Int.toNat_natCast, List.length_nil])
     | with_reducible first | refine z0g ?_ | refine z0f ?_ | refine z0c ?_ | refine z0e ?_ | refine z0b ?_ | refine z0h ?_ | refine qs ?_ | refine qb ?_ | refine z0j ?_ | refine qw ?_ | refine z0n ?_ | refine z0k ?_ | refine qi ?_ | refine qg (h := ?_) | refine qx (h := ?_) | refine qy (h := ?_) | refine qa ?_ | refine qc ?_ | refine ql ?_ | refine qp ?_ | refine z0a ?_ | rfl
     | (with_reducible first | refine ok_lt ?_ ?_ | refine ok_le ?_ ?_ | refine z0i ?_ ?_ | refine z0l ?_ ?_ | refine z0m ?_ ?_ | refine qu ?_ ?_ | refine ok_if ?_ ?_) <;> intro _ <;> try (exfalso; omega)
 · unfold z5t zi0
   dsimp only
   repeat' first
     | (dsimp only [Int.toNat_natCast, List.length_nil])
     | with_reducible first | refine z0g ?_ | refine z0f ?_ | refine z0c ?_ | refine z0e ?_ | refine z0b ?_ | refine z0h ?_ | refine qs ?_ | refine qb ?_ | refine z0j ?_ | refine qw ?_ | refine z0n ?_ | refine z0k ?_ | refine qi ?_ | refine qg (h := ?_) | refine qx (h := ?_) | refine qy (h := ?_) | refine qa ?_ | refine qc ?_ | refine ql ?_ | refine qp ?_ | refine z0a ?_ | rfl
     | (with_reducible first | refine ok_lt ?_ ?_ | refine ok_le ?_ ?_ | refine z0i ?_ ?_ | refine z0l ?_ ?_ | refine z0m ?_ ?_ | refine qu ?_ ?_ | refine ok_if ?_ ?_) <;> intro _ <;> try (exfalso; omega)
   all_goals exact ⟨(), by rw [z0r (by omega)]; rfl, trivial⟩
theorem z1x2 (e : T1) (h1 : e.2.2.2.2.2.2.1.length ≤ 10) (h2 : e.2.2.2.2.2.2.2.1.length ≤ 10) (obj dir gone base off data ward : Bool) : Ok (zbj e obj dir gone base off data ward) fun r => r = true → base = false → e.2.2.2.2.2.2.2.1.length = 0 := by
 cases base with
 | true =>
   refine z9a (R := fun _ => True) ?_ fun _ _ _ h => by cases h
   unfold zbj
   repeat' first
     | (dsimp only [Int.toNat_natCast, List.length_nil])
     | ((with_reducible refine z1c (z1cc _) ?_); intro _ _)
     | with_reducible first | refine z0g ?_ | refine z0f ?_ | refine z0c ?_ | refine z0e ?_ | refine z0b ?_ | refine z0h ?_ | refine qs ?_ | refine qb ?_ | refine z0j ?_ | refine qw ?_ | refine z0n ?_ | refine z0k ?_ | refine qi ?_ | refine qg (h := ?_) | refine qx (h := ?_) | refine qy (h := ?_) | refine qa ?_ | refine qc ?_ | refine ql ?_ | refine qp ?_ | refine z0a ?_ | rfl
     | (with_reducible first | refine ok_lt ?_ ?_ | refine ok_le ?_ ?_ | refine z0i ?_ ?_ | refine z0l ?_ ?_ | refine z0m ?_ ?_ | refine qu ?_ ?_ | refine ok_if ?_ ?_) <;> intro _ <;> try (exfalso; omega)
 | false =>
   unfold zbj
   repeat' first
     | (dsimp only [Int.toNat_natCast, List.length_nil])
     | ((with_reducible refine z1c (z1cc _) ?_); intro _ _)
     | with_reducible first | refine z0g ?_ | refine z0f ?_ | refine z0c ?_ | refine z0e ?_ | refine z0b ?_ | refine z0h ?_ | refine qs ?_ | refine qb ?_ | refine z0j ?_ | refine qw ?_ | refine z0n ?_ | refine z0k ?_ | refine qi ?_ | refine qg (h := ?_) | refine qx (h := ?_) | refine qy (h := ?_) | refine qa ?_ | refine qc ?_ | refine ql ?_ | refine qp ?_ | refine z0a ?_ | rfl
     | (with_reducible first | refine ok_lt ?_ ?_ | refine ok_le ?_ ?_ | refine z0i ?_ ?_ | refine z0l ?_ ?_ | refine z0m ?_ ?_ | refine qu ?_ ?_ | refine ok_if ?_ ?_) <;> intro _ <;> try (exfalso; omega)
   all_goals first
     | (intro _ _; omega)
     | (intro h; exact absurd h (by simp))
structure Chk (e : T1) : Prop where
 rep : 1 ≤ e.1.1 ∧ e.1.1 ≤ 8
 seq : 1 ≤ e.1.2
 base : ¬ e.2.2.1 = 3 → ¬ e.2.2.1 = 4 → ¬ e.2.2.1 = 5 → e.2.2.2.2.2.2.2.1.length = 0
 pos : ∀ b, b ∈ e.2.2.2.2.2.2.2.1 → 0 < b.2
theorem z1vv (e : T1) (h : EvIn e) : Ok (zu9 e) fun r => r = true → Chk e := by
 have h1 := h.gone
 have h2 := h.base
 have h3 := h.name
 have h4 := h.data
 have h5 := h.dep
 have h6 : e.2.1.length = 8 := h.dep
 unfold z1be at h1
 unfold zil at h2
 unfold z1nw at h4
 have look : Ok (loopC z3x (0, e)) (fun s => s = .inl e ∨ s = .inr false) := by
   refine z1o 8 (fun i (_ : Unit) => ((i : Int), e)) (fun i _ => True) () rfl trivial (fun _ _ => ?_) fun i _ hi _ => ?_
   · unfold z3x zgg
     dsimp only
     repeat' first
       | (dsimp only [Int.toNat_natCast, List.length_nil])
       | with_reducible first | refine z0g ?_ | refine z0f ?_ | refine z0c ?_ | refine z0e ?_ | refine z0b ?_ | refine z0h ?_ | refine qs ?_ | refine qb ?_ | refine z0j ?_ | refine qw ?_ | refine z0n ?_ | refine z0k ?_ | refine qi ?_ | refine qg (h := ?_) | refine qx (h := ?_) | refine qy (h := ?_) | refine qa ?_ | refine qc ?_ | refine ql ?_ | refine qp ?_ | refine z0a ?_ | rfl
       | (with_reducible first | refine ok_lt ?_ ?_ | refine ok_le ?_ ?_ | refine z0i ?_ ?_ | refine z0l ?_ ?_ | refine z0m ?_ ?_ | refine qu ?_ ?_ | refine ok_if ?_ ?_) <;> intro _ <;> try (exfalso; omega)
     exact .inl rfl
   · unfold z3x zgg
     dsimp only
     repeat' first
       | (dsimp only [Int.toNat_natCast, List.length_nil])
       | with_reducible first | refine z0g ?_ | refine z0f ?_ | refine z0c ?_ | refine z0e ?_ | refine z0b ?_ | refine z0h ?_ | refine qs ?_ | refine qb ?_ | refine z0j ?_ | refine qw ?_ | refine z0n ?_ | refine z0k ?_ | refine qi ?_ | refine qg (h := ?_) | refine qx (h := ?_) | refine qy (h := ?_) | refine qa ?_ | refine qc ?_ | refine ql ?_ | refine qp ?_ | refine z0a ?_ | rfl
       | (with_reducible first | refine ok_lt ?_ ?_ | refine ok_le ?_ ?_ | refine z0i ?_ ?_ | refine z0l ?_ ?_ | refine z0m ?_ ?_ | refine qu ?_ ?_ | refine ok_if ?_ ?_) <;> intro _ <;> try (exfalso; omega)
     · exact .inr rfl
     · exact ⟨(), by rw [z0r (by omega)]; rfl, trivial⟩
 unfold zu9
 repeat' first
   | (dsimp only [Int.toNat_natCast, List.length_nil])
   | ((with_reducible refine ok_eq (z1h5 h5 _) ?_))
   | (with_reducible refine z1c look ?_)
   | with_reducible first | refine z0g ?_ | refine z0f ?_ | refine z0c ?_ | refine z0e ?_ | refine z0b ?_ | refine z0h ?_ | refine qs ?_ | refine qb ?_ | refine z0j ?_ | refine qw ?_ | refine z0n ?_ | refine z0k ?_ | refine qi ?_ | refine qg (h := ?_) | refine qx (h := ?_) | refine qy (h := ?_) | refine qa ?_ | refine qc ?_ | refine ql ?_ | refine qp ?_ | refine z0a ?_ | rfl
   | (with_reducible first | refine ok_lt ?_ ?_ | refine ok_le ?_ ?_ | refine z0i ?_ ?_ | refine z0l ?_ ?_ | refine z0m ?_ ?_ | refine qu ?_ ?_ | refine ok_if ?_ ?_) <;> intro _ <;> try (exfalso; omega)
 all_goals first
   | (intro h; exact absurd h (by simp))
   | skip
 rintro _ (rfl | rfl)
 · dsimp only [Sum.elim_inl]
   refine z1c (R := fun j => ∃ a b, j = (a, b, e)) ?_ ?_
   · repeat' first
       | (dsimp only [Int.toNat_natCast, List.length_nil])
       | ((with_reducible refine ok_eq (z1g3 h5 _) ?_))
       | ((with_reducible refine z1c (z1cc _) ?_); intro _ _)
       | with_reducible first | refine z0g ?_ | refine z0f ?_ | refine z0c ?_ | refine z0e ?_ | refine z0b ?_ | refine z0h ?_ | refine qs ?_ | refine qb ?_ | refine z0j ?_ | refine qw ?_ | refine z0n ?_ | refine z0k ?_ | refine qi ?_ | refine qg (h := ?_) | refine qx (h := ?_) | refine qy (h := ?_) | refine qa ?_ | refine qc ?_ | refine ql ?_ | refine qp ?_ | refine z0a ?_ | rfl
       | (with_reducible first | refine ok_lt ?_ ?_ | refine ok_le ?_ ?_ | refine z0i ?_ ?_ | refine z0l ?_ ?_ | refine z0m ?_ ?_ | refine qu ?_ ?_ | refine ok_if ?_ ?_) <;> intro _ <;> try (exfalso; omega)
     all_goals exact ⟨_, _, rfl⟩
   rintro _ ⟨a, b, rfl⟩
   dsimp only
   refine z1c (R := fun j => ∃ a b c d, j = (a, b, c, d, e) ∧ (d = true → ∀ x, x ∈ e.2.2.2.2.2.2.2.1 → 0 < x.2)) ?_ ?_
   · repeat' first
       | (dsimp only [Int.toNat_natCast, List.length_nil])
       | ((with_reducible refine z1c (z1xr (by omega) h5) ?_); intro _ _)
       | with_reducible first | refine z0g ?_ | refine z0f ?_ | refine z0c ?_ | refine z0e ?_ | refine z0b ?_ | refine z0h ?_ | refine qs ?_ | refine qb ?_ | refine z0j ?_ | refine qw ?_ | refine z0n ?_ | refine z0k ?_ | refine qi ?_ | refine qg (h := ?_) | refine qx (h := ?_) | refine qy (h := ?_) | refine qa ?_ | refine qc ?_ | refine ql ?_ | refine qp ?_ | refine z0a ?_ | rfl
       | (with_reducible first | refine ok_lt ?_ ?_ | refine ok_le ?_ ?_ | refine z0i ?_ ?_ | refine z0l ?_ ?_ | refine z0m ?_ ?_ | refine qu ?_ ?_ | refine ok_if ?_ ?_) <;> intro _ <;> try (exfalso; omega)
     all_goals exact ⟨_, _, _, _, rfl, by assumption⟩
   rintro _ ⟨a, b, c, d, rfl, hd⟩
   dsimp only
   refine z1c (R := fun j => ∃ f, j = (a, b, c, d, f, e)) ?_ ?_
   · repeat' first
       | (dsimp only [Int.toNat_natCast, List.length_nil])
       | with_reducible first | refine z0g ?_ | refine z0f ?_ | refine z0c ?_ | refine z0e ?_ | refine z0b ?_ | refine z0h ?_ | refine qs ?_ | refine qb ?_ | refine z0j ?_ | refine qw ?_ | refine z0n ?_ | refine z0k ?_ | refine qi ?_ | refine qg (h := ?_) | refine qx (h := ?_) | refine qy (h := ?_) | refine qa ?_ | refine qc ?_ | refine ql ?_ | refine qp ?_ | refine z0a ?_ | rfl
       | (with_reducible first | refine ok_lt ?_ ?_ | refine ok_le ?_ ?_ | refine z0i ?_ ?_ | refine z0l ?_ ?_ | refine z0m ?_ ?_ | refine qu ?_ ?_ | refine ok_if ?_ ?_) <;> intro _ <;> try (exfalso; omega)
     all_goals exact ⟨_, rfl⟩
   rintro _ ⟨f, rfl⟩
   dsimp only
   refine z1c (R := fun j => ∃ g, j = (a, b, c, d, f, e.2.2.1, g, e) ∧ (g = true → e.2.2.1 = 1 ∨ e.2.2.1 = 2)) ?_ ?_
   · repeat' first
       | (dsimp only [Int.toNat_natCast, List.length_nil])
       | with_reducible first | refine z0g ?_ | refine z0f ?_ | refine z0c ?_ | refine z0e ?_ | refine z0b ?_ | refine z0h ?_ | refine qs ?_ | refine qb ?_ | refine z0j ?_ | refine qw ?_ | refine z0n ?_ | refine z0k ?_ | refine qi ?_ | refine qg (h := ?_) | refine qx (h := ?_) | refine qy (h := ?_) | refine qa ?_ | refine qc ?_ | refine ql ?_ | refine qp ?_ | refine z0a ?_ | rfl
       | (with_reducible first | refine ok_lt ?_ ?_ | refine ok_le ?_ ?_ | refine z0i ?_ ?_ | refine z0l ?_ ?_ | refine z0m ?_ ?_ | refine qu ?_ ?_ | refine ok_if ?_ ?_) <;> intro _ <;> try (exfalso; omega)
     · exact ⟨_, rfl, fun _ => .inl (by assumption)⟩
     · exact ⟨_, rfl, fun h => .inr (of_decide_eq_true h)⟩
   rintro _ ⟨g, rfl, hg⟩
   dsimp only
   repeat' first
     | (dsimp only [Int.toNat_natCast, List.length_nil])
     | ((with_reducible refine z1c (z1x1 (by omega)) ?_); intro _ _)
     | ((with_reducible refine z1c (z1x2 e h1 h2 _ _ _ _ _ _ _) ?_); intro _ hmd)
     | with_reducible first | refine z0g ?_ | refine z0f ?_ | refine z0c ?_ | refine z0e ?_ | refine z0b ?_ | refine z0h ?_ | refine qs ?_ | refine qb ?_ | refine z0j ?_ | refine qw ?_ | refine z0n ?_ | refine z0k ?_ | refine qi ?_ | refine qg (h := ?_) | refine qx (h := ?_) | refine qy (h := ?_) | refine qa ?_ | refine qc ?_ | refine ql ?_ | refine qp ?_ | refine z0a ?_ | rfl
     | (with_reducible first | refine ok_lt ?_ ?_ | refine ok_le ?_ ?_ | refine z0i ?_ ?_ | refine z0l ?_ ?_ | refine z0m ?_ ?_ | refine qu ?_ ?_ | refine ok_if ?_ ?_) <;> intro _ <;> try (exfalso; omega)
   all_goals first
     | (intro h; cases h; done)
     | (intro h
        have hb := hmd h rfl
        exact ⟨by omega, by omega, fun _ _ _ => hb, fun b hbm => by rw [List.eq_nil_of_length_eq_zero hb] at hbm; cases hbm⟩)
     | (intro h
        exact ⟨by omega, by omega, fun _ _ _ => by omega, hd (by assumption)⟩)
 · dsimp only [Sum.elim_inr]
   refine z0c ?_
   intro h; exact absurd h (by simp)
end Go.Proofs.Ytfbdjicfkcklfaa
set_option maxRecDepth 100000
set_option maxHeartbeats 2000000
set_option linter.unusedSimpArgs false
set_option linter.unusedVariables false
namespace Go.Proofs.Ytfbdjicfkcklfaa
open Go.Tm Go.Ab
def Objs (l : List T4) (id : T0) (r : T4 × Bool) : Prop := (r.2 = false ∧ ∀ o, o ∈ l → ¬ o.1 = id) ∨ (r.2 = true ∧ r.1 ∈ l ∧ r.1.1 = id)
theorem zp0 (s : T5) (id : T0) (hl : s.2.1.length ≤ 1000) : Ok (ze1 s id) fun r => Objs s.2.1 id r := by
 unfold ze1
 refine z0a (z1o s.2.1.length (fun i (_ : Unit) => ((i : Int), s, id, ((0, 0), false, (0, 0), ([] : List Int), List.replicate 8 (0 : Int), ([] : List T3)))) (fun i _ => ∀ j (h : j < s.2.1.length), j < i → ¬ s.2.1[j].1 = id) () rfl (fun j _ h => by omega) (fun _ ha => ?_) fun i _ hi ha => ?_)
 · unfold z5s zi3
   dsimp only
   repeat' first
     | (dsimp only [Int.toNat_natCast, List.length_nil])
     | with_reducible first | refine z0g ?_ | refine z0f ?_ | refine z0c ?_ | refine z0e ?_ | refine z0b ?_ | refine z0h ?_ | refine qs ?_ | refine qb ?_ | refine z0j ?_ | refine qw ?_ | refine z0n ?_ | refine z0k ?_ | refine qi ?_ | refine qg (h := ?_) | refine qx (h := ?_) | refine qy (h := ?_) | refine qa ?_ | refine qc ?_ | refine ql ?_ | refine qp ?_ | refine z0a ?_ | rfl
     | (with_reducible first | refine ok_lt ?_ ?_ | refine ok_le ?_ ?_ | refine z0i ?_ ?_ | refine z0l ?_ ?_ | refine z0m ?_ ?_ | refine qu ?_ ?_ | refine ok_if ?_ ?_) <;> intro _ <;> try (exfalso; omega)
   refine .inl ⟨rfl, fun o ho => ?_⟩
   obtain ⟨j, hj, rfl⟩ := List.mem_iff_getElem.1 ho
   exact ha j hj hj
 · unfold z5s zi3
   dsimp only
   repeat' first
     | (dsimp only [Int.toNat_natCast, List.length_nil])
     | ((with_reducible refine z0z ?_ ?_) <;> intro _)
     | with_reducible first | refine z0g ?_ | refine z0f ?_ | refine z0c ?_ | refine z0e ?_ | refine z0b ?_ | refine z0h ?_ | refine qs ?_ | refine qb ?_ | refine z0j ?_ | refine qw ?_ | refine z0n ?_ | refine z0k ?_ | refine qi ?_ | refine qg (h := ?_) | refine qx (h := ?_) | refine qy (h := ?_) | refine qa ?_ | refine qc ?_ | refine ql ?_ | refine qp ?_ | refine z0a ?_ | rfl
     | (with_reducible first | refine ok_lt ?_ ?_ | refine ok_le ?_ ?_ | refine z0i ?_ ?_ | refine z0l ?_ ?_ | refine z0m ?_ ?_ | refine qu ?_ ?_ | refine ok_if ?_ ?_) <;> intro _ <;> try (exfalso; omega)
   · exact .inr ⟨rfl, List.getElem_mem hi, by assumption⟩
   · refine ⟨(), by rw [z0r (by omega)]; rfl, fun j hj hlt => ?_⟩
     by_cases e : j = i
     · subst e; assumption
     · exact ha j hj (by omega)
theorem z1u6 (x : T0) : Ok (zx8 x) fun r => r = true → x.1 = 0 ∧ x.2 = 0 := by
 unfold zx8
 repeat' first
   | (dsimp only [Int.toNat_natCast, List.length_nil])
   | with_reducible first | refine z0g ?_ | refine z0f ?_ | refine z0c ?_ | refine z0e ?_ | refine z0b ?_ | refine z0h ?_ | refine qs ?_ | refine qb ?_ | refine z0j ?_ | refine qw ?_ | refine z0n ?_ | refine z0k ?_ | refine qi ?_ | refine qg (h := ?_) | refine qx (h := ?_) | refine qy (h := ?_) | refine qa ?_ | refine qc ?_ | refine ql ?_ | refine qp ?_ | refine z0a ?_ | rfl
   | (with_reducible first | refine ok_lt ?_ ?_ | refine ok_le ?_ ?_ | refine z0i ?_ ?_ | refine z0l ?_ ?_ | refine z0m ?_ ?_ | refine qu ?_ ?_ | refine ok_if ?_ ?_) <;> intro _ <;> try (exfalso; omega)
 · exact fun h => ⟨by assumption, of_decide_eq_true h⟩
 · exact fun h => absurd h (by simp)
theorem z1sl (s : T5) (id : T0) (hl : s.2.1.length ≤ 1000) : Ok (zuj s id) fun r => r = 0 → id = (0, 0) ∨ ∃ o, o ∈ s.2.1 ∧ o.1 = id := by
 unfold zuj
 repeat' first
   | (dsimp only [Int.toNat_natCast, List.length_nil])
   | ((with_reducible refine z1c (z1u6 _) ?_); intro _ hz)
   | ((with_reducible refine z1c (zp0 s id hl) ?_); rintro r (⟨h1, _⟩ | ⟨h1, h2, h3⟩))
   | with_reducible first | refine z0g ?_ | refine z0f ?_ | refine z0c ?_ | refine z0e ?_ | refine z0b ?_ | refine z0h ?_ | refine qs ?_ | refine qb ?_ | refine z0j ?_ | refine qw ?_ | refine z0n ?_ | refine z0k ?_ | refine qi ?_ | refine qg (h := ?_) | refine qx (h := ?_) | refine qy (h := ?_) | refine qa ?_ | refine qc ?_ | refine ql ?_ | refine qp ?_ | refine z0a ?_ | rfl
   | (with_reducible first | refine ok_lt ?_ ?_ | refine ok_le ?_ ?_ | refine z0i ?_ ?_ | refine z0l ?_ ?_ | refine z0m ?_ ?_ | refine qu ?_ ?_ | refine ok_if ?_ ?_) <;> intro _ <;> try (exfalso; omega)
 all_goals first
   | (intro h; cases h; done)
   | exact fun _ => .inl (Prod.ext (hz (by assumption)).1 (hz (by assumption)).2)
   | exact fun _ => .inr ⟨_, h2, h3⟩
   | (exfalso; simp_all; done)
structure WhyOk (s : T5) (e : T1) : Prop where
 chk : Chk e
 new : hasV s.1 e.1 = false
 dep : leqV e.2.1 s.1 = true
 dir : e.2.2.1 = 1 ∨ e.2.2.1 = 2 ∨ e.2.2.1 = 7 → e.2.2.2.2.1 = (0, 0) ∨ ∃ o, o ∈ s.2.1 ∧ o.1 = e.2.2.2.2.1
 obj : e.2.2.1 = 7 → ∃ o, o ∈ s.2.1 ∧ o.1 = e.2.2.2.1
 base : ∀ b, b ∈ e.2.2.2.2.2.2.2.1 → ∃ o, o ∈ s.2.1 ∧ ∃ v, v ∈ o.2.2.2.2.2 ∧ v.1 = b
theorem z1yb {s : T5} {e : T1} (h : EvIn e) (hs : Sm s) (hr : s.2.2.2.2.length = 8) : Ok (z11c s e) fun r => r = 0 → WhyOk s e := by
 have h1 := h.base
 have h2 := hs.olen
 have nb : Chk e → ¬ e.2.2.1 = 3 → ¬ e.2.2.1 = 4 → ¬ e.2.2.1 = 5 → ∀ b, b ∈ e.2.2.2.2.2.2.2.1 → ∃ o, o ∈ s.2.1 ∧ ∃ v, v ∈ o.2.2.2.2.2 ∧ v.1 = b := fun hc a b c x hx => by
   rw [List.eq_nil_of_length_eq_zero (hc.base a b c)] at hx; cases hx
 unfold z11c
 refine z1c (z1vv e h) ?_
 intro ck hck
 refine z0h ?_
 refine ok_if (fun hck1 => ?_) (fun _ => ?_)
 rotate_left
 · refine z0c ?_
   intro h; cases h
 replace hck := hck hck1
 have hrp := hck.rep
 have w1 : W64 (e.1.1 - 1) = e.1.1 - 1 := z0r (by omega)
 refine ok_eq (z1g3 hs.known _) ?_
 refine ok_if (fun _ => ?_) (fun hnew => ?_)
 · refine z0c ?_
   intro h; cases h
 refine ok_eq (z1w3 h.dep hs.known) ?_
 refine z0h (ok_if (fun hdep => ?_) (fun _ => ?_))
 rotate_left
 · refine z0c ?_
   intro h; cases h
 rw [w1]
 refine ok_in (by first | omega | (simp only [List.length_set, List.length_append, List.length_cons, List.length_nil, List.length_replicate, List.length_take, List.length_drop, List.length_map, Int.toNat_natCast] <;> omega)) (z1sr (by first | omega | (simp only [List.length_set, List.length_append, List.length_cons, List.length_nil, List.length_replicate, List.length_take, List.length_drop, List.length_map, Int.toNat_natCast] <;> omega)) ?_)
 refine ok_if (fun _ => ?_) (fun _ => ?_)
 · refine z0c ?_
   intro h; cases h
 refine z0i (fun hk8 => z0c ?_) (fun hk8 => z0i (fun hk9 => z0c ?_) (fun hk9 => ?_))
 · exact fun _ => ⟨hck, hnew, hdep, fun h => by omega, fun h => by omega, nb hck (by omega) (by omega) (by omega)⟩
 · exact fun _ => ⟨hck, hnew, hdep, fun h => by omega, fun h => by omega, nb hck (by omega) (by omega) (by omega)⟩
 refine z1c (R := fun j => ∃ g, j = (g, s, e) ∧ ((g = true ∧ (e.2.2.1 = 1 ∨ e.2.2.1 = 2)) ∨ (g = false ∧ ¬ e.2.2.1 = 1 ∧ ¬ e.2.2.1 = 2))) ?_ ?_
 · refine z0i (fun h => z0c ⟨_, rfl, .inl ⟨rfl, .inl h⟩⟩) (fun h => z0c ⟨_, rfl, ?_⟩)
   by_cases h2 : e.2.2.1 = 2
   · exact .inl ⟨eqI_t h2, .inr h2⟩
   · exact .inr ⟨eqI_f h2, h, h2⟩
 rintro _ ⟨g, rfl, hg⟩
 dsimp only
 rcases hg with ⟨rfl, hg⟩ | ⟨rfl, hg1, hg2⟩
 · refine z0e (z1c (z1sl s _ h2) fun r hd => z0c fun e0 => ?_)
   exact ⟨hck, hnew, hdep, fun _ => hd e0, fun h => by omega, nb hck (by omega) (by omega) (by omega)⟩
 refine z0b (z1c (zp0 s _ h2) ?_)
 rintro ⟨o, f⟩ (⟨rfl, _⟩ | ⟨rfl, ho, hid⟩)
 · dsimp only
   refine z0h (z0b (z0c ?_))
   intro h; cases h
 dsimp only at ho hid ⊢
 refine z0h (z0e ?_)
 refine z0i (fun hk7 => ?_) fun hk7 => z0i (fun hk6 => z0c fun _ => ?_) fun hk6 => ?_
 · refine z1c (z1sl s _ h2) fun r hd => z0c fun e0 => ?_
   exact ⟨hck, hnew, hdep, fun _ => hd e0, fun _ => ⟨o, ho, hid⟩, nb hck (by omega) (by omega) (by omega)⟩
 · exact ⟨hck, hnew, hdep, fun h => by omega, fun h => by omega, nb hck (by omega) (by omega) (by omega)⟩
 refine ok_if (fun _ => ?_) (fun _ => ?_)
 · refine z0c ?_
   intro h; cases h
 have hov := (hs.obj o ho).len
 refine z1c (R := fun x => (∃ n : Int, x = .inr n ∧ ¬ n = 0) ∨ (x = .inl () ∧ ∀ b, b ∈ e.2.2.2.2.2.2.2.1 → ∃ v, v ∈ o.2.2.2.2.2 ∧ v.1 = b)) ?_ ?_
 · refine z1o e.2.2.2.2.2.2.2.1.length (fun i (_ : Unit) => ((i : Int), e, o)) (fun i _ => ∀ j (h : j < e.2.2.2.2.2.2.2.1.length), j < i → ∃ v, v ∈ o.2.2.2.2.2 ∧ v.1 = e.2.2.2.2.2.2.2.1[j]) () rfl (fun j _ h => by omega) (fun _ ha => ?_) fun i _ hi ha => ?_
   · unfold zil at h1
     unfold z1n z6x
     dsimp only
     repeat' first
       | (dsimp only [Int.toNat_natCast, List.length_nil])
       | with_reducible first | refine z0g ?_ | refine z0f ?_ | refine z0c ?_ | refine z0e ?_ | refine z0b ?_ | refine z0h ?_ | refine qs ?_ | refine qb ?_ | refine z0j ?_ | refine qw ?_ | refine z0n ?_ | refine z0k ?_ | refine qi ?_ | refine qg (h := ?_) | refine qx (h := ?_) | refine qy (h := ?_) | refine qa ?_ | refine qc ?_ | refine ql ?_ | refine qp ?_ | refine z0a ?_ | rfl
       | (with_reducible first | refine ok_lt ?_ ?_ | refine ok_le ?_ ?_ | refine z0i ?_ ?_ | refine z0l ?_ ?_ | refine z0m ?_ ?_ | refine qu ?_ ?_ | refine ok_if ?_ ?_) <;> intro _ <;> try (exfalso; omega)
     refine .inr ⟨rfl, fun b hb => ?_⟩
     obtain ⟨j, hj, rfl⟩ := List.mem_iff_getElem.1 hb
     exact ha j hj hj
   · unfold zil at h1
     unfold z1n z6x
     dsimp only
     repeat' first
       | (dsimp only [Int.toNat_natCast, List.length_nil])
       | ((with_reducible refine z1c (z1x8 _ _ (by omega)) ?_); intro _ hdata)
       | with_reducible first | refine z0g ?_ | refine z0f ?_ | refine z0c ?_ | refine z0e ?_ | refine z0b ?_ | refine z0h ?_ | refine qs ?_ | refine qb ?_ | refine z0j ?_ | refine qw ?_ | refine z0n ?_ | refine z0k ?_ | refine qi ?_ | refine qg (h := ?_) | refine qx (h := ?_) | refine qy (h := ?_) | refine qa ?_ | refine qc ?_ | refine ql ?_ | refine qp ?_ | refine z0a ?_ | rfl
       | (with_reducible first | refine ok_lt ?_ ?_ | refine ok_le ?_ ?_ | refine z0i ?_ ?_ | refine z0l ?_ ?_ | refine z0m ?_ ?_ | refine qu ?_ ?_ | refine ok_if ?_ ?_) <;> intro _ <;> try (exfalso; omega)
     · refine ⟨(), by rw [z0r (by omega)]; rfl, fun j hj hlt => ?_⟩
       by_cases e : j = i
       · subst e
         rcases hdata (by assumption) with hz | hz
         · have := hck.pos _ (List.getElem_mem hi)
           omega
         · exact hz
       · exact ha j hj (by omega)
     · exact .inl ⟨_, rfl, by omega⟩
 rintro x (⟨n, rfl, hn⟩ | ⟨rfl, hb⟩)
 · dsimp only [Sum.elim_inr]
   exact z0c fun h => absurd h hn
 · dsimp only [Sum.elim_inl]
   exact z0c fun _ => ⟨hck, hnew, hdep, fun h => by omega, fun h => by omega, fun b hb' => ⟨o, ho, hb b hb'⟩⟩
theorem z1dd {l : List T1} {s : T5} (h : StOk l (z8l l) s) (hl : l.length ≤ 1000) : Sm s where
 known := by rw [h.known]; exact (zdx l).1
 olen := Nat.le_trans h.olen hl
 obj := fun o ho => ⟨(h.obj o ho).seen.v, Nat.le_trans (h.obj o ho).len hl, fun v hv => ((h.obj o ho).vers v hv).by'.v⟩
 elen := Nat.le_trans h.elen hl
 ent := fun x hx => (h.ent x hx).by'.v
structure TakeOk (l : List T1) : Prop where
 evs : Evs l (z8l l)
 nd : ∀ j k (h : j < l.length) (g : k < l.length), l[j].1 = l[k].1 → j = k
 seq : ∀ e, e ∈ l → 1 ≤ e.1.2
 dir : ∀ e, e ∈ l → e.2.2.1 = 1 ∨ e.2.2.1 = 2 ∨ e.2.2.1 = 7 → e.2.2.2.2.1 = (0, 0) ∨ ∃ x, x ∈ l ∧ makes x ∧ x.1 = e.2.2.2.2.1
 obj : ∀ e, e ∈ l → e.2.2.1 = 7 → ∃ x, x ∈ l ∧ makes x ∧ x.1 = e.2.2.2.1
theorem z1rb : TakeOk [] where
 evs := ⟨Nat.zero_le _, fun e h => (by cases h), fun i h => (by cases h), fun e h => (by cases h), (zdx []).1, (zdx []).2, fun e h => (by cases h), fun e h => (by cases h)⟩
 nd := fun j k h => by cases h
 seq := fun e h => by cases h
 dir := fun e h => by cases h
 obj := fun e h => by cases h
theorem z1s8 {l : List T1} {s : T5} {x : T1} (h : TakeOk l) (hs : StOk l (z8l l) s) (hx : EvIn x) (hw : WhyOk s x) (hl : l.length < 1000) : TakeOk (l ++ [x]) := by
 have hk := zdx l
 have e := z1im l x
 have hle : leV (z8l l) (z8l (l ++ [x])) := by rw [e]; exact z17w hk.1 (zfn _)
 have hm : ∀ y, y ∈ l ++ [x] → y ∈ l ∨ y = x := fun y hy => by simpa using hy
 have hsm := z1dd hs (by omega)
 have chain0 := h.evs.chain
 refine ⟨⟨by simp; omega, fun y hy => ?_, ?_, fun y hy => ?_, (zdx _).1, (zdx _).2, fun y hy => ?_, fun y hy => ?_⟩, ?_, fun y hy => ?_, fun y hy hk' => ?_, fun y hy hk' => ?_⟩
 · rcases hm y hy with hy | rfl
   · exact h.evs.ev y hy
   · exact hx
 · intro i hi b hb
   by_cases hlt : i < l.length
   · rw [List.getElem_append_left hlt] at hb
     obtain ⟨j, hj, h1, h2⟩ := chain0 i hlt b hb
     exact ⟨j, by simp; omega, h1, by rw [List.getElem_append_left hj]; exact h2⟩
   · have hi' : i = l.length := by simp at hi; omega
     subst hi'
     rw [List.getElem_append_right (Nat.le_refl _)] at hb
     simp only [Nat.sub_self, List.getElem_singleton] at hb
     obtain ⟨o, ho, v, hv, rfl⟩ := hw.base b (List.mem_of_getElem? hb)
     obtain ⟨y, hy, h1, _⟩ := ((hs.obj o ho).vers v hv).ev
     obtain ⟨j, hj, rfl⟩ := List.mem_iff_getElem.1 hy
     exact ⟨j, by simp; omega, hj, by rw [List.getElem_append_left hj]; exact h1.symm⟩
 · rcases hm y hy with hy | rfl
   · exact h.evs.rep y hy
   · exact hw.chk.rep
 · rcases hm y hy with hy | rfl
   · exact z1ep hle (h.evs.means y hy)
   · rw [e]; exact z1fd hk.1 hw.chk.rep
 · rcases hm y hy with hy | rfl
   · exact z1bj (h.evs.dep y hy) hle
   · have := hw.dep
     rw [z17b hx.dep hsm.known, hs.known] at this
     exact z1bj this hle
 · have key : ∀ j (hj : j < l.length), ¬ l[j].1 = x.1 := fun j hj he => by
     have h1 := h.evs.means _ (List.getElem_mem hj)
     rw [he] at h1
     have h2 := hw.new
     rw [hs.known] at h2
     unfold hasV at h2
     rw [ltI_t (by have := hw.chk.seq; omega), leI_t h1] at h2
     cases h2
   intro j k hj hk' he
   by_cases h1 : j < l.length <;> by_cases h2 : k < l.length
   · rw [List.getElem_append_left h1, List.getElem_append_left h2] at he
     exact h.nd j k h1 h2 he
   · rw [List.getElem_append_left h1, List.getElem_append_right (by omega)] at he
     simp only [List.getElem_singleton] at he
     exact absurd he (key j h1)
   · rw [List.getElem_append_left h2, List.getElem_append_right (by omega)] at he
     simp only [List.getElem_singleton] at he
     exact absurd he.symm (key k h2)
   · simp at hj hk'; omega
 · rcases hm y hy with hy | rfl
   · exact h.seq y hy
   · exact hw.chk.seq
 · rcases hm y hy with hy | rfl
   · rcases h.dir y hy hk' with h1 | ⟨z, h1, h2⟩
     · exact .inl h1
     · exact .inr ⟨z, by simp [h1], h2⟩
   · rcases hw.dir hk' with h1 | ⟨o, ho, h1⟩
     · exact .inl h1
     · obtain ⟨z, h3, h4, h5⟩ := hs.mem o ho
       exact .inr ⟨z, by simp [h3], h4, by rw [← h5, h1]⟩
 · rcases hm y hy with hy | rfl
   · obtain ⟨z, h1, h2⟩ := h.obj y hy hk'
     exact ⟨z, by simp [h1], h2⟩
   · obtain ⟨o, ho, h1⟩ := hw.obj hk'
     obtain ⟨z, h3, h4, h5⟩ := hs.mem o ho
     exact ⟨z, by simp [h3], h4, by rw [← h5, h1]⟩
theorem z1y1 {l : List T1} (hl : l.length ≤ 100) (hin : ∀ e, e ∈ l → EvIn e) : Ok (zr9 l) fun r => TakeOk r ∧ r.length ≤ 100 := by
 unfold zr9
 refine zbv rfl (z0a (z1o l.length (fun i (a : List T1) => (l, (i : Int), a)) (fun i a => a.length ≤ i ∧ TakeOk a) [] rfl ⟨Nat.zero_le _, z1rb⟩ (fun a ha => ?_) fun i a hi ha => ?_))
 · obtain ⟨h1, h2⟩ := ha
   unfold z5r zi4
   dsimp only
   repeat' first
     | (dsimp only [Int.toNat_natCast, List.length_nil])
     | with_reducible first | refine z0g ?_ | refine z0f ?_ | refine z0c ?_ | refine z0e ?_ | refine z0b ?_ | refine z0h ?_ | refine qs ?_ | refine qb ?_ | refine z0j ?_ | refine qw ?_ | refine z0n ?_ | refine z0k ?_ | refine qi ?_ | refine qg (h := ?_) | refine qx (h := ?_) | refine qy (h := ?_) | refine qa ?_ | refine qc ?_ | refine ql ?_ | refine qp ?_ | refine z0a ?_ | rfl
     | (with_reducible first | refine ok_lt ?_ ?_ | refine ok_le ?_ ?_ | refine z0i ?_ ?_ | refine z0l ?_ ?_ | refine z0m ?_ ?_ | refine qu ?_ ?_ | refine ok_if ?_ ?_) <;> intro _ <;> try (exfalso; omega)
   exact ⟨h2, by omega⟩
 · obtain ⟨h1, h2⟩ := ha
   unfold z5r zi4
   dsimp only
   have hmi := hin _ (List.getElem_mem hi)
   refine z4w (by omega) (ok_lt (fun _ => ?_) fun _ => by omega)
   refine zbv rfl (z1c (z1ui h2.evs) ?_)
   rintro ⟨r1, r2, r3, r4, r5, r6⟩ ⟨hst, hr⟩
   dsimp only at hst hr ⊢
   subst hr
   have hsm := z1dd hst (by omega)
   have hr8 := hst.r
   refine z15b hi (z0j (z1c (z1yb hmi hsm hr8) ?_))
   intro w hw
   refine z0i (fun hw0 => ?_) fun hw0 => ?_
   · repeat' first
       | (dsimp only [Int.toNat_natCast, List.length_nil])
       | with_reducible first | refine z0g ?_ | refine z0f ?_ | refine z0c ?_ | refine z0e ?_ | refine z0b ?_ | refine z0h ?_ | refine qs ?_ | refine qb ?_ | refine z0j ?_ | refine qw ?_ | refine z0n ?_ | refine z0k ?_ | refine qi ?_ | refine qg (h := ?_) | refine qx (h := ?_) | refine qy (h := ?_) | refine qa ?_ | refine qc ?_ | refine ql ?_ | refine qp ?_ | refine z0a ?_ | rfl
       | (with_reducible first | refine ok_lt ?_ ?_ | refine ok_le ?_ ?_ | refine z0i ?_ ?_ | refine z0l ?_ ?_ | refine z0m ?_ ?_ | refine qu ?_ ?_ | refine ok_if ?_ ?_) <;> intro _ <;> try (exfalso; omega)
     exact ⟨_, by rw [z0r (by omega)]; rfl, by simp; omega, z1s8 h2 hst hmi (hw hw0) (by omega)⟩
   · repeat' first
       | (dsimp only [Int.toNat_natCast, List.length_nil])
       | with_reducible first | refine z0g ?_ | refine z0f ?_ | refine z0c ?_ | refine z0e ?_ | refine z0b ?_ | refine z0h ?_ | refine qs ?_ | refine qb ?_ | refine z0j ?_ | refine qw ?_ | refine z0n ?_ | refine z0k ?_ | refine qi ?_ | refine qg (h := ?_) | refine qx (h := ?_) | refine qy (h := ?_) | refine qa ?_ | refine qc ?_ | refine ql ?_ | refine qp ?_ | refine z0a ?_ | rfl
       | (with_reducible first | refine ok_lt ?_ ?_ | refine ok_le ?_ ?_ | refine z0i ?_ ?_ | refine z0l ?_ ?_ | refine z0m ?_ ?_ | refine qu ?_ ?_ | refine ok_if ?_ ?_) <;> intro _ <;> try (exfalso; omega)
     exact ⟨_, by rw [z0r (by omega)]; rfl, by omega, h2⟩
end Go.Proofs.Ytfbdjicfkcklfaa
set_option maxRecDepth 100000
set_option maxHeartbeats 2000000
set_option linter.unusedSimpArgs false
set_option linter.unusedVariables false
namespace Go.Proofs.Ytfbdjicfkcklfaa
open Go.Tm Go.Ab
def ev0 : T1 := ((1, 1), List.replicate 8 (0 : Int), 1, (0, 0), (0, 0), ([97] : List Int), [], [], 0, [], 0)
def ev1 : T1 := ((1, 2), (List.replicate 8 (0 : Int)).set 0 1, 6, (1, 1), (0, 0), [], ([(1, 1)] : List T0), [], 0, [], 0)
theorem w1 : W64 (0 + 1) = 1 := z0r (by omega)
theorem w2 : W64 (1 + 1) = 2 := z0r (by omega)
theorem w0 : W64 (1 - 1) = 0 := z0r (by omega)
theorem i0 : idxI [ev0, ev1] 0 = some ev0 := rfl
theorem i1 : idxI [ev0, ev1] 1 = some ev1 := rfl
theorem l2 : ([ev0, ev1] : List T1).length = 2 := rfl
theorem z1xl (x : T0) : zhu [x] x = some true := by
 refine ok_is ?_
 unfold zhu
 refine z0a (z1o 1 (fun i (_ : Unit) => ([x], (i : Int), x)) (fun i _ => i = 0) () rfl rfl (fun _ h => by omega) fun i _ hi h0 => ?_)
 subst h0
 unfold z6z zh4
 dsimp only
 have hl : ([x] : List T0).length = 1 := rfl
 repeat' first
   | (dsimp only [Int.toNat_natCast, List.length_nil])
   | ((with_reducible refine ok_eq (show idxI [x] ((0 : Nat) : Int) = some x from rfl) ?_))
   | ((with_reducible refine z0z ?_ ?_) <;> intro _)
   | with_reducible first | refine z0g ?_ | refine z0f ?_ | refine z0c ?_ | refine z0e ?_ | refine z0b ?_ | refine z0h ?_ | refine qs ?_ | refine qb ?_ | refine z0j ?_ | refine qw ?_ | refine z0n ?_ | refine z0k ?_ | refine qi ?_ | refine qg (h := ?_) | refine qx (h := ?_) | refine qy (h := ?_) | refine qa ?_ | refine qc ?_ | refine ql ?_ | refine qp ?_ | refine z0a ?_ | rfl
   | (with_reducible first | refine ok_lt ?_ ?_ | refine ok_le ?_ ?_ | refine z0i ?_ ?_ | refine z0l ?_ ?_ | refine z0m ?_ ?_ | refine qu ?_ ?_ | refine ok_if ?_ ?_) <;> intro _ <;> try (exfalso; omega)
 all_goals (rename_i e; exact absurd rfl e)
theorem z1xx (x : T2) : zgy [] x = some [x] := by
 refine ok_is ?_
 unfold zgy
 refine zbv rfl (z0a (z1o 0 (fun i (_ : Unit) => ([], false, (i : Int), x, [])) (fun i _ => True) () rfl trivial (fun _ _ => ?_) fun i _ hi _ => by omega))
 unfold z3y zcw
 dsimp only
 repeat' first
   | (dsimp only [Int.toNat_natCast, List.length_nil])
   | with_reducible first | refine z0g ?_ | refine z0f ?_ | refine z0c ?_ | refine z0e ?_ | refine z0b ?_ | refine z0h ?_ | refine qs ?_ | refine qb ?_ | refine z0j ?_ | refine qw ?_ | refine z0n ?_ | refine z0k ?_ | refine qi ?_ | refine qg (h := ?_) | refine qx (h := ?_) | refine qy (h := ?_) | refine qa ?_ | refine qc ?_ | refine ql ?_ | refine qp ?_ | refine z0a ?_ | rfl
   | (with_reducible first | refine ok_lt ?_ ?_ | refine ok_le ?_ ?_ | refine z0i ?_ ?_ | refine z0l ?_ ?_ | refine z0m ?_ ?_ | refine qu ?_ ?_ | refine ok_if ?_ ?_) <;> intro _ <;> try (exfalso; omega)
 rfl
def ent0 : T2 := ((1, 1), (0, 0), [97], (1, 1), withV (List.replicate 8 0) (1, 2))
theorem z1rx : loopC z0w ([ev0, ev1], [], 0, 0, ((1, 1), (0, 0), [97], (1, 1), List.replicate 8 (0 : Int))) = some ([ev0, ev1], [], 0, ent0) := by
 refine ok_is ?_
 have hl : ([ev0, ev1] : List T1).length = 2 := rfl
 refine z1o 2 (fun k (b : List Int) => ([ev0, ev1], [], 0, (k : Int), ((1, 1), (0, 0), [97], (1, 1), b))) (fun k b => b = if k ≤ 1 then List.replicate 8 0 else withV (List.replicate 8 0) (1, 2)) (List.replicate 8 0) rfl rfl (fun b hb => ?_) fun k b hk hb => ?_
 · unfold z0w z2c
   dsimp only
   repeat' first
     | (dsimp only [Int.toNat_natCast, List.length_nil])
     | with_reducible first | refine z0g ?_ | refine z0f ?_ | refine z0c ?_ | refine z0e ?_ | refine z0b ?_ | refine z0h ?_ | refine qs ?_ | refine qb ?_ | refine z0j ?_ | refine qw ?_ | refine z0n ?_ | refine z0k ?_ | refine qi ?_ | refine qg (h := ?_) | refine qx (h := ?_) | refine qy (h := ?_) | refine qa ?_ | refine qc ?_ | refine ql ?_ | refine qp ?_ | refine z0a ?_ | rfl
     | (with_reducible first | refine ok_lt ?_ ?_ | refine ok_le ?_ ?_ | refine z0i ?_ ?_ | refine z0l ?_ ?_ | refine z0m ?_ ?_ | refine qu ?_ ?_ | refine ok_if ?_ ?_) <;> intro _ <;> try (exfalso; omega)
   rw [hb]; rfl
 · unfold z0w z2c
   dsimp only
   have k0 : ev0.2.2.1 = 1 := rfl
   have k1 : ev1.2.2.1 = 6 := rfl
   have hk' : k = 0 ∨ k = 1 := by omega
   rcases hk' with rfl | rfl
   · repeat' first
       | (dsimp only [Int.toNat_natCast, List.length_nil])
       | ((with_reducible refine ok_eq (show idxI [ev0, ev1] ((0 : Nat) : Int) = some ev0 from rfl) ?_))
       | with_reducible first | refine z0g ?_ | refine z0f ?_ | refine z0c ?_ | refine z0e ?_ | refine z0b ?_ | refine z0h ?_ | refine qs ?_ | refine qb ?_ | refine z0j ?_ | refine qw ?_ | refine z0n ?_ | refine z0k ?_ | refine qi ?_ | refine qg (h := ?_) | refine qx (h := ?_) | refine qy (h := ?_) | refine qa ?_ | refine qc ?_ | refine ql ?_ | refine qp ?_ | refine z0a ?_ | rfl
       | (with_reducible first | refine ok_lt ?_ ?_ | refine ok_le ?_ ?_ | refine z0i ?_ ?_ | refine z0l ?_ ?_ | refine z0m ?_ ?_ | refine qu ?_ ?_ | refine ok_if ?_ ?_) <;> intro _ <;> try (exfalso; omega)
     exact ⟨_, by rw [z0r (by omega)]; rfl, hb⟩
   · have hb' : b = List.replicate 8 (0 : Int) := hb
     subst hb'
     repeat' first
       | (dsimp only [Int.toNat_natCast, List.length_nil])
       | ((with_reducible refine ok_eq (show idxI [ev0, ev1] ((1 : Nat) : Int) = some ev1 from rfl) ?_))
       | ((with_reducible refine z0z ?_ ?_) <;> intro _)
       | (apply ok_eq (z1xl (1, 1)))
       | (apply ok_eq (zkv ztx _))
       | with_reducible first | refine z0g ?_ | refine z0f ?_ | refine z0c ?_ | refine z0e ?_ | refine z0b ?_ | refine z0h ?_ | refine qs ?_ | refine qb ?_ | refine z0j ?_ | refine qw ?_ | refine z0n ?_ | refine z0k ?_ | refine qi ?_ | refine qg (h := ?_) | refine qx (h := ?_) | refine qy (h := ?_) | refine qa ?_ | refine qc ?_ | refine ql ?_ | refine qp ?_ | refine z0a ?_ | rfl
       | (with_reducible first | refine ok_lt ?_ ?_ | refine ok_le ?_ ?_ | refine z0i ?_ ?_ | refine z0l ?_ ?_ | refine z0m ?_ ?_ | refine qu ?_ ?_ | refine ok_if ?_ ?_) <;> intro _ <;> try (exfalso; omega)
     all_goals first
       | (exfalso; rename_i e; exact e rfl)
       | exact ⟨_, by rw [z0r (by omega)]; rfl, rfl⟩
theorem z1ma : zes [ev0, ev1] = some [ent0] := by
 refine ok_is ?_
 have hl : ([ev0, ev1] : List T1).length = 2 := rfl
 unfold zes
 refine z0a (z1o 2 (fun i (a : List T2) => ([ev0, ev1], a, (i : Int))) (fun i a => a = if i = 0 then [] else [ent0]) [] rfl rfl (fun a ha => ?_) fun i a hi ha => ?_)
 · unfold z2w z8s
   dsimp only
   repeat' first
     | (dsimp only [Int.toNat_natCast, List.length_nil])
     | with_reducible first | refine z0g ?_ | refine z0f ?_ | refine z0c ?_ | refine z0e ?_ | refine z0b ?_ | refine z0h ?_ | refine qs ?_ | refine qb ?_ | refine z0j ?_ | refine qw ?_ | refine z0n ?_ | refine z0k ?_ | refine qi ?_ | refine qg (h := ?_) | refine qx (h := ?_) | refine qy (h := ?_) | refine qa ?_ | refine qc ?_ | refine ql ?_ | refine qp ?_ | refine z0a ?_ | rfl
     | (with_reducible first | refine ok_lt ?_ ?_ | refine ok_le ?_ ?_ | refine z0i ?_ ?_ | refine z0l ?_ ?_ | refine z0m ?_ ?_ | refine qu ?_ ?_ | refine ok_if ?_ ?_) <;> intro _ <;> try (exfalso; omega)
   rw [ha]; rfl
 · unfold z2w z8s
   dsimp only
   have k0 : ev0.2.2.1 = 1 := rfl
   have k1 : ev1.2.2.1 = 6 := rfl
   have hi' : i = 0 ∨ i = 1 := by omega
   rcases hi' with rfl | rfl
   · have ha' : a = [] := ha
     subst ha'
     repeat' first
       | (dsimp only [Int.toNat_natCast, List.length_nil])
       | ((with_reducible refine ok_eq (show idxI [ev0, ev1] ((0 : Nat) : Int) = some ev0 from rfl) ?_))
       | (apply ok_eq z1rx)
       | ((with_reducible refine ok_eq (z1xx _) ?_))
       | with_reducible first | refine z0g ?_ | refine z0f ?_ | refine z0c ?_ | refine z0e ?_ | refine z0b ?_ | refine z0h ?_ | refine qs ?_ | refine qb ?_ | refine z0j ?_ | refine qw ?_ | refine z0n ?_ | refine z0k ?_ | refine qi ?_ | refine qg (h := ?_) | refine qx (h := ?_) | refine qy (h := ?_) | refine qa ?_ | refine qc ?_ | refine ql ?_ | refine qp ?_ | refine z0a ?_ | rfl
       | (with_reducible first | refine ok_lt ?_ ?_ | refine ok_le ?_ ?_ | refine z0i ?_ ?_ | refine z0l ?_ ?_ | refine z0m ?_ ?_ | refine qu ?_ ?_ | refine ok_if ?_ ?_) <;> intro _ <;> try (exfalso; omega)
     all_goals exact ⟨_, by rw [z0r (by omega)]; rfl, rfl⟩
   · have ha' : a = [ent0] := ha
     subst ha'
     repeat' first
       | (dsimp only [Int.toNat_natCast, List.length_nil])
       | ((with_reducible refine ok_eq (show idxI [ev0, ev1] ((1 : Nat) : Int) = some ev1 from rfl) ?_))
       | with_reducible first | refine z0g ?_ | refine z0f ?_ | refine z0c ?_ | refine z0e ?_ | refine z0b ?_ | refine z0h ?_ | refine qs ?_ | refine qb ?_ | refine z0j ?_ | refine qw ?_ | refine z0n ?_ | refine z0k ?_ | refine qi ?_ | refine qg (h := ?_) | refine qx (h := ?_) | refine qy (h := ?_) | refine qa ?_ | refine qc ?_ | refine ql ?_ | refine qp ?_ | refine z0a ?_ | rfl
       | (with_reducible first | refine ok_lt ?_ ?_ | refine ok_le ?_ ?_ | refine z0i ?_ ?_ | refine z0l ?_ ?_ | refine z0m ?_ ?_ | refine qu ?_ ?_ | refine ok_if ?_ ?_) <;> intro _ <;> try (exfalso; omega)
     all_goals exact ⟨_, by rw [z0r (by omega)]; rfl, rfl⟩
theorem z1un : Evs [ev0, ev1] (z8l [ev0, ev1]) := by
 have hin : ∀ e, e ∈ [ev0, ev1] → EvIn e ∧ (1 ≤ e.1.1 ∧ e.1.1 ≤ 8) ∧ (zil e)[0]? = none ∧ leqV e.2.1 (z8l [ev0, ev1]) = true := fun e he => by
   simp only [List.mem_cons, List.not_mem_nil, or_false] at he
   rcases he with rfl | rfl
   · exact ⟨⟨rfl, z12e, by decide, by decide, by decide, by decide, by decide⟩, by decide, rfl, by decide⟩
   · exact ⟨⟨rfl, fun i hi => by
       have : ∀ i, i < 8 → 0 ≤ (ev1.2.1[i]?).getD 0 := by decide
       exact this i hi, by decide, by decide, by decide, by decide, by decide⟩, by decide, rfl, by decide⟩
 refine ⟨by decide, fun e he => (hin e he).1, fun i hi b hb => ?_, fun e he => (hin e he).2.1, (zdx _).1, (zdx _).2, fun e he => ?_, fun e he => ?_⟩
 · rw [(hin _ (List.getElem_mem hi)).2.2.1] at hb; cases hb
 · exact z1eq _ _ ztx z12e e he (hin e he).2.1
 · exact (z17b (hin e he).1.dep (zdx _).1).1 (hin e he).2.2.2
theorem z1pc : zdr = some true := by
 have hK : z8l [ev0, ev1] = [2, 0, 0, 0, 0, 0, 0, 0] := by decide
 have E := z1un
 have hb := z1kv E z1ma
 refine ok_is ?_
 unfold zdr
 refine z1c (show Ok (zfd _) _ from hb) ?_
 rintro ⟨k, objs, ents, w, rt⟩ ⟨hs, he⟩
 have hsm := z1dd hs (by decide)
 dsimp only at he
 subst he
 have hk : k = [2, 0, 0, 0, 0, 0, 0, 0] := hs.known.trans hK
 have hob : ∃ o, objs = [o] := by
   obtain ⟨o, ho, h1⟩ := hs.all ev0 (by simp) (.inl rfl)
   have hid : ∀ x, x ∈ objs → x.1 = (1, 1) := fun x hx => by
     obtain ⟨e, he, h2, h3⟩ := hs.mem x hx
     simp only [List.mem_cons, List.not_mem_nil, or_false] at he
     rcases he with rfl | rfl
     · exact h3
     · rcases h2 with h2 | h2 <;> cases h2
   have hnd := hs.nd (fun j k hj hk => by
     have : ∀ j, j < 2 → ∀ k, k < 2 → ∀ (hj : j < [ev0, ev1].length) (hk : k < [ev0, ev1].length), [ev0, ev1][j].1 = [ev0, ev1][k].1 → j = k := by
       intro j hj k hk
       have h1 : j = 0 ∨ j = 1 := by omega
       have h2 : k = 0 ∨ k = 1 := by omega
       rcases h1 with rfl | rfl <;> rcases h2 with rfl | rfl <;> intro _ _ h <;> first | rfl | cases h
     exact this j hj k hk hj hk)
   dsimp only at hnd ho
   match objs, ho, hid, hnd with
   | [o], _, _, _ => exact ⟨o, rfl⟩
   | a :: b :: l, _, hid, hnd =>
     exfalso
     rw [List.map_cons, List.map_cons, List.nodup_cons] at hnd
     exact hnd.1 (by rw [hid a (by simp), hid b (by simp)]; exact List.mem_cons_self ..)
 obtain ⟨o, rfl⟩ := hob
 have hoid : o.1 = (1, 1) := by
   obtain ⟨e, he, h2, h3⟩ := hs.mem o (by simp)
   simp only [List.mem_cons, List.not_mem_nil, or_false] at he
   rcases he with rfl | rfl
   · exact h3
   · rcases h2 with h2 | h2 <;> cases h2
 have hoo := hs.obj o (by simp)
 have hov : o.2.2.2.2.2 = [] := by
   cases hl : o.2.2.2.2.2 with
   | nil => rfl
   | cons v l =>
     obtain ⟨e, he, _, h3⟩ := (hoo.vers v (by rw [hl]; simp)).ev
     simp only [List.mem_cons, List.not_mem_nil, or_false] at he
     rcases he with rfl | rfl <;> cases h3
 have hseen : leqV o.2.2.2.2.1 [2, 0, 0, 0, 0, 0, 0, 0] = true := by
   rw [← hK]
   exact (z17b hoo.seen.v (zdx _).1).2 hoo.seen.le
 obtain ⟨o1, o2, o3, o4, o5, o6⟩ := o
 dsimp only at hoid hov hseen
 subst hoid; subst hov; subst hk
 refine ok_eq (z18f hsm (by rfl)) (ok_eq (z18f hsm (by rfl)) ?_)
 have hc1 : z2x ([2, 0, 0, 0, 0, 0, 0, 0], [((1, 1), o2, o3, o4, o5, [])], [ent0], w, rt) ((List.replicate 8 (0 : Int)).set 0 1) = ([2, 0, 0, 0, 0, 0, 0, 0], [((1, 1), o2, o3, o4, o5, [])], [ent0], w, rt) := by
   have h1 : zsa [ent0] ((List.replicate 8 (0 : Int)).set 0 1) = [ent0] := by decide
   have h2 : z8y [ent0] ((1, 1), o2, o3, o4, o5, []) ((List.replicate 8 (0 : Int)).set 0 1) = true := by
     unfold z8y
     have : usesV [ent0] ((1, 1), o2, o3, o4, o5, []) = true := rfl
     rw [this]; simp
   unfold z2x
   simp only [h1, List.map_cons, List.map_nil, ziq, zz5, List.filter_nil, List.filter_cons, h2, if_true]
 have hc2 : z2x ([2, 0, 0, 0, 0, 0, 0, 0], [((1, 1), o2, o3, o4, o5, [])], [ent0], w, rt) ((List.replicate 8 (0 : Int)).set 0 2) = ([2, 0, 0, 0, 0, 0, 0, 0], [], [], w, rt) := by
   have h1 : zsa [ent0] ((List.replicate 8 (0 : Int)).set 0 2) = [] := by decide
   have h2 : z8y [] ((1, 1), o2, o3, o4, o5, []) ((List.replicate 8 (0 : Int)).set 0 2) = false := by
     unfold z8y
     have a1 : hasV ((List.replicate 8 (0 : Int)).set 0 2) (1, 1) = true := by decide
     have a2 : leqV o5 ((List.replicate 8 (0 : Int)).set 0 2) = true := hseen
     simp only [a1, a2]; rfl
   unfold z2x
   simp only [h1, List.map_cons, List.map_nil, ziq, zz5, List.filter_nil, List.filter_cons, h2, Bool.false_eq_true, if_false]
 have hd : deadV ([2, 0, 0, 0, 0, 0, 0, 0], [((1, 1), o2, o3, o4, o5, [])], [ent0], w, rt) = 1 := by
   have h2 : z8y [ent0] ((1, 1), o2, o3, o4, o5, []) [2, 0, 0, 0, 0, 0, 0, 0] = true := by
     unfold z8y
     have : usesV [ent0] ((1, 1), o2, o3, o4, o5, []) = true := rfl
     rw [this]; simp
   have h3 : List.countP (fun x : T2 => !z4q x.2.2.2.2) [ent0] = 1 := by decide
   unfold deadV
   simp only [h3, List.map_cons, List.map_nil, cntO, h2, List.countP_nil, List.sum_cons, List.sum_nil, if_true, Nat.add_zero]
 rw [hc1, hc2]
 dsimp only
 have hw0 : W64 (((0 : Nat) : Int) + ((0 : Nat) : Int)) = 0 := z0r (by omega)
 refine z4w (by simp) (z0i (fun _ => ?_) fun h => (h rfl).elim)
 refine z4w (by simp) (z0i (fun _ => ?_) fun h => (h rfl).elim)
 refine z4w (by simp) (z4w (by simp) ?_)
 refine z0i (fun _ => ?_) fun h => (h hw0).elim
 refine z1na (u := c1) rfl (fun _ => ?_) fun h => (h rfl).elim
 refine ok_eq (z1wm hsm) (z0c ?_)
 rw [hd]; rfl
end Go.Proofs.Ytfbdjicfkcklfaa