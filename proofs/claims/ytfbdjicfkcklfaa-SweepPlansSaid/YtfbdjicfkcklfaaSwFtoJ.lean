import Derived.Test.YtfbdjicfkcklfaaSwA7toE
set_option maxRecDepth 100000
set_option linter.unusedSimpArgs false
set_option linter.unusedVariables false
namespace Go.Proofs.Ytfbdjicfkcklfaa
open Go.Tm Go.Ab
def makes (e : T1) : Prop := zex e = 1 ∨ zex e = 2
abbrev BldT := List Int × List Bool × List Int × List T4
structure BInv (l : List T1) (K : List Int) (i : Nat) (a : BldT) : Prop where
 w : a.1.length = 8
 r : a.2.1.length = 8
 lat : VecOk a.2.2.1
 len : a.2.2.2.length ≤ i
 obj : ∀ o, o ∈ a.2.2.2 → ObjOk l K o
 mem : ∀ o, o ∈ a.2.2.2 → ∃ j, ∃ h : j < l.length, j < i ∧ makes l[j] ∧ o.1 = l[j].1
 all : ∀ j (h : j < l.length), j < i → makes l[j] → ∃ o, o ∈ a.2.2.2 ∧ o.1 = l[j].1
 nd : (∀ j k (h : j < l.length) (g : k < l.length), l[j].1 = l[k].1 → j = k) → (a.2.2.2.map (fun o => o.1)).Nodup
theorem BInv.skip {l : List T1} {K : List Int} {i : Nat} {a : BldT} (h : BInv l K i a) (hi : i < l.length) (hk : ¬ makes l[i]) {w : List Int} {r : List Bool} {t : List Int} (hw : w.length = 8) (hr : r.length = 8) (ht : VecOk t) : BInv l K (i + 1) (w, r, t, a.2.2.2) where
 w := hw
 r := hr
 lat := ht
 len := by have := h.len; simp only; omega
 obj := h.obj
 mem := fun o ho => by
   obtain ⟨j, h1, h2, h3⟩ := h.mem o ho
   exact ⟨j, h1, by omega, h3⟩
 all := fun j hj hlt hm => by
   by_cases e : j = i
   · subst e; exact absurd hm hk
   · exact h.all j hj (by omega) hm
 nd := h.nd
theorem BInv.add {l : List T1} {K : List Int} {i : Nat} {a : BldT} (h : BInv l K i a) (hi : i < l.length) (hk : makes l[i]) {o : T4} (ho : o.1 = l[i].1) (hok : ObjOk l K o) (k : Nat) : BInv l K (i + 1) (a.1, a.2.1, a.2.2.1, a.2.2.2.take k ++ ([o] ++ a.2.2.2.drop k)) := by
 have hp : (a.2.2.2.take k ++ ([o] ++ a.2.2.2.drop k)).Perm (o :: a.2.2.2) := by
   have := List.perm_middle (a := o) (l₁ := a.2.2.2.take k) (l₂ := a.2.2.2.drop k)
   rw [List.take_append_drop] at this
   exact this
 have hmem : ∀ x, x ∈ a.2.2.2.take k ++ ([o] ++ a.2.2.2.drop k) ↔ x = o ∨ x ∈ a.2.2.2 := fun x => by rw [hp.mem_iff, List.mem_cons]
 refine ⟨h.w, h.r, h.lat, ?_, fun x hx => ?_, fun x hx => ?_, fun j hj hlt hm => ?_, fun hd => ?_⟩
 · have := hp.length_eq
   simp only [List.length_cons] at this
   have := h.len
   simp only; omega
 · rcases (hmem x).1 hx with rfl | hx
   · exact hok
   · exact h.obj x hx
 · rcases (hmem x).1 hx with rfl | hx
   · exact ⟨i, hi, by omega, hk, ho⟩
   · obtain ⟨j, h1, h2, h3⟩ := h.mem x hx
     exact ⟨j, h1, by omega, h3⟩
 · by_cases e : j = i
   · subst e; exact ⟨o, (hmem o).2 (.inl rfl), ho⟩
   · obtain ⟨x, h1, h2⟩ := h.all j hj (by omega) hm
     exact ⟨x, (hmem x).2 (.inr h1), h2⟩
 · have hn := h.nd hd
   have hp' := hp.map (fun o => o.1)
   rw [hp'.nodup_iff, List.map_cons, List.nodup_cons]
   refine ⟨fun hin => ?_, hn⟩
   simp only [List.mem_map] at hin
   obtain ⟨x, hx, e⟩ := hin
   obtain ⟨j, h1, h2, _, h4⟩ := h.mem x hx
   have := hd j i h1 hi (by rw [← h4, e, ho])
   omega
structure StOk (l : List T1) (K : List Int) (s : T5) : Prop where
 known : s.1 = K
 elen : s.2.2.1.length ≤ l.length
 ent : ∀ x, x ∈ s.2.2.1 → EntOk l K x
 olen : s.2.1.length ≤ l.length
 obj : ∀ o, o ∈ s.2.1 → ObjOk l K o
 mem : ∀ o, o ∈ s.2.1 → ∃ e, e ∈ l ∧ makes e ∧ o.1 = e.1
 all : ∀ e, e ∈ l → makes e → ∃ o, o ∈ s.2.1 ∧ o.1 = e.1
 nd : (∀ j k (h : j < l.length) (g : k < l.length), l[j].1 = l[k].1 → j = k) → (s.2.1.map (fun o => o.1)).Nodup
 w : s.2.2.2.1.length = 8
 r : s.2.2.2.2.length = 8
theorem z1px {l : List T1} {K : List Int} {a : BldT} {ents : List T2} (h : BInv l K l.length a) (h1 : ents.length ≤ l.length) (h2 : ∀ x, x ∈ ents → EntOk l K x) : StOk l K (K, a.2.2.2, ents, a.1, a.2.1) :=
 ⟨rfl, h1, h2, h.len, h.obj, fun o ho => by
   obtain ⟨j, hj, _, g1, g2⟩ := h.mem o ho
   exact ⟨_, List.getElem_mem hj, g1, g2⟩, fun e he hm => by
   obtain ⟨j, hj, rfl⟩ := List.mem_iff_getElem.1 he
   exact h.all j hj hj hm, h.nd, h.w, h.r⟩
theorem z1ov (l : List T1) (i : Int) (t2 t22 : List Int) (t23 : List Bool) (t3 : List Int) (t32 : List T2) (t33 : List Int) (t34 : List Bool) (latest : List Int) (t6 : T1) (o : T4) (t24 : List T4) (t25 : List T2) (objs : List T4) (hl : objs.length ≤ 2000) :
   Ok (loopC z0y (l, i, (objs.length : Nat), t2, t22, t23, t3, t32, t33, t34, latest, t6, o, t24, t25, objs)) fun r => ∃ k : Nat, k ≤ objs.length ∧ r = (l, i, (k : Int), t2, t22, t23, t3, t32, t33, t34, latest, t6, o, t24, t25, objs) := by
 refine z1y objs.length (fun j _ => (l, i, ((objs.length - j : Nat) : Int), t2, t22, t23, t3, t32, t33, t34, latest, t6, o, t24, t25, objs)) (fun _ (_ : Unit) => True) () rfl trivial (fun _ _ => ?_) fun j _ hj _ => ?_
 · unfold z0y z3k
   dsimp only
   rw [Nat.sub_self]
   repeat' first
     | (dsimp only [Int.toNat_natCast, List.length_nil])
     | ((with_reducible refine z1e ?_ ?_) <;> intro _ <;> try (exfalso; omega))
     | with_reducible first | refine z0f ?_ | refine z0g ?_ | refine z0d ?_ | refine z0e ?_ | refine z0b ?_ | refine z0i ?_ | refine qs ?_ | refine qb ?_ | refine z0n ?_ | refine qw ?_ | refine z0j ?_ | refine z0l ?_ | refine qi ?_ | refine qg (h := ?_) | refine qx (h := ?_) | refine qy (h := ?_) | refine qa ?_ | refine qc ?_ | refine ql ?_ | refine qp ?_ | refine z0a ?_ | rfl
     | (with_reducible first | refine ok_lt ?_ ?_ | refine ok_le ?_ ?_ | refine z0h ?_ ?_ | refine z0k ?_ ?_ | refine z0m ?_ ?_ | refine qu ?_ ?_ | refine ok_if ?_ ?_) <;> intro _ <;> try (exfalso; omega)
   exact ⟨0, Nat.zero_le _, rfl⟩
 · unfold z0y z3k
   dsimp only
   rw [z0s (by omega), show ((objs.length - j : Nat) : Int) - 1 = ((objs.length - (j + 1) : Nat) : Int) by omega]
   repeat' first
     | (dsimp only [Int.toNat_natCast, List.length_nil])
     | ((with_reducible refine ok_eq (z15n _ _) ?_))
     | ((with_reducible refine z1e ?_ ?_) <;> intro _ <;> try (exfalso; omega))
     | with_reducible first | refine z0f ?_ | refine z0g ?_ | refine z0d ?_ | refine z0e ?_ | refine z0b ?_ | refine z0i ?_ | refine qs ?_ | refine qb ?_ | refine z0n ?_ | refine qw ?_ | refine z0j ?_ | refine z0l ?_ | refine qi ?_ | refine qg (h := ?_) | refine qx (h := ?_) | refine qy (h := ?_) | refine qa ?_ | refine qc ?_ | refine ql ?_ | refine qp ?_ | refine z0a ?_ | rfl
     | (with_reducible first | refine ok_lt ?_ ?_ | refine ok_le ?_ ?_ | refine z0h ?_ ?_ | refine z0k ?_ ?_ | refine z0m ?_ ?_ | refine qu ?_ ?_ | refine ok_if ?_ ?_) <;> intro _ <;> try (exfalso; omega)
   all_goals first
     | exact ⟨(), rfl, trivial⟩
     | exact ⟨_, by omega, rfl⟩
theorem z1m0 {l : List T1} (E : Evs l (zcq l)) {ents : List T2} (he : zbv l = some ents) : Ok (zkf l) fun r => StOk l (zcq l) r ∧ r.2.2.1 = ents := by
 have hl := E.len
 unfold zkf
 refine ok_eq (z1oq l hl) ?_
 obtain ⟨ents1, he1, h1, h2⟩ := z1kv E
 have hee : ents = ents1 := by rw [he] at he1; exact Option.some.inj he1
 subst hee
 refine ok_eq he ?_
 generalize hK : zcq l = K at E h1 h2 ⊢
 refine zmc rfl (zmc rfl (zmc rfl ?_))
 refine z0a (z1y l.length (fun i (a : BldT) => (l, (i : Int), List.replicate 8 0, List.replicate 8 0, List.replicate 8 false, K, ents, a.1, a.2.1, a.2.2.1, [], [], a.2.2.2)) (fun i a => BInv l K i a) (List.replicate 8 0, List.replicate 8 false, List.replicate 8 0, []) rfl
   ⟨List.length_replicate .., List.length_replicate .., zss, Nat.zero_le _, fun o ho => (by cases ho), fun o ho => (by cases ho), fun j hj hlt => (by omega), fun _ => List.nodup_nil⟩ (fun a ha => ?_) fun i a hi ha => ?_)
 · unfold z2y zc1
   dsimp only
   repeat' first
     | (dsimp only [Int.toNat_natCast, List.length_nil])
     | ((with_reducible refine z1e ?_ ?_) <;> intro _ <;> try (exfalso; omega))
     | with_reducible first | refine z0f ?_ | refine z0g ?_ | refine z0d ?_ | refine z0e ?_ | refine z0b ?_ | refine z0i ?_ | refine qs ?_ | refine qb ?_ | refine z0n ?_ | refine qw ?_ | refine z0j ?_ | refine z0l ?_ | refine qi ?_ | refine qg (h := ?_) | refine qx (h := ?_) | refine qy (h := ?_) | refine qa ?_ | refine qc ?_ | refine ql ?_ | refine qp ?_ | refine z0a ?_ | rfl
     | (with_reducible first | refine ok_lt ?_ ?_ | refine ok_le ?_ ?_ | refine z0h ?_ ?_ | refine z0k ?_ ?_ | refine z0m ?_ ?_ | refine qu ?_ ?_ | refine ok_if ?_ ?_) <;> intro _ <;> try (exfalso; omega)
   exact ⟨z1px ha h1 h2, rfl⟩
 · unfold z2y zc1
   dsimp only
   have hm := List.getElem_mem hi
   have hrep := E.rep _ hm
   have w1 : W64 (l[i].1.1 - 1) = l[i].1.1 - 1 := z0s (by omega)
   have hlen := ha.len
   have hw := ha.w
   have hr := ha.r
   have hlat := ha.lat
   repeat' first
     | (dsimp only [Int.toNat_natCast, List.length_nil])
     | (simp only [w1])
     | ((with_reducible refine z4f (z1mf E _) ?_); rintro o ⟨o1, o2⟩)
     | ((with_reducible refine z4f (z1ov _ _ _ _ _ _ _ _ _ _ _ _ _ _ _ (by omega)) ?_); rintro _ ⟨k, hk, rfl⟩)
     | ((with_reducible refine ok_eq (zs5 hlat _) ?_))
     | ((with_reducible refine ok_eq (z1qy hlat _) ?_))
     | ((with_reducible refine z1e ?_ ?_) <;> intro _ <;> try (exfalso; omega))
     | with_reducible first | refine z0f ?_ | refine z0g ?_ | refine z0d ?_ | refine z0e ?_ | refine z0b ?_ | refine z0i ?_ | refine qs ?_ | refine qb ?_ | refine z0n ?_ | refine qw ?_ | refine z0j ?_ | refine z0l ?_ | refine qi ?_ | refine qg (h := ?_) | refine qx (h := ?_) | refine qy (h := ?_) | refine qa ?_ | refine qc ?_ | refine ql ?_ | refine qp ?_ | refine z0a ?_ | rfl
     | (with_reducible first | refine ok_lt ?_ ?_ | refine ok_le ?_ ?_ | refine z0h ?_ ?_ | refine z0k ?_ ?_ | refine z0m ?_ ?_ | refine qu ?_ ?_ | refine ok_if ?_ ?_) <;> intro _ <;> try (exfalso; omega)
   all_goals first
     | (have hT : ∀ k, List.take (a.2.2.2.length - k) (List.drop k a.2.2.2) = List.drop k a.2.2.2 := fun k => List.take_of_length_le (by simp)
        simp only [hT, List.drop_zero]
        refine ⟨(a.1, a.2.1, a.2.2.1, a.2.2.2.take k ++ ([o] ++ a.2.2.2.drop k)), by rw [z0s (by omega)]; rfl, ?_⟩
        first
          | exact ha.add hi (.inl (by assumption)) o1 o2 k
          | exact ha.add hi (.inr (by assumption)) o1 o2 k)
     | (rw [z0s (by omega)]
        first
          | refine ⟨(a.1, a.2.1, a.2.2.1, a.2.2.2), rfl, ?_⟩
          | refine ⟨(a.1.set (l[i].1.1 - 1).toNat (l[i].2.2.2.2.2.2.2.2.2.2), a.2.1, withV a.2.2.1 l[i].1, a.2.2.2), rfl, ?_⟩
          | refine ⟨(a.1, a.2.1.set (l[i].1.1 - 1).toNat true, a.2.2.1, a.2.2.2), rfl, ?_⟩
          | refine ⟨(a.1.set (l[i].1.1 - 1).toNat (l[i].2.2.2.2.2.2.2.2.2.2), a.2.1.set (l[i].1.1 - 1).toNat true, withV a.2.2.1 l[i].1, a.2.2.2), rfl, ?_⟩
        refine ha.skip hi ?_ ?_ ?_ ?_
        · rintro (h | h) <;> (unfold zex at h; omega)
        · first | exact hw | (rw [List.length_set]; exact hw)
        · first | exact hr | (rw [List.length_set]; exact hr)
        · first | exact hlat | exact zog hlat _)
end Go.Proofs.Ytfbdjicfkcklfaa
set_option maxRecDepth 100000
set_option linter.unusedSimpArgs false
set_option linter.unusedVariables false
namespace Go.Proofs.Ytfbdjicfkcklfaa
open Go.Tm Go.Ab
theorem z1fv {A B C : Type} {c : Bool} {x : A} {y : B} {f : A → Option C} {g : B → Option C} {Q : C → Prop} (h : c = true → Ok (g y) Q) (k : c = false → Ok (f x) Q) :
   Ok (Sum.elim f g (if c = true then Sum.inr y else Sum.inl x)) Q := by
 cases c with
 | true => exact h rfl
 | false => exact k rfl
theorem z1da {a b : List Int} (ha : VecOk a) (hb : VecOk b) : (List.zip a b).length = 8 := by
 unfold VecOk at *; simp [ha, hb]
def goneV (b base : List Int) : Bool := (List.zip b base).any fun x => decide (0 < x.1 ∧ x.1 ≤ x.2)
theorem z15p {b base : List Int} (hb : VecOk b) (h : VecOk base) : zm9 b base = some (goneV b base) := by
 have hl := z1da hb h
 have hb' : b.length = 8 := hb
 have h' : base.length = 8 := h
 have key := z12s z3y (List.zip b base) (fun i => (b, (i : Int), base)) (fun x => decide (0 < x.1 ∧ x.1 ≤ x.2)) (.inr true) (.inl ())
   (ok_is (by
     rw [hl]
     unfold z3y zfq
     dsimp only
     repeat' first
       | (dsimp only [Int.toNat_natCast, List.length_nil])
       | with_reducible first | refine z0f ?_ | refine z0g ?_ | refine z0d ?_ | refine z0e ?_ | refine z0b ?_ | refine z0i ?_ | refine qs ?_ | refine qb ?_ | refine z0n ?_ | refine qw ?_ | refine z0j ?_ | refine z0l ?_ | refine qi ?_ | refine qg (h := ?_) | refine qx (h := ?_) | refine qy (h := ?_) | refine qa ?_ | refine qc ?_ | refine ql ?_ | refine qp ?_ | refine z0a ?_ | rfl
       | (with_reducible first | refine ok_lt ?_ ?_ | refine ok_le ?_ ?_ | refine z0h ?_ ?_ | refine z0k ?_ ?_ | refine z0m ?_ ?_ | refine qu ?_ ?_ | refine ok_if ?_ ?_) <;> intro _ <;> try (exfalso; omega))) (fun i hi => ok_is (by
     unfold z3y zfq
     dsimp only
     repeat' first
       | (dsimp only [Int.toNat_natCast, List.length_nil])
       | with_reducible first | refine z0f ?_ | refine z0g ?_ | refine z0d ?_ | refine z0e ?_ | refine z0b ?_ | refine z0i ?_ | refine qs ?_ | refine qb ?_ | refine z0n ?_ | refine qw ?_ | refine z0j ?_ | refine z0l ?_ | refine qi ?_ | refine qg (h := ?_) | refine qx (h := ?_) | refine qy (h := ?_) | refine qa ?_ | refine qc ?_ | refine ql ?_ | refine qp ?_ | refine z0a ?_ | rfl
       | (with_reducible first | refine ok_lt ?_ ?_ | refine ok_le ?_ ?_ | refine z0h ?_ ?_ | refine z0k ?_ ?_ | refine z0m ?_ ?_ | refine qu ?_ ?_ | refine ok_if ?_ ?_) <;> intro _ <;> try (exfalso; omega)
     all_goals first
       | rw [if_pos (by simp only [List.getElem_zip, decide_eq_true_eq]; omega)]
       | rw [if_neg (by simp only [List.getElem_zip, decide_eq_true_eq]; omega), z0s (by omega)]; rfl))
 refine ok_is ?_
 unfold zm9
 refine ok_eq key (z1fv (fun e => ?_) fun e => ?_)
 · repeat' first
     | (dsimp only [Int.toNat_natCast, List.length_nil])
     | with_reducible first | refine z0f ?_ | refine z0g ?_ | refine z0d ?_ | refine z0e ?_ | refine z0b ?_ | refine z0i ?_ | refine qs ?_ | refine qb ?_ | refine z0n ?_ | refine qw ?_ | refine z0j ?_ | refine z0l ?_ | refine qi ?_ | refine qg (h := ?_) | refine qx (h := ?_) | refine qy (h := ?_) | refine qa ?_ | refine qc ?_ | refine ql ?_ | refine qp ?_ | refine z0a ?_ | rfl
     | (with_reducible first | refine ok_lt ?_ ?_ | refine ok_le ?_ ?_ | refine z0h ?_ ?_ | refine z0k ?_ ?_ | refine z0m ?_ ?_ | refine qu ?_ ?_ | refine ok_if ?_ ?_) <;> intro _ <;> try (exfalso; omega)
   exact e.symm
 · repeat' first
     | (dsimp only [Int.toNat_natCast, List.length_nil])
     | with_reducible first | refine z0f ?_ | refine z0g ?_ | refine z0d ?_ | refine z0e ?_ | refine z0b ?_ | refine z0i ?_ | refine qs ?_ | refine qb ?_ | refine z0n ?_ | refine qw ?_ | refine z0j ?_ | refine z0l ?_ | refine qi ?_ | refine qg (h := ?_) | refine qx (h := ?_) | refine qy (h := ?_) | refine qa ?_ | refine qc ?_ | refine ql ?_ | refine qp ?_ | refine z0a ?_ | rfl
     | (with_reducible first | refine ok_lt ?_ ?_ | refine ok_le ?_ ?_ | refine z0h ?_ ?_ | refine z0k ?_ ?_ | refine z0m ?_ ?_ | refine qu ?_ ?_ | refine ok_if ?_ ?_) <;> intro _ <;> try (exfalso; omega)
   exact e.symm
def z6y (b : List Int) : Bool := decide (b = List.replicate 8 0)
theorem z1hn (x : T2) : zp1 x = some (z6y x.2.2.2.2) := by
 refine ok_is ?_
 unfold zp1
 repeat' first
   | (dsimp only [Int.toNat_natCast, List.length_nil])
   | with_reducible first | refine z0f ?_ | refine z0g ?_ | refine z0d ?_ | refine z0e ?_ | refine z0b ?_ | refine z0i ?_ | refine qs ?_ | refine qb ?_ | refine z0n ?_ | refine qw ?_ | refine z0j ?_ | refine z0l ?_ | refine qi ?_ | refine qg (h := ?_) | refine qx (h := ?_) | refine qy (h := ?_) | refine qa ?_ | refine qc ?_ | refine ql ?_ | refine qp ?_ | refine z0a ?_ | rfl
   | (with_reducible first | refine ok_lt ?_ ?_ | refine ok_le ?_ ?_ | refine z0h ?_ ?_ | refine z0k ?_ ?_ | refine z0m ?_ ?_ | refine qu ?_ ?_ | refine ok_if ?_ ?_) <;> intro _ <;> try (exfalso; omega)
 unfold z6y
 rw [Bool.eq_iff_iff, decide_eq_true_eq]
 exact zj1 rfl
theorem z1j2 (x : T3) : zms x = some (z6y x.2.2) := z1hn ((0, 0), (0, 0), [], (0, 0), x.2.2)
theorem z1d8 {a b : List Int} (ha : VecOk a) (hb : VecOk b) : zxu a b = some (leqV a b) := by
 have hl := z1da ha hb
 have ha' : a.length = 8 := ha
 have hb' : b.length = 8 := hb
 have key := z12s z5t (List.zip a b) (fun i => (a, (i : Int), b)) (fun x => !leI x.1 x.2) (.inr false) (.inl ())
   (ok_is (by
     rw [hl]
     unfold z5t zjr
     dsimp only
     repeat' first
       | (dsimp only [Int.toNat_natCast, List.length_nil])
       | with_reducible first | refine z0f ?_ | refine z0g ?_ | refine z0d ?_ | refine z0e ?_ | refine z0b ?_ | refine z0i ?_ | refine qs ?_ | refine qb ?_ | refine z0n ?_ | refine qw ?_ | refine z0j ?_ | refine z0l ?_ | refine qi ?_ | refine qg (h := ?_) | refine qx (h := ?_) | refine qy (h := ?_) | refine qa ?_ | refine qc ?_ | refine ql ?_ | refine qp ?_ | refine z0a ?_ | rfl
       | (with_reducible first | refine ok_lt ?_ ?_ | refine ok_le ?_ ?_ | refine z0h ?_ ?_ | refine z0k ?_ ?_ | refine z0m ?_ ?_ | refine qu ?_ ?_ | refine ok_if ?_ ?_) <;> intro _ <;> try (exfalso; omega))) (fun i hi => ok_is (by
     unfold z5t zjr
     dsimp only
     repeat' first
       | (dsimp only [Int.toNat_natCast, List.length_nil])
       | with_reducible first | refine z0f ?_ | refine z0g ?_ | refine z0d ?_ | refine z0e ?_ | refine z0b ?_ | refine z0i ?_ | refine qs ?_ | refine qb ?_ | refine z0n ?_ | refine qw ?_ | refine z0j ?_ | refine z0l ?_ | refine qi ?_ | refine qg (h := ?_) | refine qx (h := ?_) | refine qy (h := ?_) | refine qa ?_ | refine qc ?_ | refine ql ?_ | refine qp ?_ | refine z0a ?_ | rfl
       | (with_reducible first | refine ok_lt ?_ ?_ | refine ok_le ?_ ?_ | refine z0h ?_ ?_ | refine z0k ?_ ?_ | refine z0m ?_ ?_ | refine qu ?_ ?_ | refine ok_if ?_ ?_) <;> intro _ <;> try (exfalso; omega)
     all_goals first
       | rw [if_pos (by simp only [List.getElem_zip]; rw [leI_f (by omega)]; rfl)]
       | rw [if_neg (by simp only [List.getElem_zip]; rw [leI_t (by omega)]; simp), z0s (by omega)]; rfl))
 refine ok_is ?_
 unfold zxu
 have hq : leqV a b = !(List.zip a b).any fun x => !leI x.1 x.2 := by unfold leqV; simp [List.all_eq_not_any_not]
 rw [hq]
 refine ok_eq key (z1fv (fun e => ?_) fun e => ?_)
 · repeat' first
     | (dsimp only [Int.toNat_natCast, List.length_nil])
     | with_reducible first | refine z0f ?_ | refine z0g ?_ | refine z0d ?_ | refine z0e ?_ | refine z0b ?_ | refine z0i ?_ | refine qs ?_ | refine qb ?_ | refine z0n ?_ | refine qw ?_ | refine z0j ?_ | refine z0l ?_ | refine qi ?_ | refine qg (h := ?_) | refine qx (h := ?_) | refine qy (h := ?_) | refine qa ?_ | refine qc ?_ | refine ql ?_ | refine qp ?_ | refine z0a ?_ | rfl
     | (with_reducible first | refine ok_lt ?_ ?_ | refine ok_le ?_ ?_ | refine z0h ?_ ?_ | refine z0k ?_ ?_ | refine z0m ?_ ?_ | refine qu ?_ ?_ | refine ok_if ?_ ?_) <;> intro _ <;> try (exfalso; omega)
   rw [e]; rfl
 · repeat' first
     | (dsimp only [Int.toNat_natCast, List.length_nil])
     | with_reducible first | refine z0f ?_ | refine z0g ?_ | refine z0d ?_ | refine z0e ?_ | refine z0b ?_ | refine z0i ?_ | refine qs ?_ | refine qb ?_ | refine z0n ?_ | refine qw ?_ | refine z0j ?_ | refine z0l ?_ | refine qi ?_ | refine qg (h := ?_) | refine qx (h := ?_) | refine qy (h := ?_) | refine qa ?_ | refine qc ?_ | refine ql ?_ | refine qp ?_ | refine z0a ?_ | rfl
     | (with_reducible first | refine ok_lt ?_ ?_ | refine ok_le ?_ ?_ | refine z0h ?_ ?_ | refine z0k ?_ ?_ | refine z0m ?_ ?_ | refine qu ?_ ?_ | refine ok_if ?_ ?_) <;> intro _ <;> try (exfalso; omega)
   rw [e]; rfl
theorem z18m {a b : List Int} (ha : VecOk a) (hb : VecOk b) : leqV a b = true ↔ leV a b := by
 unfold leqV leV
 have hl := z1da ha hb
 unfold VecOk at ha hb
 simp only [List.all_eq_true]
 constructor
 · intro h i hi
   have := h (a[i], b[i]) (by rw [List.mem_iff_getElem]; exact ⟨i, by omega, by simp⟩)
   simp only [leI, decide_eq_true_eq] at this
   simp only [List.getElem?_eq_getElem (show i < a.length by omega), List.getElem?_eq_getElem (show i < b.length by omega), Option.getD_some]
   exact this
 · intro h x hx
   rw [List.mem_iff_getElem] at hx
   obtain ⟨i, hi, rfl⟩ := hx
   have := h i (by omega)
   simp only [List.getElem?_eq_getElem (show i < a.length by omega), List.getElem?_eq_getElem (show i < b.length by omega), Option.getD_some] at this
   simp only [List.getElem_zip]
   exact leI_t this
theorem z1qf {a b : List Int} (ha : a.length = 8) (hb : b.length = 8) {more : Bool} (h : more = true ↔ ∃ j, ∃ h : j < 8, j < 8 ∧ b[j] < a[j]) : leqV a b = !more := by
 rw [Bool.eq_iff_iff, z18m ha hb, Bool.not_eq_true', ← Bool.not_eq_true, h]
 unfold leV
 constructor
 · rintro g ⟨j, h1, _, h2⟩
   have := g j h1
   simp only [List.getElem?_eq_getElem (show j < a.length by omega), List.getElem?_eq_getElem (show j < b.length by omega), Option.getD_some] at this
   omega
 · intro g i hi
   simp only [List.getElem?_eq_getElem (show i < a.length by omega), List.getElem?_eq_getElem (show i < b.length by omega), Option.getD_some]
   exact Int.not_lt.1 fun h => g ⟨i, hi, hi, h⟩
theorem z1g3 {a b : List Int} (ha : VecOk a) (hb : VecOk b) : zpt a b = some (leqV a b) := by
 have ha' : a.length = 8 := ha
 have hb' : b.length = 8 := hb
 refine ok_is ?_
 unfold zpt zvu
 refine z0a (z0a (z1y 8 (fun i (m : Bool × Bool) => (m.1, m.2, (i : Int), a, b)) (fun i m => m.2 = true ↔ ∃ j, ∃ h : j < 8, j < i ∧ b[j] < a[j]) (false, false) rfl ⟨fun h => (by cases h), fun ⟨j, _, h, _⟩ => (by omega)⟩ (fun m hm => ?_) fun i m hi hm => ?_))
 · unfold z3v zd6
   dsimp only
   obtain ⟨less, more⟩ := m
   have hq := z1qf ha' hb' hm
   repeat' first
     | (dsimp only [Int.toNat_natCast, List.length_nil])
     | with_reducible first | refine z0f ?_ | refine z0g ?_ | refine z0d ?_ | refine z0e ?_ | refine z0b ?_ | refine z0i ?_ | refine qs ?_ | refine qb ?_ | refine z0n ?_ | refine qw ?_ | refine z0j ?_ | refine z0l ?_ | refine qi ?_ | refine qg (h := ?_) | refine qx (h := ?_) | refine qy (h := ?_) | refine qa ?_ | refine qc ?_ | refine ql ?_ | refine qp ?_ | refine z0a ?_ | rfl
     | (with_reducible first | refine ok_lt ?_ ?_ | refine ok_le ?_ ?_ | refine z0h ?_ ?_ | refine z0k ?_ ?_ | refine z0m ?_ ?_ | refine qu ?_ ?_ | refine ok_if ?_ ?_) <;> intro _ <;> try (exfalso; omega)
   all_goals first | contradiction | (simp only [Bool.not_eq_true] at *; subst_vars; first | contradiction | (rw [hq]; rfl))
 · unfold z3v zd6
   dsimp only
   obtain ⟨less, more⟩ := m
   have more' : ∀ (c m' : Bool), (m' = true ↔ (more = true ∨ b[i] < a[i])) → ∃ a' : Bool × Bool, (c, m', W64 ((i : Int) + 1), a, b) = (a'.1, a'.2, ((i + 1 : Nat) : Int), a, b) ∧ (a'.2 = true ↔ ∃ j, ∃ h : j < 8, j < i + 1 ∧ b[j] < a[j]) := fun c m' h => by
     refine ⟨(c, m'), by rw [z0s (by omega)]; rfl, ?_⟩
     simp only at hm
     rw [h, hm]
     constructor
     · rintro (⟨j, h1, h2, h3⟩ | h3)
       · exact ⟨j, h1, by omega, h3⟩
       · exact ⟨i, hi, by omega, h3⟩
     · rintro ⟨j, h1, h2, h3⟩
       by_cases e : j = i
       · subst e; exact .inr h3
       · exact .inl ⟨j, h1, by omega, h3⟩
   repeat' first
     | (dsimp only [Int.toNat_natCast, List.length_nil])
     | with_reducible first | refine z0f ?_ | refine z0g ?_ | refine z0d ?_ | refine z0e ?_ | refine z0b ?_ | refine z0i ?_ | refine qs ?_ | refine qb ?_ | refine z0n ?_ | refine qw ?_ | refine z0j ?_ | refine z0l ?_ | refine qi ?_ | refine qg (h := ?_) | refine qx (h := ?_) | refine qy (h := ?_) | refine qa ?_ | refine qc ?_ | refine ql ?_ | refine qp ?_ | refine z0a ?_ | rfl
     | (with_reducible first | refine ok_lt ?_ ?_ | refine ok_le ?_ ?_ | refine z0h ?_ ?_ | refine z0k ?_ ?_ | refine z0m ?_ ?_ | refine qu ?_ ?_ | refine ok_if ?_ ?_) <;> intro _ <;> try (exfalso; omega)
   all_goals (refine more' _ _ ?_; first | (rename_i h; rw [h]; simp) | (rename_i h; rw [Bool.not_eq_true] at h; rw [h]; simp [ltI]))
end Go.Proofs.Ytfbdjicfkcklfaa
set_option maxRecDepth 100000
set_option linter.unusedSimpArgs false
set_option linter.unusedVariables false
namespace Go.Proofs.Ytfbdjicfkcklfaa
open Go.Tm Go.Ab
theorem ztq {S X α : Type} (F : S → Option (S ⊕ X)) (l : List α) (st : Nat → S) (p : α → Bool) (yes : Nat → X) (no : X) (last : F (st l.length) = some (.inr no))
   (step : ∀ i (hi : i < l.length), F (st i) = some (if p l[i] = true then .inr (yes i) else .inl (st (i + 1)))) :
   Ok (loopC F (st 0)) fun x => (x = no ∧ l.any p = false) ∨ ∃ i, ∃ h : i < l.length, x = yes i ∧ p l[i] = true ∧ (l.take i).any p = false := by
 refine z1y l.length (fun i (_ : Unit) => st i) (fun i _ => (l.take i).any p = false) () rfl rfl (fun _ h => ?_) fun i _ hi h => ?_
 · refine ⟨_, last, .inl ⟨rfl, ?_⟩⟩
   rw [List.take_length] at h
   exact h
 · cases hp : p l[i] with
   | true => exact ⟨_, step i hi, by rw [hp]; exact .inr ⟨i, hi, rfl, hp, h⟩⟩
   | false => exact ⟨_, step i hi, by
       rw [hp]
       exact ⟨(), rfl, by rw [List.take_succ_eq_append_getElem hi, List.any_append, h]; simp [hp]⟩⟩
theorem z19n {S X α : Type} (F : S → Option (S ⊕ X)) (l : List α) (st : Int → Int → List α → S) (fin : Int → List α → X) (p : α → Bool)
   (last : ∀ (i : Nat) t, t.length = l.length → i ≤ l.length → F (st i l.length t) = some (.inr (fin i t)))
   (step : ∀ (i j : Nat) (t : List α) (ht : t.length = l.length) (hi : i ≤ j) (hj : j < l.length), t[j] = l[j] → F (st i j t) = some (.inl (if p l[j] = true then st i (j + 1 : Nat) t else st (i + 1 : Nat) (j + 1 : Nat) (t.set i l[j])))) (i0 : Nat) (h0 : i0 < l.length) (h1 : p l[i0] = true) (h2 : (l.take i0).any p = false) :
   Ok (loopC F (st i0 (i0 + 1 : Nat) l)) fun x => ∃ (i : Nat) (t : List α), x = fin i t ∧ i ≤ l.length ∧ t.length = l.length ∧ t.take i = l.filter fun x => !p x := by
 refine z1y (l.length - (i0 + 1)) (fun k (a : Nat × List α) => st a.1 (i0 + 1 + k : Nat) a.2) (fun k a => a.1 ≤ i0 + 1 + k ∧ a.2.length = l.length ∧ a.2.take a.1 = (l.take (i0 + 1 + k)).filter (fun x => !p x) ∧ a.2.drop (i0 + 1 + k) = l.drop (i0 + 1 + k)) (i0, l) rfl ⟨by simp only; omega, rfl, ?_, rfl⟩ (fun a ha => ?_) fun k a hk ha => ?_
 · simp only [Nat.add_zero]
   rw [List.take_succ_eq_append_getElem h0, List.filter_append]
   simp only [List.filter_cons, h1, Bool.not_true, Bool.false_eq_true, if_false, List.filter_nil, List.append_nil]
   rw [List.filter_eq_self.2]
   intro x hx
   have := List.any_eq_false.1 h2 x hx
   simpa using this
 · obtain ⟨g1, g2, g3, g4⟩ := ha
   rw [show i0 + 1 + (l.length - (i0 + 1)) = l.length by omega] at g1 g3 ⊢
   exact ⟨_, last a.1 a.2 g2 g1, a.1, a.2, rfl, g1, g2, by rw [g3, List.take_length]⟩
 · obtain ⟨g1, g2, g3, g4⟩ := ha
   have hj : i0 + 1 + k < l.length := by omega
   have e : a.2[i0 + 1 + k] = l[i0 + 1 + k] := by
     have : (a.2.drop (i0 + 1 + k))[0]? = (l.drop (i0 + 1 + k))[0]? := by rw [g4]
     simp only [List.getElem?_drop, Nat.add_zero, List.getElem?_eq_getElem hj, List.getElem?_eq_getElem (show i0 + 1 + k < a.2.length by omega), Option.some.injEq] at this
     exact this
   refine ⟨_, step a.1 _ a.2 g2 g1 hj e, ?_⟩
   cases hp : p l[i0 + 1 + k] with
   | true =>
     rw [if_pos rfl]
     refine ⟨a, rfl, by omega, g2, ?_, ?_⟩
     · rw [g3, show i0 + 1 + (k + 1) = i0 + 1 + k + 1 by omega, List.take_succ_eq_append_getElem hj, List.filter_append]
       simp [hp]
     · have := congrArg (List.drop 1) g4
       rwa [List.drop_drop, List.drop_drop] at this
   | false =>
     rw [if_neg (by simp)]
     refine ⟨(a.1 + 1, a.2.set a.1 l[i0 + 1 + k]), rfl, by simp only; omega, by simp only [List.length_set]; exact g2, ?_, ?_⟩
     · simp only
       rw [show i0 + 1 + (k + 1) = i0 + 1 + k + 1 by omega, List.take_succ_eq_append_getElem hj, List.filter_append, ← g3, List.take_succ_eq_append_getElem (by rw [List.length_set]; omega), List.getElem_set_self, List.take_set_of_le (Nat.le_refl _)]
       simp [hp]
     · simp only
       rw [show i0 + 1 + (k + 1) = i0 + 1 + k + 1 by omega, List.drop_set_of_lt (by omega)]
       have := congrArg (List.drop 1) g4
       rwa [List.drop_drop, List.drop_drop] at this
def DelOk {α : Type} (p : α → Bool) (l : List α) (n : Nat) (t : List α) : Prop := n ≤ t.length ∧ t.length = l.length ∧ t.take n = l.filter fun x => !p x
theorem zyt {α : Type} {p : α → Bool} {l : List α} (h : l.any p = false) : DelOk p l l.length l := by
 refine ⟨Nat.le_refl _, rfl, ?_⟩
 rw [List.take_length, List.filter_eq_self.2]
 intro x hx
 have := List.any_eq_false.1 h x hx
 simpa using this
theorem z1oe {α : Type} {t m : List α} {i k : Nat} (hi : i ≤ t.length) : (cpyL t i k m).take i = t.take i := by
 unfold cpyL
 rw [List.append_assoc, List.take_append_of_le_length (by simp; omega), List.take_take, Nat.min_self]
theorem zxk {α : Type} {t m : List α} {i : Nat} (hi : i ≤ t.length) (hm : m.length = t.length - i) : (cpyL t i (t.length - i) m).length = t.length := by
 unfold cpyL
 simp [hm]; omega
theorem z14d {α : Type} {p : α → Bool} {l t m : List α} {i : Nat} (h : i ≤ l.length) (g : t.length = l.length) (k : t.take i = l.filter fun x => !p x) (hm : m.length = t.length - i) : DelOk p l i (cpyL t i (t.length - i) m) :=
 ⟨by rw [zxk (by omega) hm]; omega, by rw [zxk (by omega) hm, g], by rw [z1oe (by omega), k]⟩
theorem z1q4 {l : List T2} {del : List Int} (hl : l.length ≤ 2000) (hd : VecOk del) (hv : ∀ x, x ∈ l → VecOk x.2.2.2.2) : Ok (zft l del) fun r => (r = -1 ∧ l.any (fun x : T2 => goneV x.2.2.2.2 del) = false) ∨ ∃ i, ∃ h : i < l.length, r = (i : Int) ∧ (fun x : T2 => goneV x.2.2.2.2 del) l[i] = true ∧ (l.take i).any (fun x : T2 => goneV x.2.2.2.2 del) = false := by
 have key := ztq z2i l (fun i => (l, del, (l.length : Int), (i : Int))) (fun x : T2 => goneV x.2.2.2.2 del) (fun i => .inr (i : Int)) (.inl ())
   (ok_is (by
     unfold z2i zbr
     dsimp only
     repeat' first
       | (dsimp only [Int.toNat_natCast, List.length_nil])
       | with_reducible first | refine z0f ?_ | refine z0g ?_ | refine z0d ?_ | refine z0e ?_ | refine z0b ?_ | refine z0i ?_ | refine qs ?_ | refine qb ?_ | refine z0n ?_ | refine qw ?_ | refine z0j ?_ | refine z0l ?_ | refine qi ?_ | refine qg (h := ?_) | refine qx (h := ?_) | refine qy (h := ?_) | refine qa ?_ | refine qc ?_ | refine ql ?_ | refine qp ?_ | refine z0a ?_ | rfl
       | (with_reducible first | refine ok_lt ?_ ?_ | refine ok_le ?_ ?_ | refine z0h ?_ ?_ | refine z0k ?_ ?_ | refine z0m ?_ ?_ | refine qu ?_ ?_ | refine ok_if ?_ ?_) <;> intro _ <;> try (exfalso; omega))) (fun i hi => ok_is (by
     have hm := List.getElem_mem hi
     have hE := (show zbo l[i] del = some (goneV l[i].2.2.2.2 del) by unfold zbo; rw [z15p (hv _ hm) hd]; rfl)
     unfold z2i zbr
     dsimp only
     repeat' first
       | (dsimp only [Int.toNat_natCast, List.length_nil])
       | ((with_reducible refine ok_eq hE ?_))
       | with_reducible first | refine z0f ?_ | refine z0g ?_ | refine z0d ?_ | refine z0e ?_ | refine z0b ?_ | refine z0i ?_ | refine qs ?_ | refine qb ?_ | refine z0n ?_ | refine qw ?_ | refine z0j ?_ | refine z0l ?_ | refine qi ?_ | refine qg (h := ?_) | refine qx (h := ?_) | refine qy (h := ?_) | refine qa ?_ | refine qc ?_ | refine ql ?_ | refine qp ?_ | refine z0a ?_ | rfl
       | (with_reducible first | refine ok_lt ?_ ?_ | refine ok_le ?_ ?_ | refine z0h ?_ ?_ | refine z0k ?_ ?_ | refine z0m ?_ ?_ | refine qu ?_ ?_ | refine ok_if ?_ ?_) <;> intro _ <;> try (exfalso; omega)
     all_goals first
       | (rename_i e; rw [e]; rfl)
       | (rename_i e; rw [e, z0s (by omega)]; rfl)))
 unfold zft
 refine zaw (by omega) (z0a (z8i key ?_))
 rintro x (⟨rfl, h⟩ | ⟨i, h, rfl, h1, h2⟩)
 · repeat' first
     | (dsimp only [Int.toNat_natCast, List.length_nil])
     | with_reducible first | refine z0f ?_ | refine z0g ?_ | refine z0d ?_ | refine z0e ?_ | refine z0b ?_ | refine z0i ?_ | refine qs ?_ | refine qb ?_ | refine z0n ?_ | refine qw ?_ | refine z0j ?_ | refine z0l ?_ | refine qi ?_ | refine qg (h := ?_) | refine qx (h := ?_) | refine qy (h := ?_) | refine qa ?_ | refine qc ?_ | refine ql ?_ | refine qp ?_ | refine z0a ?_ | rfl
     | (with_reducible first | refine ok_lt ?_ ?_ | refine ok_le ?_ ?_ | refine z0h ?_ ?_ | refine z0k ?_ ?_ | refine z0m ?_ ?_ | refine qu ?_ ?_ | refine ok_if ?_ ?_) <;> intro _ <;> try (exfalso; omega)
   exact .inl ⟨rfl, h⟩
 · repeat' first
     | (dsimp only [Int.toNat_natCast, List.length_nil])
     | with_reducible first | refine z0f ?_ | refine z0g ?_ | refine z0d ?_ | refine z0e ?_ | refine z0b ?_ | refine z0i ?_ | refine qs ?_ | refine qb ?_ | refine z0n ?_ | refine qw ?_ | refine z0j ?_ | refine z0l ?_ | refine qi ?_ | refine qg (h := ?_) | refine qx (h := ?_) | refine qy (h := ?_) | refine qa ?_ | refine qc ?_ | refine ql ?_ | refine qp ?_ | refine z0a ?_ | rfl
     | (with_reducible first | refine ok_lt ?_ ?_ | refine ok_le ?_ ?_ | refine z0h ?_ ?_ | refine z0k ?_ ?_ | refine z0m ?_ ?_ | refine qu ?_ ?_ | refine ok_if ?_ ?_) <;> intro _ <;> try (exfalso; omega)
   exact .inr ⟨i, h, rfl, h1, h2⟩
theorem z1p8 {l : List T2} {del : List Int} (hl : l.length ≤ 2000) (hd : VecOk del) (hv : ∀ x, x ∈ l → VecOk x.2.2.2.2) : Ok (zcy l del) fun r => ∃ n t, r = (List.replicate n true, t, del) ∧ DelOk (fun x : T2 => goneV x.2.2.2.2 del) l n t := by
 unfold zcy
 repeat' first
   | (dsimp only [Int.toNat_natCast, List.length_nil])
   | ((with_reducible refine z4f (z1q4 hl hd hv) ?_); intro r hr)
   | with_reducible first | refine z0f ?_ | refine z0g ?_ | refine z0d ?_ | refine z0e ?_ | refine z0b ?_ | refine z0i ?_ | refine qs ?_ | refine qb ?_ | refine z0n ?_ | refine qw ?_ | refine z0j ?_ | refine z0l ?_ | refine qi ?_ | refine qg (h := ?_) | refine qx (h := ?_) | refine qy (h := ?_) | refine qa ?_ | refine qc ?_ | refine ql ?_ | refine qp ?_ | refine z0a ?_ | rfl
   | (with_reducible first | refine ok_lt ?_ ?_ | refine ok_le ?_ ?_ | refine z0h ?_ ?_ | refine z0k ?_ ?_ | refine z0m ?_ ?_ | refine qu ?_ ?_ | refine ok_if ?_ ?_) <;> intro _ <;> try (exfalso; omega)
 · rename_i e
   rcases hr with ⟨rfl, h⟩ | ⟨i, h, rfl, h1, h2⟩
   · exact ⟨_, _, rfl, zyt h⟩
   · omega
 all_goals
   rename_i e
   rcases hr with ⟨rfl, h⟩ | ⟨i0, h, rfl, h1, h2⟩
   · omega
   rw [z0s (by omega)]
   have key := z19n z1l l (fun i j t => (i, j, t, del)) (fun i t => (i, t, del)) (fun x : T2 => goneV x.2.2.2.2 del)
     (fun i t ht hi => ok_is (by
       unfold z1l z8w
       dsimp only
       repeat' first
         | (dsimp only [Int.toNat_natCast, List.length_nil])
         | (simp only [z9e])
         | with_reducible first | refine z0f ?_ | refine z0g ?_ | refine z0d ?_ | refine z0e ?_ | refine z0b ?_ | refine z0i ?_ | refine qs ?_ | refine qb ?_ | refine z0n ?_ | refine qw ?_ | refine z0j ?_ | refine z0l ?_ | refine qi ?_ | refine qg (h := ?_) | refine qx (h := ?_) | refine qy (h := ?_) | refine qa ?_ | refine qc ?_ | refine ql ?_ | refine qp ?_ | refine z0a ?_ | rfl
         | (with_reducible first | refine ok_lt ?_ ?_ | refine ok_le ?_ ?_ | refine z0h ?_ ?_ | refine z0k ?_ ?_ | refine z0m ?_ ?_ | refine qu ?_ ?_ | refine ok_if ?_ ?_) <;> intro _ <;> try (exfalso; omega))) (fun i j t ht hi hj e => ok_is (by
       have hm := List.getElem_mem hj
       have hE := (show zbo l[j] del = some (goneV l[j].2.2.2.2 del) by unfold zbo; rw [z15p (hv _ hm) hd]; rfl)
       unfold z1l z8w
       dsimp only
       repeat' first
         | (dsimp only [Int.toNat_natCast, List.length_nil])
         | (simp only [z9e])
         | (rw [e])
         | ((with_reducible refine ok_eq hE ?_))
         | (rw [Bool.not_eq_true'])
         | with_reducible first | refine z0f ?_ | refine z0g ?_ | refine z0d ?_ | refine z0e ?_ | refine z0b ?_ | refine z0i ?_ | refine qs ?_ | refine qb ?_ | refine z0n ?_ | refine qw ?_ | refine z0j ?_ | refine z0l ?_ | refine qi ?_ | refine qg (h := ?_) | refine qx (h := ?_) | refine qy (h := ?_) | refine qa ?_ | refine qc ?_ | refine ql ?_ | refine qp ?_ | refine z0a ?_ | rfl
         | (with_reducible first | refine ok_lt ?_ ?_ | refine ok_le ?_ ?_ | refine z0h ?_ ?_ | refine z0k ?_ ?_ | refine z0m ?_ ?_ | refine qu ?_ ?_ | refine ok_if ?_ ?_) <;> intro _ <;> try (exfalso; omega)
       all_goals first
         | (rename_i e; rw [e, z0s (by omega)]; rfl)
         | (rename_i e; rw [e, z0s (by omega), z0s (by omega)]; rfl))) i0 h h1 h2
   refine z8i key ?_
   rintro _ ⟨i, t, rfl, g1, g2, g3⟩
   have hb : addN i (t.length - i) ≤ t.length := by rw [zgr]; omega
   repeat' first
     | (dsimp only [Int.toNat_natCast, List.length_nil])
     | (simp only [z9e])
     | ((with_reducible refine zmc (by rw [zxk (by omega) (by simp)]) ?_))
     | ((with_reducible refine z1ar hb ?_))
     | with_reducible first | refine z0f ?_ | refine z0g ?_ | refine z0d ?_ | refine z0e ?_ | refine z0b ?_ | refine z0i ?_ | refine qs ?_ | refine qb ?_ | refine z0n ?_ | refine qw ?_ | refine z0j ?_ | refine z0l ?_ | refine qi ?_ | refine qg (h := ?_) | refine qx (h := ?_) | refine qy (h := ?_) | refine qa ?_ | refine qc ?_ | refine ql ?_ | refine qp ?_ | refine z0a ?_ | rfl
     | (with_reducible first | refine ok_lt ?_ ?_ | refine ok_le ?_ ?_ | refine z0h ?_ ?_ | refine z0k ?_ ?_ | refine z0m ?_ ?_ | refine qu ?_ ?_ | refine ok_if ?_ ?_) <;> intro _ <;> try (exfalso; omega)
   exact ⟨i, _, rfl, z14d g1 g2 g3 (by simp)⟩
theorem z1ps {l : List T3} {del : List Int} (hl : l.length ≤ 2000) (hd : VecOk del) (hv : ∀ x, x ∈ l → VecOk x.2.2) : Ok (zdi l del) fun r => (r = -1 ∧ l.any (fun x : T3 => goneV x.2.2 del) = false) ∨ ∃ i, ∃ h : i < l.length, r = (i : Int) ∧ (fun x : T3 => goneV x.2.2 del) l[i] = true ∧ (l.take i).any (fun x : T3 => goneV x.2.2 del) = false := by
 have key := ztq z2e l (fun i => (l, del, (l.length : Int), (i : Int))) (fun x : T3 => goneV x.2.2 del) (fun i => .inr (i : Int)) (.inl ())
   (ok_is (by
     unfold z2e zat
     dsimp only
     repeat' first
       | (dsimp only [Int.toNat_natCast, List.length_nil])
       | with_reducible first | refine z0f ?_ | refine z0g ?_ | refine z0d ?_ | refine z0e ?_ | refine z0b ?_ | refine z0i ?_ | refine qs ?_ | refine qb ?_ | refine z0n ?_ | refine qw ?_ | refine z0j ?_ | refine z0l ?_ | refine qi ?_ | refine qg (h := ?_) | refine qx (h := ?_) | refine qy (h := ?_) | refine qa ?_ | refine qc ?_ | refine ql ?_ | refine qp ?_ | refine z0a ?_ | rfl
       | (with_reducible first | refine ok_lt ?_ ?_ | refine ok_le ?_ ?_ | refine z0h ?_ ?_ | refine z0k ?_ ?_ | refine z0m ?_ ?_ | refine qu ?_ ?_ | refine ok_if ?_ ?_) <;> intro _ <;> try (exfalso; omega))) (fun i hi => ok_is (by
     have hm := List.getElem_mem hi
     have hE := (show z9v l[i] del = some (goneV l[i].2.2 del) by unfold z9v; rw [z15p (hv _ hm) hd]; rfl)
     unfold z2e zat
     dsimp only
     repeat' first
       | (dsimp only [Int.toNat_natCast, List.length_nil])
       | ((with_reducible refine ok_eq hE ?_))
       | with_reducible first | refine z0f ?_ | refine z0g ?_ | refine z0d ?_ | refine z0e ?_ | refine z0b ?_ | refine z0i ?_ | refine qs ?_ | refine qb ?_ | refine z0n ?_ | refine qw ?_ | refine z0j ?_ | refine z0l ?_ | refine qi ?_ | refine qg (h := ?_) | refine qx (h := ?_) | refine qy (h := ?_) | refine qa ?_ | refine qc ?_ | refine ql ?_ | refine qp ?_ | refine z0a ?_ | rfl
       | (with_reducible first | refine ok_lt ?_ ?_ | refine ok_le ?_ ?_ | refine z0h ?_ ?_ | refine z0k ?_ ?_ | refine z0m ?_ ?_ | refine qu ?_ ?_ | refine ok_if ?_ ?_) <;> intro _ <;> try (exfalso; omega)
     all_goals first
       | (rename_i e; rw [e]; rfl)
       | (rename_i e; rw [e, z0s (by omega)]; rfl)))
 unfold zdi
 refine zaw (by omega) (z0a (z8i key ?_))
 rintro x (⟨rfl, h⟩ | ⟨i, h, rfl, h1, h2⟩)
 · repeat' first
     | (dsimp only [Int.toNat_natCast, List.length_nil])
     | with_reducible first | refine z0f ?_ | refine z0g ?_ | refine z0d ?_ | refine z0e ?_ | refine z0b ?_ | refine z0i ?_ | refine qs ?_ | refine qb ?_ | refine z0n ?_ | refine qw ?_ | refine z0j ?_ | refine z0l ?_ | refine qi ?_ | refine qg (h := ?_) | refine qx (h := ?_) | refine qy (h := ?_) | refine qa ?_ | refine qc ?_ | refine ql ?_ | refine qp ?_ | refine z0a ?_ | rfl
     | (with_reducible first | refine ok_lt ?_ ?_ | refine ok_le ?_ ?_ | refine z0h ?_ ?_ | refine z0k ?_ ?_ | refine z0m ?_ ?_ | refine qu ?_ ?_ | refine ok_if ?_ ?_) <;> intro _ <;> try (exfalso; omega)
   exact .inl ⟨rfl, h⟩
 · repeat' first
     | (dsimp only [Int.toNat_natCast, List.length_nil])
     | with_reducible first | refine z0f ?_ | refine z0g ?_ | refine z0d ?_ | refine z0e ?_ | refine z0b ?_ | refine z0i ?_ | refine qs ?_ | refine qb ?_ | refine z0n ?_ | refine qw ?_ | refine z0j ?_ | refine z0l ?_ | refine qi ?_ | refine qg (h := ?_) | refine qx (h := ?_) | refine qy (h := ?_) | refine qa ?_ | refine qc ?_ | refine ql ?_ | refine qp ?_ | refine z0a ?_ | rfl
     | (with_reducible first | refine ok_lt ?_ ?_ | refine ok_le ?_ ?_ | refine z0h ?_ ?_ | refine z0k ?_ ?_ | refine z0m ?_ ?_ | refine qu ?_ ?_ | refine ok_if ?_ ?_) <;> intro _ <;> try (exfalso; omega)
   exact .inr ⟨i, h, rfl, h1, h2⟩
theorem z1q6 {l : List T3} {del : List Int} (hl : l.length ≤ 2000) (hd : VecOk del) (hv : ∀ x, x ∈ l → VecOk x.2.2) : Ok (zcz l del) fun r => ∃ n t, r = (List.replicate n true, t, del) ∧ DelOk (fun x : T3 => goneV x.2.2 del) l n t := by
 unfold zcz
 repeat' first
   | (dsimp only [Int.toNat_natCast, List.length_nil])
   | ((with_reducible refine z4f (z1ps hl hd hv) ?_); intro r hr)
   | with_reducible first | refine z0f ?_ | refine z0g ?_ | refine z0d ?_ | refine z0e ?_ | refine z0b ?_ | refine z0i ?_ | refine qs ?_ | refine qb ?_ | refine z0n ?_ | refine qw ?_ | refine z0j ?_ | refine z0l ?_ | refine qi ?_ | refine qg (h := ?_) | refine qx (h := ?_) | refine qy (h := ?_) | refine qa ?_ | refine qc ?_ | refine ql ?_ | refine qp ?_ | refine z0a ?_ | rfl
   | (with_reducible first | refine ok_lt ?_ ?_ | refine ok_le ?_ ?_ | refine z0h ?_ ?_ | refine z0k ?_ ?_ | refine z0m ?_ ?_ | refine qu ?_ ?_ | refine ok_if ?_ ?_) <;> intro _ <;> try (exfalso; omega)
 · rename_i e
   rcases hr with ⟨rfl, h⟩ | ⟨i, h, rfl, h1, h2⟩
   · exact ⟨_, _, rfl, zyt h⟩
   · omega
 all_goals
   rename_i e
   rcases hr with ⟨rfl, h⟩ | ⟨i0, h, rfl, h1, h2⟩
   · omega
   rw [z0s (by omega)]
   have key := z19n z1j l (fun i j t => (i, j, t, del)) (fun i t => (i, t, del)) (fun x : T3 => goneV x.2.2 del)
     (fun i t ht hi => ok_is (by
       unfold z1j z8x
       dsimp only
       repeat' first
         | (dsimp only [Int.toNat_natCast, List.length_nil])
         | (simp only [z9e])
         | with_reducible first | refine z0f ?_ | refine z0g ?_ | refine z0d ?_ | refine z0e ?_ | refine z0b ?_ | refine z0i ?_ | refine qs ?_ | refine qb ?_ | refine z0n ?_ | refine qw ?_ | refine z0j ?_ | refine z0l ?_ | refine qi ?_ | refine qg (h := ?_) | refine qx (h := ?_) | refine qy (h := ?_) | refine qa ?_ | refine qc ?_ | refine ql ?_ | refine qp ?_ | refine z0a ?_ | rfl
         | (with_reducible first | refine ok_lt ?_ ?_ | refine ok_le ?_ ?_ | refine z0h ?_ ?_ | refine z0k ?_ ?_ | refine z0m ?_ ?_ | refine qu ?_ ?_ | refine ok_if ?_ ?_) <;> intro _ <;> try (exfalso; omega))) (fun i j t ht hi hj e => ok_is (by
       have hm := List.getElem_mem hj
       have hE := (show z9v l[j] del = some (goneV l[j].2.2 del) by unfold z9v; rw [z15p (hv _ hm) hd]; rfl)
       unfold z1j z8x
       dsimp only
       repeat' first
         | (dsimp only [Int.toNat_natCast, List.length_nil])
         | (simp only [z9e])
         | (rw [e])
         | ((with_reducible refine ok_eq hE ?_))
         | (rw [Bool.not_eq_true'])
         | with_reducible first | refine z0f ?_ | refine z0g ?_ | refine z0d ?_ | refine z0e ?_ | refine z0b ?_ | refine z0i ?_ | refine qs ?_ | refine qb ?_ | refine z0n ?_ | refine qw ?_ | refine z0j ?_ | refine z0l ?_ | refine qi ?_ | refine qg (h := ?_) | refine qx (h := ?_) | refine qy (h := ?_) | refine qa ?_ | refine qc ?_ | refine ql ?_ | refine qp ?_ | refine z0a ?_ | rfl
         | (with_reducible first | refine ok_lt ?_ ?_ | refine ok_le ?_ ?_ | refine z0h ?_ ?_ | refine z0k ?_ ?_ | refine z0m ?_ ?_ | refine qu ?_ ?_ | refine ok_if ?_ ?_) <;> intro _ <;> try (exfalso; omega)
       all_goals first
         | (rename_i e; rw [e, z0s (by omega)]; rfl)
         | (rename_i e; rw [e, z0s (by omega), z0s (by omega)]; rfl))) i0 h h1 h2
   refine z8i key ?_
   rintro _ ⟨i, t, rfl, g1, g2, g3⟩
   have hb : addN i (t.length - i) ≤ t.length := by rw [zgr]; omega
   repeat' first
     | (dsimp only [Int.toNat_natCast, List.length_nil])
     | (simp only [z9e])
     | ((with_reducible refine zmc (by rw [zxk (by omega) (by simp)]) ?_))
     | ((with_reducible refine z1ar hb ?_))
     | with_reducible first | refine z0f ?_ | refine z0g ?_ | refine z0d ?_ | refine z0e ?_ | refine z0b ?_ | refine z0i ?_ | refine qs ?_ | refine qb ?_ | refine z0n ?_ | refine qw ?_ | refine z0j ?_ | refine z0l ?_ | refine qi ?_ | refine qg (h := ?_) | refine qx (h := ?_) | refine qy (h := ?_) | refine qa ?_ | refine qc ?_ | refine ql ?_ | refine qp ?_ | refine z0a ?_ | rfl
     | (with_reducible first | refine ok_lt ?_ ?_ | refine ok_le ?_ ?_ | refine z0h ?_ ?_ | refine z0k ?_ ?_ | refine z0m ?_ ?_ | refine qu ?_ ?_ | refine ok_if ?_ ?_) <;> intro _ <;> try (exfalso; omega)
   exact ⟨i, _, rfl, z14d g1 g2 g3 (by simp)⟩
end Go.Proofs.Ytfbdjicfkcklfaa
set_option maxRecDepth 100000
set_option linter.unusedSimpArgs false
set_option linter.unusedVariables false
namespace Go.Proofs.Ytfbdjicfkcklfaa
open Go.Tm Go.Ab
theorem z1mq {l : List T2} (hl : l.length ≤ 2000) : zil l = some l := by
 refine ok_is ?_
 unfold zil
 refine z1fy (fun e => by have := List.eq_nil_of_length_eq_zero e; subst this; rfl) ?_
 repeat' first
   | (dsimp only [Int.toNat_natCast, List.length_nil])
   | with_reducible first | refine z0f ?_ | refine z0g ?_ | refine z0d ?_ | refine z0e ?_ | refine z0b ?_ | refine z0i ?_ | refine qs ?_ | refine qb ?_ | refine z0n ?_ | refine qw ?_ | refine z0j ?_ | refine z0l ?_ | refine qi ?_ | refine qg (h := ?_) | refine qx (h := ?_) | refine qy (h := ?_) | refine qa ?_ | refine qc ?_ | refine ql ?_ | refine qp ?_ | refine z0a ?_ | rfl
   | (with_reducible first | refine ok_lt ?_ ?_ | refine ok_le ?_ ?_ | refine z0h ?_ ?_ | refine z0k ?_ ?_ | refine z0m ?_ ?_ | refine qu ?_ ?_ | refine ok_if ?_ ?_) <;> intro _ <;> try (exfalso; omega)
theorem z1ec {l : List T3} (hl : l.length ≤ 2000) : zf0 l = some l := by
 refine ok_is ?_
 unfold zf0
 refine z1fy (fun e => by have := List.eq_nil_of_length_eq_zero e; subst this; rfl) ?_
 repeat' first
   | (dsimp only [Int.toNat_natCast, List.length_nil])
   | with_reducible first | refine z0f ?_ | refine z0g ?_ | refine z0d ?_ | refine z0e ?_ | refine z0b ?_ | refine z0i ?_ | refine qs ?_ | refine qb ?_ | refine z0n ?_ | refine qw ?_ | refine z0j ?_ | refine z0l ?_ | refine qi ?_ | refine qg (h := ?_) | refine qx (h := ?_) | refine qy (h := ?_) | refine qa ?_ | refine qc ?_ | refine ql ?_ | refine qp ?_ | refine z0a ?_ | rfl
   | (with_reducible first | refine ok_lt ?_ ?_ | refine ok_le ?_ ?_ | refine z0h ?_ ?_ | refine z0k ?_ ?_ | refine z0m ?_ ?_ | refine qu ?_ ?_ | refine ok_if ?_ ?_) <;> intro _ <;> try (exfalso; omega)
theorem z1mn {l : List T2} (hl : l.length ≤ 2000) : zit l = some (l, l) := by
 refine ok_is ?_
 unfold zit
 refine z1fy (fun e => by have := List.eq_nil_of_length_eq_zero e; subst this; rfl) ?_
 repeat' first
   | (dsimp only [Int.toNat_natCast, List.length_nil])
   | with_reducible first | refine z0f ?_ | refine z0g ?_ | refine z0d ?_ | refine z0e ?_ | refine z0b ?_ | refine z0i ?_ | refine qs ?_ | refine qb ?_ | refine z0n ?_ | refine qw ?_ | refine z0j ?_ | refine z0l ?_ | refine qi ?_ | refine qg (h := ?_) | refine qx (h := ?_) | refine qy (h := ?_) | refine qa ?_ | refine qc ?_ | refine ql ?_ | refine qp ?_ | refine z0a ?_ | rfl
   | (with_reducible first | refine ok_lt ?_ ?_ | refine ok_le ?_ ?_ | refine z0h ?_ ?_ | refine z0k ?_ ?_ | refine z0m ?_ ?_ | refine qu ?_ ?_ | refine ok_if ?_ ?_) <;> intro _ <;> try (exfalso; omega)
def z14m (l : List T3) (base : List Int) : List T3 := l.filter fun v => !goneV v.2.2 base
def z1a1 (l : List T2) (base : List Int) : List T2 := l.filter fun v => !goneV v.2.2.2.2 base
theorem z1nc {l : List T3} {base : List Int} (hl : l.length ≤ 2000) (hb : VecOk base) (hv : ∀ x, x ∈ l → VecOk x.2.2) : zkx l base = some (z14m l base) := by
 refine ok_is ?_
 unfold zkx
 repeat' first
   | (dsimp only [Int.toNat_natCast, List.length_nil])
   | ((with_reducible refine ok_eq (z1ec hl) ?_))
   | ((with_reducible refine z4f (z1q6 hl hb hv) ?_); rintro _ ⟨n, t, rfl, h1, h2, h3⟩)
   | (simp only [z9e])
   | with_reducible first | refine z0f ?_ | refine z0g ?_ | refine z0d ?_ | refine z0e ?_ | refine z0b ?_ | refine z0i ?_ | refine qs ?_ | refine qb ?_ | refine z0n ?_ | refine qw ?_ | refine z0j ?_ | refine z0l ?_ | refine qi ?_ | refine qg (h := ?_) | refine qx (h := ?_) | refine qy (h := ?_) | refine qa ?_ | refine qc ?_ | refine ql ?_ | refine qp ?_ | refine z0a ?_ | rfl
   | (with_reducible first | refine ok_lt ?_ ?_ | refine ok_le ?_ ?_ | refine z0h ?_ ?_ | refine z0k ?_ ?_ | refine z0m ?_ ?_ | refine qu ?_ ?_ | refine ok_if ?_ ?_) <;> intro _ <;> try (exfalso; omega)
 rw [List.drop_zero, h3]; rfl
theorem z1lt {l : List T2} {base : List Int} (hl : l.length ≤ 2000) (hb : VecOk base) (hv : ∀ x, x ∈ l → VecOk x.2.2.2.2) : Ok (zkv base l) fun r => ∃ n t, r = (List.replicate n true, l, t) ∧ DelOk (fun x : T2 => goneV x.2.2.2.2 base) l n t := by
 unfold zkv
 repeat' first
   | (dsimp only [Int.toNat_natCast, List.length_nil])
   | ((with_reducible refine ok_eq (z1mn hl) ?_))
   | ((with_reducible refine z4f (z1p8 hl hb hv) ?_); rintro _ ⟨n, t, rfl, h⟩)
   | (simp only [z9e])
   | with_reducible first | refine z0f ?_ | refine z0g ?_ | refine z0d ?_ | refine z0e ?_ | refine z0b ?_ | refine z0i ?_ | refine qs ?_ | refine qb ?_ | refine z0n ?_ | refine qw ?_ | refine z0j ?_ | refine z0l ?_ | refine qi ?_ | refine qg (h := ?_) | refine qx (h := ?_) | refine qy (h := ?_) | refine qa ?_ | refine qc ?_ | refine ql ?_ | refine qp ?_ | refine z0a ?_ | rfl
   | (with_reducible first | refine ok_lt ?_ ?_ | refine ok_le ?_ ?_ | refine z0h ?_ ?_ | refine z0k ?_ ?_ | refine z0m ?_ ?_ | refine qu ?_ ?_ | refine ok_if ?_ ?_) <;> intro _ <;> try (exfalso; omega)
 exact ⟨n, t, rfl, h⟩
def zhr (l : List T3) : List T3 := l.filter fun v => z6y v.2.2
theorem z1ny {l : List T3} (hl : l.length ≤ 2000) : zks l = some (zhr l) := by
 refine ok_is ?_
 unfold zks
 refine zaw (by omega) ?_
 repeat' first
   | (dsimp only [Int.toNat_natCast, List.length_nil])
   | with_reducible first | refine z0f ?_ | refine z0g ?_ | refine z0d ?_ | refine z0e ?_ | refine z0b ?_ | refine z0i ?_ | refine qs ?_ | refine qb ?_ | refine z0n ?_ | refine qw ?_ | refine z0j ?_ | refine z0l ?_ | refine qi ?_ | refine qg (h := ?_) | refine qx (h := ?_) | refine qy (h := ?_) | refine qa ?_ | refine qc ?_ | refine ql ?_ | refine qp ?_ | refine z0a ?_ | rfl
   | (with_reducible first | refine ok_lt ?_ ?_ | refine ok_le ?_ ?_ | refine z0h ?_ ?_ | refine z0k ?_ ?_ | refine z0m ?_ ?_ | refine qu ?_ ?_ | refine ok_if ?_ ?_) <;> intro _ <;> try (exfalso; omega)
 refine z1y l.length (fun i (_ : Unit) => (l, (l.length : Int), (i : Int), zhr (l.take i))) (fun _ _ => True) () rfl trivial (fun _ _ => ?_) fun i _ hi _ => ?_
 · unfold z2z zc5
   dsimp only
   repeat' first
     | (dsimp only [Int.toNat_natCast, List.length_nil])
     | with_reducible first | refine z0f ?_ | refine z0g ?_ | refine z0d ?_ | refine z0e ?_ | refine z0b ?_ | refine z0i ?_ | refine qs ?_ | refine qb ?_ | refine z0n ?_ | refine qw ?_ | refine z0j ?_ | refine z0l ?_ | refine qi ?_ | refine qg (h := ?_) | refine qx (h := ?_) | refine qy (h := ?_) | refine qa ?_ | refine qc ?_ | refine ql ?_ | refine qp ?_ | refine z0a ?_ | rfl
     | (with_reducible first | refine ok_lt ?_ ?_ | refine ok_le ?_ ?_ | refine z0h ?_ ?_ | refine z0k ?_ ?_ | refine z0m ?_ ?_ | refine qu ?_ ?_ | refine ok_if ?_ ?_) <;> intro _ <;> try (exfalso; omega)
   rw [List.take_length]
 · unfold z2z zc5
   dsimp only
   have hq : (zhr (l.take i)).length ≤ 2000 := by
     have := List.length_filter_le (fun v : T3 => z6y v.2.2) (l.take i)
     unfold zhr
     simp only [List.length_take] at this
     omega
   have hs : zhr (l.take (i + 1)) = if z6y l[i].2.2 = true then zhr (l.take i) ++ [l[i]] else zhr (l.take i) := by
     unfold zhr
     rw [List.take_succ_eq_append_getElem hi, List.filter_append]
     cases h : z6y l[i].2.2 <;> simp [h]
   repeat' first
     | (dsimp only [Int.toNat_natCast, List.length_nil])
     | ((with_reducible refine ok_eq (z1j2 _) ?_))
     | with_reducible first | refine z0f ?_ | refine z0g ?_ | refine z0d ?_ | refine z0e ?_ | refine z0b ?_ | refine z0i ?_ | refine qs ?_ | refine qb ?_ | refine z0n ?_ | refine qw ?_ | refine z0j ?_ | refine z0l ?_ | refine qi ?_ | refine qg (h := ?_) | refine qx (h := ?_) | refine qy (h := ?_) | refine qa ?_ | refine qc ?_ | refine ql ?_ | refine qp ?_ | refine z0a ?_ | rfl
     | (with_reducible first | refine ok_lt ?_ ?_ | refine ok_le ?_ ?_ | refine z0h ?_ ?_ | refine z0k ?_ ?_ | refine z0m ?_ ?_ | refine qu ?_ ?_ | refine ok_if ?_ ?_) <;> intro _ <;> try (exfalso; omega)
   · rename_i e
     rw [if_pos e] at hs
     exact ⟨(), by rw [z0s (by omega), hs]; rfl, trivial⟩
   · rename_i e
     rw [if_neg (by rw [e]; simp)] at hs
     exact ⟨(), by rw [z0s (by omega), hs]; rfl, trivial⟩
theorem z1jy (x : T2) (o : T4) : zj5 x o = some (decide (x.2.2.2.1 = o.1) || decide (x.2.1 = o.1)) := by
 refine ok_is ?_
 unfold zj5
 repeat' first
   | (dsimp only [Int.toNat_natCast, List.length_nil])
   | ((with_reducible refine z1e ?_ ?_) <;> intro _)
   | with_reducible first | refine z0f ?_ | refine z0g ?_ | refine z0d ?_ | refine z0e ?_ | refine z0b ?_ | refine z0i ?_ | refine qs ?_ | refine qb ?_ | refine z0n ?_ | refine qw ?_ | refine z0j ?_ | refine z0l ?_ | refine qi ?_ | refine qg (h := ?_) | refine qx (h := ?_) | refine qy (h := ?_) | refine qa ?_ | refine qc ?_ | refine ql ?_ | refine qp ?_ | refine z0a ?_ | rfl
   | (with_reducible first | refine ok_lt ?_ ?_ | refine ok_le ?_ ?_ | refine z0h ?_ ?_ | refine z0k ?_ ?_ | refine z0m ?_ ?_ | refine qu ?_ ?_ | refine ok_if ?_ ?_) <;> intro _ <;> try (exfalso; omega)
 · rename_i e; simp [e]
 · rename_i e
   rw [decide_eq_false e, Bool.false_or, Bool.eq_iff_iff, decide_eq_true_eq]
   exact zj1 rfl
theorem z1pf {l : List T3} {del : List Int} (hl : l.length ≤ 2000) (hd : VecOk del) : Ok (zdp l del) fun r => (r = -1 ∧ l.any (fun x : T3 => !hasV del x.1) = false) ∨ ∃ i, ∃ h : i < l.length, r = (i : Int) ∧ (fun x : T3 => !hasV del x.1) l[i] = true ∧ (l.take i).any (fun x : T3 => !hasV del x.1) = false := by
 have key := ztq z2a l (fun i => (l, del, (l.length : Int), (i : Int))) (fun x : T3 => !hasV del x.1) (fun i => .inr (i : Int)) (.inl ())
   (ok_is (by
     unfold z2a zap
     dsimp only
     repeat' first
       | (dsimp only [Int.toNat_natCast, List.length_nil])
       | with_reducible first | refine z0f ?_ | refine z0g ?_ | refine z0d ?_ | refine z0e ?_ | refine z0b ?_ | refine z0i ?_ | refine qs ?_ | refine qb ?_ | refine z0n ?_ | refine qw ?_ | refine z0j ?_ | refine z0l ?_ | refine qi ?_ | refine qg (h := ?_) | refine qx (h := ?_) | refine qy (h := ?_) | refine qa ?_ | refine qc ?_ | refine ql ?_ | refine qp ?_ | refine z0a ?_ | rfl
       | (with_reducible first | refine ok_lt ?_ ?_ | refine ok_le ?_ ?_ | refine z0h ?_ ?_ | refine z0k ?_ ?_ | refine z0m ?_ ?_ | refine qu ?_ ?_ | refine ok_if ?_ ?_) <;> intro _ <;> try (exfalso; omega))) (fun i hi => ok_is (by
     have hm := List.getElem_mem hi
     have hE := (show zfp l[i] del = some (!hasV del l[i].1) by unfold zfp; rw [z1dc hd]; rfl)
     unfold z2a zap
     dsimp only
     repeat' first
       | (dsimp only [Int.toNat_natCast, List.length_nil])
       | ((with_reducible refine ok_eq hE ?_))
       | with_reducible first | refine z0f ?_ | refine z0g ?_ | refine z0d ?_ | refine z0e ?_ | refine z0b ?_ | refine z0i ?_ | refine qs ?_ | refine qb ?_ | refine z0n ?_ | refine qw ?_ | refine z0j ?_ | refine z0l ?_ | refine qi ?_ | refine qg (h := ?_) | refine qx (h := ?_) | refine qy (h := ?_) | refine qa ?_ | refine qc ?_ | refine ql ?_ | refine qp ?_ | refine z0a ?_ | rfl
       | (with_reducible first | refine ok_lt ?_ ?_ | refine ok_le ?_ ?_ | refine z0h ?_ ?_ | refine z0k ?_ ?_ | refine z0m ?_ ?_ | refine qu ?_ ?_ | refine ok_if ?_ ?_) <;> intro _ <;> try (exfalso; omega)
     all_goals first
       | (rename_i e; rw [e]; rfl)
       | (rename_i e; rw [e, z0s (by omega)]; rfl)))
 unfold zdp
 refine zaw (by omega) (z0a (z8i key ?_))
 rintro x (⟨rfl, h⟩ | ⟨i, h, rfl, h1, h2⟩)
 · repeat' first
     | (dsimp only [Int.toNat_natCast, List.length_nil])
     | with_reducible first | refine z0f ?_ | refine z0g ?_ | refine z0d ?_ | refine z0e ?_ | refine z0b ?_ | refine z0i ?_ | refine qs ?_ | refine qb ?_ | refine z0n ?_ | refine qw ?_ | refine z0j ?_ | refine z0l ?_ | refine qi ?_ | refine qg (h := ?_) | refine qx (h := ?_) | refine qy (h := ?_) | refine qa ?_ | refine qc ?_ | refine ql ?_ | refine qp ?_ | refine z0a ?_ | rfl
     | (with_reducible first | refine ok_lt ?_ ?_ | refine ok_le ?_ ?_ | refine z0h ?_ ?_ | refine z0k ?_ ?_ | refine z0m ?_ ?_ | refine qu ?_ ?_ | refine ok_if ?_ ?_) <;> intro _ <;> try (exfalso; omega)
   exact .inl ⟨rfl, h⟩
 · repeat' first
     | (dsimp only [Int.toNat_natCast, List.length_nil])
     | with_reducible first | refine z0f ?_ | refine z0g ?_ | refine z0d ?_ | refine z0e ?_ | refine z0b ?_ | refine z0i ?_ | refine qs ?_ | refine qb ?_ | refine z0n ?_ | refine qw ?_ | refine z0j ?_ | refine z0l ?_ | refine qi ?_ | refine qg (h := ?_) | refine qx (h := ?_) | refine qy (h := ?_) | refine qa ?_ | refine qc ?_ | refine ql ?_ | refine qp ?_ | refine z0a ?_ | rfl
     | (with_reducible first | refine ok_lt ?_ ?_ | refine ok_le ?_ ?_ | refine z0h ?_ ?_ | refine z0k ?_ ?_ | refine z0m ?_ ?_ | refine qu ?_ ?_ | refine ok_if ?_ ?_) <;> intro _ <;> try (exfalso; omega)
   exact .inr ⟨i, h, rfl, h1, h2⟩
theorem z1qd {l : List T2} {del : T4} (hl : l.length ≤ 2000) : Ok (zdm l del) fun r => (r = -1 ∧ l.any (fun x : T2 => decide (x.2.2.2.1 = del.1) || decide (x.2.1 = del.1)) = false) ∨ ∃ i, ∃ h : i < l.length, r = (i : Int) ∧ (fun x : T2 => decide (x.2.2.2.1 = del.1) || decide (x.2.1 = del.1)) l[i] = true ∧ (l.take i).any (fun x : T2 => decide (x.2.2.2.1 = del.1) || decide (x.2.1 = del.1)) = false := by
 have key := ztq z2f l (fun i => (l, del, (l.length : Int), (i : Int))) (fun x : T2 => decide (x.2.2.2.1 = del.1) || decide (x.2.1 = del.1)) (fun i => .inr (i : Int)) (.inl ())
   (ok_is (by
     unfold z2f zao
     dsimp only
     repeat' first
       | (dsimp only [Int.toNat_natCast, List.length_nil])
       | with_reducible first | refine z0f ?_ | refine z0g ?_ | refine z0d ?_ | refine z0e ?_ | refine z0b ?_ | refine z0i ?_ | refine qs ?_ | refine qb ?_ | refine z0n ?_ | refine qw ?_ | refine z0j ?_ | refine z0l ?_ | refine qi ?_ | refine qg (h := ?_) | refine qx (h := ?_) | refine qy (h := ?_) | refine qa ?_ | refine qc ?_ | refine ql ?_ | refine qp ?_ | refine z0a ?_ | rfl
       | (with_reducible first | refine ok_lt ?_ ?_ | refine ok_le ?_ ?_ | refine z0h ?_ ?_ | refine z0k ?_ ?_ | refine z0m ?_ ?_ | refine qu ?_ ?_ | refine ok_if ?_ ?_) <;> intro _ <;> try (exfalso; omega))) (fun i hi => ok_is (by
     have hm := List.getElem_mem hi
     have hE := z1jy l[i] del
     unfold z2f zao
     dsimp only
     repeat' first
       | (dsimp only [Int.toNat_natCast, List.length_nil])
       | ((with_reducible refine ok_eq hE ?_))
       | with_reducible first | refine z0f ?_ | refine z0g ?_ | refine z0d ?_ | refine z0e ?_ | refine z0b ?_ | refine z0i ?_ | refine qs ?_ | refine qb ?_ | refine z0n ?_ | refine qw ?_ | refine z0j ?_ | refine z0l ?_ | refine qi ?_ | refine qg (h := ?_) | refine qx (h := ?_) | refine qy (h := ?_) | refine qa ?_ | refine qc ?_ | refine ql ?_ | refine qp ?_ | refine z0a ?_ | rfl
       | (with_reducible first | refine ok_lt ?_ ?_ | refine ok_le ?_ ?_ | refine z0h ?_ ?_ | refine z0k ?_ ?_ | refine z0m ?_ ?_ | refine qu ?_ ?_ | refine ok_if ?_ ?_) <;> intro _ <;> try (exfalso; omega)
     all_goals first
       | (rename_i e; rw [e]; rfl)
       | (rename_i e; rw [e, z0s (by omega)]; rfl)))
 unfold zdm
 refine zaw (by omega) (z0a (z8i key ?_))
 rintro x (⟨rfl, h⟩ | ⟨i, h, rfl, h1, h2⟩)
 · repeat' first
     | (dsimp only [Int.toNat_natCast, List.length_nil])
     | with_reducible first | refine z0f ?_ | refine z0g ?_ | refine z0d ?_ | refine z0e ?_ | refine z0b ?_ | refine z0i ?_ | refine qs ?_ | refine qb ?_ | refine z0n ?_ | refine qw ?_ | refine z0j ?_ | refine z0l ?_ | refine qi ?_ | refine qg (h := ?_) | refine qx (h := ?_) | refine qy (h := ?_) | refine qa ?_ | refine qc ?_ | refine ql ?_ | refine qp ?_ | refine z0a ?_ | rfl
     | (with_reducible first | refine ok_lt ?_ ?_ | refine ok_le ?_ ?_ | refine z0h ?_ ?_ | refine z0k ?_ ?_ | refine z0m ?_ ?_ | refine qu ?_ ?_ | refine ok_if ?_ ?_) <;> intro _ <;> try (exfalso; omega)
   exact .inl ⟨rfl, h⟩
 · repeat' first
     | (dsimp only [Int.toNat_natCast, List.length_nil])
     | with_reducible first | refine z0f ?_ | refine z0g ?_ | refine z0d ?_ | refine z0e ?_ | refine z0b ?_ | refine z0i ?_ | refine qs ?_ | refine qb ?_ | refine z0n ?_ | refine qw ?_ | refine z0j ?_ | refine z0l ?_ | refine qi ?_ | refine qg (h := ?_) | refine qx (h := ?_) | refine qy (h := ?_) | refine qa ?_ | refine qc ?_ | refine ql ?_ | refine qp ?_ | refine z0a ?_ | rfl
     | (with_reducible first | refine ok_lt ?_ ?_ | refine ok_le ?_ ?_ | refine z0h ?_ ?_ | refine z0k ?_ ?_ | refine z0m ?_ ?_ | refine qu ?_ ?_ | refine ok_if ?_ ?_) <;> intro _ <;> try (exfalso; omega)
   exact .inr ⟨i, h, rfl, h1, h2⟩
theorem z1aj {α : Type} {p : α → Bool} {l : List α} {r : Int} (h : (r = -1 ∧ l.any p = false) ∨ ∃ i, ∃ h : i < l.length, r = (i : Int) ∧ p l[i] = true ∧ (l.take i).any p = false) : leI 0 r = l.any p := by
 rcases h with ⟨rfl, h⟩ | ⟨i, h, rfl, h1, _⟩
 · rw [h]; rfl
 · rw [leI_t (by omega), Eq.comm, List.any_eq_true]
   exact ⟨_, List.getElem_mem h, h1⟩
def z1jf (l : List T3) (seen : List Int) : Bool := (zhr l).any fun x => !hasV seen x.1
theorem z1ki (l : List T3) : (zhr l).length ≤ l.length := List.length_filter_le ..
theorem z1lr {l : List T3} {seen : List Int} (hl : l.length ≤ 2000) (hs : VecOk seen) : zix l seen = some (z1jf l seen) := by
 refine ok_is ?_
 have := z1ki l
 unfold zix zgv
 repeat' first
   | (dsimp only [Int.toNat_natCast, List.length_nil])
   | ((with_reducible refine ok_eq (z1ny hl) ?_))
   | ((with_reducible refine z4f (z1pf (show (zhr l).length ≤ 2000 by omega) hs) ?_); intro r hr)
   | with_reducible first | refine z0f ?_ | refine z0g ?_ | refine z0d ?_ | refine z0e ?_ | refine z0b ?_ | refine z0i ?_ | refine qs ?_ | refine qb ?_ | refine z0n ?_ | refine qw ?_ | refine z0j ?_ | refine z0l ?_ | refine qi ?_ | refine qg (h := ?_) | refine qx (h := ?_) | refine qy (h := ?_) | refine qa ?_ | refine qc ?_ | refine ql ?_ | refine qp ?_ | refine z0a ?_ | rfl
   | (with_reducible first | refine ok_lt ?_ ?_ | refine ok_le ?_ ?_ | refine z0h ?_ ?_ | refine z0k ?_ ?_ | refine z0m ?_ ?_ | refine qu ?_ ?_ | refine ok_if ?_ ?_) <;> intro _ <;> try (exfalso; omega)
 exact z1aj hr
def usesV (ents : List T2) (o : T4) : Bool := ents.any fun x : T2 => decide (x.2.2.2.1 = o.1) || decide (x.2.1 = o.1)
theorem z1qe {l : List T2} {o : T4} (hl : l.length ≤ 2000) : zbm l o = some (usesV l o) := by
 refine ok_is ?_
 unfold zbm
 repeat' first
   | (dsimp only [Int.toNat_natCast, List.length_nil])
   | ((with_reducible refine z4f (z1qd hl) ?_); intro r hr)
   | with_reducible first | refine z0f ?_ | refine z0g ?_ | refine z0d ?_ | refine z0e ?_ | refine z0b ?_ | refine z0i ?_ | refine qs ?_ | refine qb ?_ | refine z0n ?_ | refine qw ?_ | refine z0j ?_ | refine z0l ?_ | refine qi ?_ | refine qg (h := ?_) | refine qx (h := ?_) | refine qy (h := ?_) | refine qa ?_ | refine qc ?_ | refine ql ?_ | refine qp ?_ | refine z0a ?_ | rfl
   | (with_reducible first | refine ok_lt ?_ ?_ | refine ok_le ?_ ?_ | refine z0h ?_ ?_ | refine z0k ?_ ?_ | refine z0m ?_ ?_ | refine qu ?_ ?_ | refine ok_if ?_ ?_) <;> intro _ <;> try (exfalso; omega)
 exact z1aj hr
def z8h (ents : List T2) (o : T4) (base : List Int) : Bool :=
 !hasV base o.1 || (!leqV o.2.2.2.2.1 base || (z1jf o.2.2.2.2.2 o.2.2.2.2.1 || (o.2.2.2.2.2.any (fun v => !hasV base v.1) || usesV ents o)))
structure SmO (o : T4) : Prop where
 seen : VecOk o.2.2.2.2.1
 len : o.2.2.2.2.2.length ≤ 1000
 vers : ∀ v, v ∈ o.2.2.2.2.2 → VecOk v.2.2
theorem z1e5 {t : T5} {o : T4} {base : List Int} (ht : t.2.2.1.length ≤ 1000) (ho : SmO o) (hb : VecOk base) : zhp t o base = some (z8h t.2.2.1 o base) := by
 refine ok_is ?_
 have hlen := ho.len
 have key := z12s z2n o.2.2.2.2.2 (fun i => (o.2.2.2.2.2, (o.2.2.2.2.2.length : Int), (i : Int), t, o, base)) (fun v => !hasV base v.1) (.inr true) (.inl (t, o))
   (ok_is (by
     unfold z2n zcj
     dsimp only
     repeat' first
       | (dsimp only [Int.toNat_natCast, List.length_nil])
       | with_reducible first | refine z0f ?_ | refine z0g ?_ | refine z0d ?_ | refine z0e ?_ | refine z0b ?_ | refine z0i ?_ | refine qs ?_ | refine qb ?_ | refine z0n ?_ | refine qw ?_ | refine z0j ?_ | refine z0l ?_ | refine qi ?_ | refine qg (h := ?_) | refine qx (h := ?_) | refine qy (h := ?_) | refine qa ?_ | refine qc ?_ | refine ql ?_ | refine qp ?_ | refine z0a ?_ | rfl
       | (with_reducible first | refine ok_lt ?_ ?_ | refine ok_le ?_ ?_ | refine z0h ?_ ?_ | refine z0k ?_ ?_ | refine z0m ?_ ?_ | refine qu ?_ ?_ | refine ok_if ?_ ?_) <;> intro _ <;> try (exfalso; omega))) (fun i hi => ok_is (by
     unfold z2n zcj
     dsimp only
     repeat' first
       | (dsimp only [Int.toNat_natCast, List.length_nil])
       | ((with_reducible refine ok_eq (z1dc hb _) ?_))
       | with_reducible first | refine z0f ?_ | refine z0g ?_ | refine z0d ?_ | refine z0e ?_ | refine z0b ?_ | refine z0i ?_ | refine qs ?_ | refine qb ?_ | refine z0n ?_ | refine qw ?_ | refine z0j ?_ | refine z0l ?_ | refine qi ?_ | refine qg (h := ?_) | refine qx (h := ?_) | refine qy (h := ?_) | refine qa ?_ | refine qc ?_ | refine ql ?_ | refine qp ?_ | refine z0a ?_ | rfl
       | (with_reducible first | refine ok_lt ?_ ?_ | refine ok_le ?_ ?_ | refine z0h ?_ ?_ | refine z0k ?_ ?_ | refine z0m ?_ ?_ | refine qu ?_ ?_ | refine ok_if ?_ ?_) <;> intro _ <;> try (exfalso; omega)
     all_goals first
       | (rename_i e; rw [e, z0s (by omega)]; rfl)
       | (rename_i e; rw [e]; rfl)))
 unfold zhp z8h
 repeat' first
   | (dsimp only [Int.toNat_natCast, List.length_nil])
   | ((with_reducible refine ok_eq (z1dc hb _) ?_))
   | ((with_reducible refine ok_eq (z1d8 ho.seen hb) ?_))
   | ((with_reducible refine ok_eq (z1lr (by omega) ho.seen) ?_))
   | ((with_reducible refine ok_eq key (z1fv (fun e => ?_) fun e => ?_)))
   | ((with_reducible refine ok_eq (z1qe (by omega)) ?_))
   | with_reducible first | refine z0f ?_ | refine z0g ?_ | refine z0d ?_ | refine z0e ?_ | refine z0b ?_ | refine z0i ?_ | refine qs ?_ | refine qb ?_ | refine z0n ?_ | refine qw ?_ | refine z0j ?_ | refine z0l ?_ | refine qi ?_ | refine qg (h := ?_) | refine qx (h := ?_) | refine qy (h := ?_) | refine qa ?_ | refine qc ?_ | refine ql ?_ | refine qp ?_ | refine z0a ?_ | rfl
   | (with_reducible first | refine ok_lt ?_ ?_ | refine ok_le ?_ ?_ | refine z0h ?_ ?_ | refine z0k ?_ ?_ | refine z0m ?_ ?_ | refine qu ?_ ?_ | refine ok_if ?_ ?_) <;> intro _ <;> try (exfalso; omega)
 all_goals simp only [*, Bool.not_true, Bool.not_false, Bool.false_or, Bool.true_or]
end Go.Proofs.Ytfbdjicfkcklfaa
set_option maxRecDepth 100000
set_option linter.unusedSimpArgs false
set_option linter.unusedVariables false
namespace Go.Proofs.Ytfbdjicfkcklfaa
open Go.Tm Go.Ab
theorem z17c (x : T4) (k : List Int) (os : List T4) (es : List T2) (w : List Int) (r : List Bool) (base : List Int) (he : es.length ≤ 1000) (hx : SmO x) (hb : VecOk base) : ze3 x k os es w r base = some (!z8h es x base) := by
 unfold ze3
 rw [z1e5 (t := (k, os, es, w, r)) he hx hb]; rfl
theorem z1qn {l : List T4} {k : List Int} {os : List T4} {es : List T2} {w : List Int} {rt : List Bool} {base : List Int} (hl : l.length ≤ 2000) (he : es.length ≤ 1000) (hx : ∀ x, x ∈ l → SmO x) (hb : VecOk base) : Ok (ze2 l k os es w rt base) fun r => (r = -1 ∧ l.any (fun x : T4 => !z8h es x base) = false) ∨ ∃ i, ∃ h : i < l.length, r = (i : Int) ∧ (fun x : T4 => !z8h es x base) l[i] = true ∧ (l.take i).any (fun x : T4 => !z8h es x base) = false := by
 have key := ztq z2c l (fun i => (l, k, os, es, w, rt, base, (l.length : Int), (i : Int))) (fun x : T4 => !z8h es x base) (fun i => .inr (i : Int)) (.inl ())
   (ok_is (by
     unfold z2c zas
     dsimp only
     repeat' first
       | (dsimp only [Int.toNat_natCast, List.length_nil])
       | with_reducible first | refine z0f ?_ | refine z0g ?_ | refine z0d ?_ | refine z0e ?_ | refine z0b ?_ | refine z0i ?_ | refine qs ?_ | refine qb ?_ | refine z0n ?_ | refine qw ?_ | refine z0j ?_ | refine z0l ?_ | refine qi ?_ | refine qg (h := ?_) | refine qx (h := ?_) | refine qy (h := ?_) | refine qa ?_ | refine qc ?_ | refine ql ?_ | refine qp ?_ | refine z0a ?_ | rfl
       | (with_reducible first | refine ok_lt ?_ ?_ | refine ok_le ?_ ?_ | refine z0h ?_ ?_ | refine z0k ?_ ?_ | refine z0m ?_ ?_ | refine qu ?_ ?_ | refine ok_if ?_ ?_) <;> intro _ <;> try (exfalso; omega))) (fun i hi => ok_is (by
     have hm := List.getElem_mem hi
     have hE := z17c l[i] k os es w rt base he (hx _ hm) hb
     unfold z2c zas
     dsimp only
     repeat' first
       | (dsimp only [Int.toNat_natCast, List.length_nil])
       | ((with_reducible refine ok_eq hE ?_))
       | with_reducible first | refine z0f ?_ | refine z0g ?_ | refine z0d ?_ | refine z0e ?_ | refine z0b ?_ | refine z0i ?_ | refine qs ?_ | refine qb ?_ | refine z0n ?_ | refine qw ?_ | refine z0j ?_ | refine z0l ?_ | refine qi ?_ | refine qg (h := ?_) | refine qx (h := ?_) | refine qy (h := ?_) | refine qa ?_ | refine qc ?_ | refine ql ?_ | refine qp ?_ | refine z0a ?_ | rfl
       | (with_reducible first | refine ok_lt ?_ ?_ | refine ok_le ?_ ?_ | refine z0h ?_ ?_ | refine z0k ?_ ?_ | refine z0m ?_ ?_ | refine qu ?_ ?_ | refine ok_if ?_ ?_) <;> intro _ <;> try (exfalso; omega)
     all_goals first
       | (rename_i e; rw [e]; rfl)
       | (rename_i e; rw [e, z0s (by omega)]; rfl)))
 unfold ze2
 refine zaw (by omega) (z0a (z8i key ?_))
 rintro x (⟨rfl, h⟩ | ⟨i, h, rfl, h1, h2⟩)
 · repeat' first
     | (dsimp only [Int.toNat_natCast, List.length_nil])
     | with_reducible first | refine z0f ?_ | refine z0g ?_ | refine z0d ?_ | refine z0e ?_ | refine z0b ?_ | refine z0i ?_ | refine qs ?_ | refine qb ?_ | refine z0n ?_ | refine qw ?_ | refine z0j ?_ | refine z0l ?_ | refine qi ?_ | refine qg (h := ?_) | refine qx (h := ?_) | refine qy (h := ?_) | refine qa ?_ | refine qc ?_ | refine ql ?_ | refine qp ?_ | refine z0a ?_ | rfl
     | (with_reducible first | refine ok_lt ?_ ?_ | refine ok_le ?_ ?_ | refine z0h ?_ ?_ | refine z0k ?_ ?_ | refine z0m ?_ ?_ | refine qu ?_ ?_ | refine ok_if ?_ ?_) <;> intro _ <;> try (exfalso; omega)
   exact .inl ⟨rfl, h⟩
 · repeat' first
     | (dsimp only [Int.toNat_natCast, List.length_nil])
     | with_reducible first | refine z0f ?_ | refine z0g ?_ | refine z0d ?_ | refine z0e ?_ | refine z0b ?_ | refine z0i ?_ | refine qs ?_ | refine qb ?_ | refine z0n ?_ | refine qw ?_ | refine z0j ?_ | refine z0l ?_ | refine qi ?_ | refine qg (h := ?_) | refine qx (h := ?_) | refine qy (h := ?_) | refine qa ?_ | refine qc ?_ | refine ql ?_ | refine qp ?_ | refine z0a ?_ | rfl
     | (with_reducible first | refine ok_lt ?_ ?_ | refine ok_le ?_ ?_ | refine z0h ?_ ?_ | refine z0k ?_ ?_ | refine z0m ?_ ?_ | refine qu ?_ ?_ | refine ok_if ?_ ?_) <;> intro _ <;> try (exfalso; omega)
   exact .inr ⟨i, h, rfl, h1, h2⟩
theorem z1pv {l : List T4} {m : Nat} {k : List Int} {es : List T2} {w : List Int} {rt : List Bool} {base : List Int} (hl : l.length ≤ 1000) (hm0 : m ≤ es.length) (he : es.length ≤ 1000) (hx : ∀ x, x ∈ l → SmO x) (hb : VecOk base) :
   Ok (zcx l k (List.replicate m true) w rt base es) fun r => ∃ n t, r = (List.replicate n true, t, k, List.replicate m true, w, rt, base, es) ∧ DelOk (fun x : T4 => !z8h (es.take m) x base) l n t := by
 have he' : (es.take m).length ≤ 1000 := by simp; omega
 unfold zcx
 repeat' first
   | (dsimp only [Int.toNat_natCast, List.length_nil])
   | (simp only [z9e, List.drop_zero])
   | ((with_reducible refine z4f (z1qn (by omega) he' hx hb) ?_); intro r hr)
   | with_reducible first | refine z0f ?_ | refine z0g ?_ | refine z0d ?_ | refine z0e ?_ | refine z0b ?_ | refine z0i ?_ | refine qs ?_ | refine qb ?_ | refine z0n ?_ | refine qw ?_ | refine z0j ?_ | refine z0l ?_ | refine qi ?_ | refine qg (h := ?_) | refine qx (h := ?_) | refine qy (h := ?_) | refine qa ?_ | refine qc ?_ | refine ql ?_ | refine qp ?_ | refine z0a ?_ | rfl
   | (with_reducible first | refine ok_lt ?_ ?_ | refine ok_le ?_ ?_ | refine z0h ?_ ?_ | refine z0k ?_ ?_ | refine z0m ?_ ?_ | refine qu ?_ ?_ | refine ok_if ?_ ?_) <;> intro _ <;> try (exfalso; omega)
 · rename_i e
   rcases hr with ⟨rfl, h⟩ | ⟨i, h, rfl, h1, h2⟩
   · exact ⟨_, _, rfl, zyt h⟩
   · omega
 all_goals
   rename_i e
   rcases hr with ⟨rfl, h⟩ | ⟨i0, h, rfl, h1, h2⟩
   · omega
   rw [z0s (by omega)]
   have key := z19n z1m l (fun i j t => (i, j, t, k, List.replicate m true, w, rt, base, es)) (fun i t => (i, t, k, List.replicate m true, w, rt, base, es)) (fun x : T4 => !z8h (es.take m) x base)
     (fun i t ht hi => ok_is (by
       unfold z1m z8j
       dsimp only
       repeat' first
         | (dsimp only [Int.toNat_natCast, List.length_nil])
         | (simp only [z9e])
         | with_reducible first | refine z0f ?_ | refine z0g ?_ | refine z0d ?_ | refine z0e ?_ | refine z0b ?_ | refine z0i ?_ | refine qs ?_ | refine qb ?_ | refine z0n ?_ | refine qw ?_ | refine z0j ?_ | refine z0l ?_ | refine qi ?_ | refine qg (h := ?_) | refine qx (h := ?_) | refine qy (h := ?_) | refine qa ?_ | refine qc ?_ | refine ql ?_ | refine qp ?_ | refine z0a ?_ | rfl
         | (with_reducible first | refine ok_lt ?_ ?_ | refine ok_le ?_ ?_ | refine z0h ?_ ?_ | refine z0k ?_ ?_ | refine z0m ?_ ?_ | refine qu ?_ ?_ | refine ok_if ?_ ?_) <;> intro _ <;> try (exfalso; omega))) (fun i j t ht hi hj e => ok_is (by
       have hm := List.getElem_mem hj
       have hE := fun os => z17c l[j] k os (es.take m) w rt base he' (hx _ hm) hb
       unfold z1m z8j
       dsimp only
       repeat' first
         | (dsimp only [Int.toNat_natCast, List.length_nil])
         | (simp only [z9e, List.drop_zero])
         | (rw [e])
         | ((with_reducible refine ok_eq (hE _) ?_))
         | with_reducible first | refine z0f ?_ | refine z0g ?_ | refine z0d ?_ | refine z0e ?_ | refine z0b ?_ | refine z0i ?_ | refine qs ?_ | refine qb ?_ | refine z0n ?_ | refine qw ?_ | refine z0j ?_ | refine z0l ?_ | refine qi ?_ | refine qg (h := ?_) | refine qx (h := ?_) | refine qy (h := ?_) | refine qa ?_ | refine qc ?_ | refine ql ?_ | refine qp ?_ | refine z0a ?_ | rfl
         | (with_reducible first | refine ok_lt ?_ ?_ | refine ok_le ?_ ?_ | refine z0h ?_ ?_ | refine z0k ?_ ?_ | refine z0m ?_ ?_ | refine qu ?_ ?_ | refine ok_if ?_ ?_) <;> intro _ <;> try (exfalso; omega)
       all_goals first
         | (rename_i e; rw [e, z0s (by omega)]; rfl)
         | (rename_i e; rw [e, z0s (by omega), z0s (by omega)]; rfl))) i0 h h1 h2
   refine z8i key ?_
   rintro _ ⟨i, t, rfl, g1, g2, g3⟩
   have hb : addN i (t.length - i) ≤ t.length := by rw [zgr]; omega
   repeat' first
     | (dsimp only [Int.toNat_natCast, List.length_nil])
     | (simp only [z9e])
     | ((with_reducible refine zmc (by rw [zxk (by omega) (by simp)]) ?_))
     | ((with_reducible refine z1ar hb ?_))
     | with_reducible first | refine z0f ?_ | refine z0g ?_ | refine z0d ?_ | refine z0e ?_ | refine z0b ?_ | refine z0i ?_ | refine qs ?_ | refine qb ?_ | refine z0n ?_ | refine qw ?_ | refine z0j ?_ | refine z0l ?_ | refine qi ?_ | refine qg (h := ?_) | refine qx (h := ?_) | refine qy (h := ?_) | refine qa ?_ | refine qc ?_ | refine ql ?_ | refine qp ?_ | refine z0a ?_ | rfl
     | (with_reducible first | refine ok_lt ?_ ?_ | refine ok_le ?_ ?_ | refine z0h ?_ ?_ | refine z0k ?_ ?_ | refine z0m ?_ ?_ | refine qu ?_ ?_ | refine ok_if ?_ ?_) <;> intro _ <;> try (exfalso; omega)
   exact ⟨i, _, rfl, z14d g1 g2 g3 (by simp)⟩
structure Sm (s : T5) : Prop where
 known : VecOk s.1
 olen : s.2.1.length ≤ 1000
 obj : ∀ o, o ∈ s.2.1 → SmO o
 elen : s.2.2.1.length ≤ 1000
 ent : ∀ x, x ∈ s.2.2.1 → VecOk x.2.2.2.2
theorem z1o0 {s : T5} (h : Sm s) : zkt s = some (s.1, s.2.2.2.1, s.2.2.2.2, s.2.1, s.2.2.1) := by
 have h1 := h.olen
 have h2 := h.elen
 refine ok_is ?_
 unfold zkt
 refine ok_eq (z1mq (by omega)) ?_
 repeat' first
   | (dsimp only [Int.toNat_natCast, List.length_nil])
   | with_reducible first | refine z0f ?_ | refine z0g ?_ | refine z0d ?_ | refine z0e ?_ | refine z0b ?_ | refine z0i ?_ | refine qs ?_ | refine qb ?_ | refine z0n ?_ | refine qw ?_ | refine z0j ?_ | refine z0l ?_ | refine qi ?_ | refine qg (h := ?_) | refine qx (h := ?_) | refine qy (h := ?_) | refine qa ?_ | refine qc ?_ | refine ql ?_ | refine qp ?_ | refine z0a ?_ | rfl
   | (with_reducible first | refine ok_lt ?_ ?_ | refine ok_le ?_ ?_ | refine z0h ?_ ?_ | refine z0k ?_ ?_ | refine z0m ?_ ?_ | refine qu ?_ ?_ | refine ok_if ?_ ?_) <;> intro _ <;> try (exfalso; omega)
 refine z1y s.2.1.length (fun i (_ : Unit) => (s.2.1, (s.2.1.length : Int), (i : Int), List.replicate 8 (0 : Int), List.replicate 8 (0 : Int), List.replicate 8 false, s.1, s.2.2.2.1, s.2.2.2.2, ([] : List T4), ([] : List T2), s.2.1.take i, s.2.2.1)) (fun _ _ => True) () rfl trivial (fun _ _ => ?_) fun i _ hi _ => ?_
 · unfold z2j zaa
   dsimp only
   repeat' first
     | (dsimp only [Int.toNat_natCast, List.length_nil])
     | with_reducible first | refine z0f ?_ | refine z0g ?_ | refine z0d ?_ | refine z0e ?_ | refine z0b ?_ | refine z0i ?_ | refine qs ?_ | refine qb ?_ | refine z0n ?_ | refine qw ?_ | refine z0j ?_ | refine z0l ?_ | refine qi ?_ | refine qg (h := ?_) | refine qx (h := ?_) | refine qy (h := ?_) | refine qa ?_ | refine qc ?_ | refine ql ?_ | refine qp ?_ | refine z0a ?_ | rfl
     | (with_reducible first | refine ok_lt ?_ ?_ | refine ok_le ?_ ?_ | refine z0h ?_ ?_ | refine z0k ?_ ?_ | refine z0m ?_ ?_ | refine qu ?_ ?_ | refine ok_if ?_ ?_) <;> intro _ <;> try (exfalso; omega)
   rw [List.take_length]
 · unfold z2j zaa
   dsimp only
   have hv := (h.obj _ (List.getElem_mem hi)).len
   repeat' first
     | (dsimp only [Int.toNat_natCast, List.length_nil])
     | ((with_reducible refine ok_eq (z1ec (by omega)) ?_))
     | with_reducible first | refine z0f ?_ | refine z0g ?_ | refine z0d ?_ | refine z0e ?_ | refine z0b ?_ | refine z0i ?_ | refine qs ?_ | refine qb ?_ | refine z0n ?_ | refine qw ?_ | refine z0j ?_ | refine z0l ?_ | refine qi ?_ | refine qg (h := ?_) | refine qx (h := ?_) | refine qy (h := ?_) | refine qa ?_ | refine qc ?_ | refine ql ?_ | refine qp ?_ | refine z0a ?_ | rfl
     | (with_reducible first | refine ok_lt ?_ ?_ | refine ok_le ?_ ?_ | refine z0h ?_ ?_ | refine z0k ?_ ?_ | refine z0m ?_ ?_ | refine qu ?_ ?_ | refine ok_if ?_ ?_) <;> intro _ <;> try (exfalso; omega)
   exact ⟨(), by rw [z0s (by omega), List.take_succ_eq_append_getElem hi]; rfl, trivial⟩
def zg9 {α : Type} (f : α → α) (l : List α) (i : Nat) : List α := (l.take i).map f ++ l.drop i
theorem z1l3 {α : Type} (f : α → α) (l : List α) (i : Nat) : (zg9 f l i).length = l.length := by unfold zg9; simp; omega
theorem z1n3 {α : Type} (f : α → α) (l : List α) {i : Nat} (h : i < l.length) : (zg9 f l i)[i]? = some l[i] := by
 unfold zg9
 rw [List.getElem?_append_right (by simp; omega)]
 simp only [List.length_map, List.length_take, Nat.min_eq_left (Nat.le_of_lt h), Nat.sub_self, List.getElem?_drop, Nat.add_zero]
 exact List.getElem?_eq_getElem h
theorem z1kz {α : Type} (f : α → α) (l : List α) {i : Nat} (h : i < l.length) {y : α} (e : y = f l[i]) : (zg9 f l i).set i y = zg9 f l (i + 1) := by
 subst e
 unfold zg9
 rw [List.set_append_right _ _ (by simp; omega)]
 simp only [List.length_map, List.length_take, Nat.min_eq_left (Nat.le_of_lt h), Nat.sub_self]
 rw [List.drop_eq_getElem_cons h, List.set_cons_zero, List.take_succ_eq_append_getElem h, List.map_append, List.append_assoc]; rfl
theorem z1ir {α : Type} (f : α → α) (l : List α) : zg9 f l 0 = l := by unfold zg9; simp
theorem z1k7 {α : Type} (f : α → α) (l : List α) : zg9 f l l.length = l.map f := by unfold zg9; simp
def zpl (base : List Int) (o : T4) : T4 := (o.1, o.2.1, o.2.2.1, o.2.2.2.1, o.2.2.2.2.1, z14m o.2.2.2.2.2 base)
def zod (s : T5) (base : List Int) : T5 :=
 (s.1, (s.2.1.map (zpl base)).filter (fun o => z8h (z1a1 s.2.2.1 base) o base), z1a1 s.2.2.1 base, s.2.2.2.1, s.2.2.2.2)
theorem z1kh (l : List T3) (base : List Int) : (z14m l base).length ≤ l.length := List.length_filter_le ..
theorem z1mc {o : T4} (h : SmO o) (base : List Int) : SmO (zpl base o) :=
 ⟨h.seen, Nat.le_trans (z1kh _ _) h.len, fun v hv => h.vers v (List.mem_filter.1 hv).1⟩
theorem z1bd {s : T5} {base : List Int} (h : Sm s) (hb : VecOk base) : zge s base = some (zod s base) := by
 have h1 := h.olen
 have h2 := h.elen
 refine ok_is ?_
 unfold zge
 refine ok_eq (z1o0 h) ?_
 dsimp only
 refine zmc rfl (z4f (z1lt (by omega) hb h.ent) ?_)
 rintro _ ⟨m, es, rfl, g1, g2, g3⟩
 repeat' first
   | (dsimp only [Int.toNat_natCast, List.length_nil])
   | (simp only [z9e])
   | with_reducible first | refine z0f ?_ | refine z0g ?_ | refine z0d ?_ | refine z0e ?_ | refine z0b ?_ | refine z0i ?_ | refine qs ?_ | refine qb ?_ | refine z0n ?_ | refine qw ?_ | refine z0j ?_ | refine z0l ?_ | refine qi ?_ | refine qg (h := ?_) | refine qx (h := ?_) | refine qy (h := ?_) | refine qa ?_ | refine qc ?_ | refine ql ?_ | refine qp ?_ | refine z0a ?_ | rfl
   | (with_reducible first | refine ok_lt ?_ ?_ | refine ok_le ?_ ?_ | refine z0h ?_ ?_ | refine z0k ?_ ?_ | refine z0m ?_ ?_ | refine qu ?_ ?_ | refine ok_if ?_ ?_) <;> intro _ <;> try (exfalso; omega)
 refine z1y s.2.1.length (fun i (_ : Unit) => ((s.2.1.length : Int), (i : Int), base, List.replicate 8 (0 : Int), List.replicate 8 (0 : Int), List.replicate 8 false, s.1, List.replicate m true, s.2.2.2.1, s.2.2.2.2, ([] : List T4), ([] : List T2), zg9 (zpl base) s.2.1 i, es)) (fun _ _ => True) () (by rw [z1ir]; rfl) trivial (fun _ _ => ?_) fun i _ hi _ => ?_
 · unfold z2p zbf
   dsimp only
   rw [z1k7]
   have ho : ∀ x, x ∈ s.2.1.map (zpl base) → SmO x := fun x hx => by
     simp only [List.mem_map] at hx
     obtain ⟨y, hy, rfl⟩ := hx
     exact z1mc (h.obj y hy) base
   have hol : (s.2.1.map (zpl base)).length ≤ 1000 := by rw [List.length_map]; exact h1
   repeat' first
     | (dsimp only [Int.toNat_natCast, List.length_nil])
     | (simp only [z9e])
     | ((with_reducible refine z4f (z1pv hol g1 (by omega) ho hb) ?_); rintro _ ⟨n, t, rfl, k1, k2, k3⟩)
     | with_reducible first | refine z0f ?_ | refine z0g ?_ | refine z0d ?_ | refine z0e ?_ | refine z0b ?_ | refine z0i ?_ | refine qs ?_ | refine qb ?_ | refine z0n ?_ | refine qw ?_ | refine z0j ?_ | refine z0l ?_ | refine qi ?_ | refine qg (h := ?_) | refine qx (h := ?_) | refine qy (h := ?_) | refine qa ?_ | refine qc ?_ | refine ql ?_ | refine qp ?_ | refine z0a ?_ | rfl
     | (with_reducible first | refine ok_lt ?_ ?_ | refine ok_le ?_ ?_ | refine z0h ?_ ?_ | refine z0k ?_ ?_ | refine z0m ?_ ?_ | refine qu ?_ ?_ | refine ok_if ?_ ?_) <;> intro _ <;> try (exfalso; omega)
   unfold zod
   rw [List.drop_zero, List.drop_zero, k3, g3]
   simp only [Bool.not_not]
   rfl
 · unfold z2p zbf
   dsimp only
   have hv := h.obj _ (List.getElem_mem hi)
   have hlen := z1l3 (zpl base) s.2.1 i
   have hvl := hv.len
   repeat' first
     | (dsimp only [Int.toNat_natCast, List.length_nil])
     | (simp only [z9e])
     | ((with_reducible refine ok_eq (z1n3 _ _ hi) ?_))
     | ((with_reducible refine ok_eq (z1nc (by omega) hb hv.vers) ?_))
     | with_reducible first | refine z0f ?_ | refine z0g ?_ | refine z0d ?_ | refine z0e ?_ | refine z0b ?_ | refine z0i ?_ | refine qs ?_ | refine qb ?_ | refine z0n ?_ | refine qw ?_ | refine z0j ?_ | refine z0l ?_ | refine qi ?_ | refine qg (h := ?_) | refine qx (h := ?_) | refine qy (h := ?_) | refine qa ?_ | refine qc ?_ | refine ql ?_ | refine qp ?_ | refine z0a ?_ | rfl
     | (with_reducible first | refine ok_lt ?_ ?_ | refine ok_le ?_ ?_ | refine z0h ?_ ?_ | refine z0k ?_ ?_ | refine z0m ?_ ?_ | refine qu ?_ ?_ | refine ok_if ?_ ?_) <;> intro _ <;> try (exfalso; omega)
   exact ⟨(), by rw [z0s (by omega), z1kz _ _ hi (by rfl)]; rfl, trivial⟩
def cntO (es : List T2) (base : List Int) (o : T4) : Nat := List.countP (fun v : T3 => !z6y v.2.2) o.2.2.2.2.2 + if z8h es o base = true then 0 else 1
def deadV (s : T5) : Nat := List.countP (fun x : T2 => !z6y x.2.2.2.2) s.2.2.1 + (s.2.1.map (cntO s.2.2.1 s.1)).sum
theorem z1ge {α : Type} (p : α → Bool) (l : List α) {i : Nat} (h : i < l.length) : List.countP p (l.take (i + 1)) = List.countP p (l.take i) + if p l[i] = true then 1 else 0 := by
 rw [List.take_succ_eq_append_getElem h, List.countP_append, List.countP_singleton]
theorem z1lz {α : Type} (p : α → Bool) (l : List α) (i : Nat) : List.countP p (l.take i) ≤ l.length := Nat.le_trans List.countP_le_length (by simp; omega)
theorem z1o2 {α : Type} (f : α → Nat) (l : List α) {i : Nat} (h : i < l.length) : ((l.take (i + 1)).map f).sum = ((l.take i).map f).sum + f l[i] := by
 rw [List.take_succ_eq_append_getElem h, List.map_append, List.sum_append]; simp
theorem z1m3 {α : Type} (f : α → Nat) (c : Nat) : ∀ (l : List α), (∀ x, x ∈ l → f x ≤ c) → (l.map f).sum ≤ l.length * c
 | [], _ => by simp
 | a :: l, h => by
   have := z1m3 f c l fun x hx => h x (List.mem_cons_of_mem _ hx)
   have := h a (List.mem_cons_self ..)
   simp only [List.map_cons, List.sum_cons, List.length_cons, Nat.add_mul]; omega
theorem z1j7 (es : List T2) (base : List Int) {o : T4} (h : SmO o) : cntO es base o ≤ 1001 := by
 unfold cntO
 have := h.len
 have : List.countP (fun v : T3 => !z6y v.2.2) o.2.2.2.2.2 ≤ o.2.2.2.2.2.length := List.countP_le_length
 split <;> omega
theorem z1po {s : T5} (h : Sm s) (i : Nat) (hi : i ≤ s.2.1.length) : ((s.2.1.take i).map (cntO s.2.2.1 s.1)).sum ≤ 1001000 := by
 have := z1m3 (cntO s.2.2.1 s.1) 1001 (s.2.1.take i) fun x hx => z1j7 _ _ (h.obj x (List.mem_of_mem_take hx))
 have h1 := h.olen
 have : (s.2.1.take i).length * 1001 ≤ 1000 * 1001 := Nat.mul_le_mul_right _ (by simp; omega)
 omega
theorem z1q3 {s : T5} (h : Sm s) : zrm s = some (deadV s : Int) := by
 have h1 := h.olen
 have h2 := h.elen
 refine ok_is ?_
 have key : loopC z3j (0, s.2.2.1, (s.2.2.1.length : Int), 0, s) = some ((List.countP (fun x : T2 => !z6y x.2.2.2.2) s.2.2.1 : Int), s) := by
   refine ok_is (z1y s.2.2.1.length (fun i (_ : Unit) => ((List.countP (fun x : T2 => !z6y x.2.2.2.2) (s.2.2.1.take i) : Int), s.2.2.1, (s.2.2.1.length : Int), (i : Int), s)) (fun _ _ => True) () rfl trivial (fun _ _ => ?_) fun i _ hi _ => ?_)
   · unfold z3j zef
     dsimp only
     repeat' first
       | (dsimp only [Int.toNat_natCast, List.length_nil])
       | with_reducible first | refine z0f ?_ | refine z0g ?_ | refine z0d ?_ | refine z0e ?_ | refine z0b ?_ | refine z0i ?_ | refine qs ?_ | refine qb ?_ | refine z0n ?_ | refine qw ?_ | refine z0j ?_ | refine z0l ?_ | refine qi ?_ | refine qg (h := ?_) | refine qx (h := ?_) | refine qy (h := ?_) | refine qa ?_ | refine qc ?_ | refine ql ?_ | refine qp ?_ | refine z0a ?_ | rfl
       | (with_reducible first | refine ok_lt ?_ ?_ | refine ok_le ?_ ?_ | refine z0h ?_ ?_ | refine z0k ?_ ?_ | refine z0m ?_ ?_ | refine qu ?_ ?_ | refine ok_if ?_ ?_) <;> intro _ <;> try (exfalso; omega)
     rw [List.take_length]
   · unfold z3j zef
     dsimp only
     have hc := z1ge (fun x : T2 => !z6y x.2.2.2.2) s.2.2.1 hi
     have hb := z1lz (fun x : T2 => !z6y x.2.2.2.2) s.2.2.1 i
     repeat' first
       | (dsimp only [Int.toNat_natCast, List.length_nil])
       | ((with_reducible refine ok_eq (z1hn _) ?_))
       | with_reducible first | refine z0f ?_ | refine z0g ?_ | refine z0d ?_ | refine z0e ?_ | refine z0b ?_ | refine z0i ?_ | refine qs ?_ | refine qb ?_ | refine z0n ?_ | refine qw ?_ | refine z0j ?_ | refine z0l ?_ | refine qi ?_ | refine qg (h := ?_) | refine qx (h := ?_) | refine qy (h := ?_) | refine qa ?_ | refine qc ?_ | refine ql ?_ | refine qp ?_ | refine z0a ?_ | rfl
       | (with_reducible first | refine ok_lt ?_ ?_ | refine ok_le ?_ ?_ | refine z0h ?_ ?_ | refine z0k ?_ ?_ | refine z0m ?_ ?_ | refine qu ?_ ?_ | refine ok_if ?_ ?_) <;> intro _ <;> try (exfalso; omega)
     all_goals
       rename_i e
       rw [e] at hc
       exact ⟨(), by rw [hc]; first | (rw [z0s (by omega), z0s (by omega)]; rfl) | (rw [z0s (by omega)]; rfl), trivial⟩
 unfold zrm
 refine zaw (by omega) (ok_eq key ?_)
 dsimp only
 refine zaw (by omega) ?_
 have hE : List.countP (fun x : T2 => !z6y x.2.2.2.2) s.2.2.1 ≤ s.2.2.1.length := List.countP_le_length
 generalize hE0 : List.countP (fun x : T2 => !z6y x.2.2.2.2) s.2.2.1 = E0 at hE ⊢
 refine z0a (z1y s.2.1.length (fun i (_ : Unit) => (((E0 + ((s.2.1.take i).map (cntO s.2.2.1 s.1)).sum : Nat) : Int), s.2.1, (s.2.1.length : Int), (i : Int), s)) (fun _ _ => True) () (by simp) trivial (fun _ _ => ?_) fun i _ hi _ => ?_)
 · unfold z3m zcn
   dsimp only
   repeat' first
     | (dsimp only [Int.toNat_natCast, List.length_nil])
     | with_reducible first | refine z0f ?_ | refine z0g ?_ | refine z0d ?_ | refine z0e ?_ | refine z0b ?_ | refine z0i ?_ | refine qs ?_ | refine qb ?_ | refine z0n ?_ | refine qw ?_ | refine z0j ?_ | refine z0l ?_ | refine qi ?_ | refine qg (h := ?_) | refine qx (h := ?_) | refine qy (h := ?_) | refine qa ?_ | refine qc ?_ | refine ql ?_ | refine qp ?_ | refine z0a ?_ | rfl
     | (with_reducible first | refine ok_lt ?_ ?_ | refine ok_le ?_ ?_ | refine z0h ?_ ?_ | refine z0k ?_ ?_ | refine z0m ?_ ?_ | refine qu ?_ ?_ | refine ok_if ?_ ?_) <;> intro _ <;> try (exfalso; omega)
   unfold deadV
   rw [List.take_length, hE0]
 · unfold z3m zcn
   dsimp only
   have hv := h.obj _ (List.getElem_mem hi)
   have hv' := hv.len
   have hs := z1po h i (by omega)
   have hc := z1j7 s.2.2.1 s.1 hv
   have hst := z1o2 (cntO s.2.2.1 s.1) s.2.1 hi
   generalize hS : ((s.2.1.take i).map (cntO s.2.2.1 s.1)).sum = S at hs hst ⊢
   have key2 : loopC z1b (((E0 + S : Nat) : Int), s.2.1, (s.2.1.length : Int), (i : Int), s.2.1[i].2.2.2.2.2, (s.2.1[i].2.2.2.2.2.length : Int), 0, s, s.2.1[i]) = some (((E0 + S + List.countP (fun v : T3 => !z6y v.2.2) s.2.1[i].2.2.2.2.2 : Nat) : Int), s.2.1, (s.2.1.length : Int), (i : Int), s, s.2.1[i]) := by
     generalize s.2.1[i] = o at hv hv' hc ⊢
     refine ok_is (z1y o.2.2.2.2.2.length (fun k (_ : Unit) => (((E0 + S + List.countP (fun v : T3 => !z6y v.2.2) (o.2.2.2.2.2.take k) : Nat) : Int), s.2.1, (s.2.1.length : Int), (i : Int), o.2.2.2.2.2, (o.2.2.2.2.2.length : Int), (k : Int), s, o)) (fun _ _ => True) () rfl trivial (fun _ _ => ?_) fun k _ hk _ => ?_)
     · unfold z1b z4p
       dsimp only
       repeat' first
         | (dsimp only [Int.toNat_natCast, List.length_nil])
         | with_reducible first | refine z0f ?_ | refine z0g ?_ | refine z0d ?_ | refine z0e ?_ | refine z0b ?_ | refine z0i ?_ | refine qs ?_ | refine qb ?_ | refine z0n ?_ | refine qw ?_ | refine z0j ?_ | refine z0l ?_ | refine qi ?_ | refine qg (h := ?_) | refine qx (h := ?_) | refine qy (h := ?_) | refine qa ?_ | refine qc ?_ | refine ql ?_ | refine qp ?_ | refine z0a ?_ | rfl
         | (with_reducible first | refine ok_lt ?_ ?_ | refine ok_le ?_ ?_ | refine z0h ?_ ?_ | refine z0k ?_ ?_ | refine z0m ?_ ?_ | refine qu ?_ ?_ | refine ok_if ?_ ?_) <;> intro _ <;> try (exfalso; omega)
       rw [List.take_length]
     · unfold z1b z4p
       dsimp only
       have hc := z1ge (fun v : T3 => !z6y v.2.2) o.2.2.2.2.2 hk
       have hb := z1lz (fun v : T3 => !z6y v.2.2) o.2.2.2.2.2 k
       repeat' first
         | (dsimp only [Int.toNat_natCast, List.length_nil])
         | ((with_reducible refine ok_eq (z1j2 _) ?_))
         | with_reducible first | refine z0f ?_ | refine z0g ?_ | refine z0d ?_ | refine z0e ?_ | refine z0b ?_ | refine z0i ?_ | refine qs ?_ | refine qb ?_ | refine z0n ?_ | refine qw ?_ | refine z0j ?_ | refine z0l ?_ | refine qi ?_ | refine qg (h := ?_) | refine qx (h := ?_) | refine qy (h := ?_) | refine qa ?_ | refine qc ?_ | refine ql ?_ | refine qp ?_ | refine z0a ?_ | rfl
         | (with_reducible first | refine ok_lt ?_ ?_ | refine ok_le ?_ ?_ | refine z0h ?_ ?_ | refine z0k ?_ ?_ | refine z0m ?_ ?_ | refine qu ?_ ?_ | refine ok_if ?_ ?_) <;> intro _ <;> try (exfalso; omega)
       all_goals
         rename_i e
         rw [e] at hc
         exact ⟨(), by rw [hc]; first | (rw [z0s (by omega), z0s (by omega)]; rfl) | (rw [z0s (by omega)]; rfl), trivial⟩
   have hn : List.countP (fun v : T3 => !z6y v.2.2) s.2.1[i].2.2.2.2.2 ≤ s.2.1[i].2.2.2.2.2.length := List.countP_le_length
   have hcd : cntO s.2.2.1 s.1 s.2.1[i] = List.countP (fun v : T3 => !z6y v.2.2) s.2.1[i].2.2.2.2.2 + if z8h s.2.2.1 s.2.1[i] s.1 = true then 0 else 1 := rfl
   repeat' first
     | (dsimp only [Int.toNat_natCast, List.length_nil])
     | ((with_reducible refine ok_eq key2 ?_))
     | ((with_reducible refine ok_eq (z1e5 h.elen hv h.known) ?_))
     | with_reducible first | refine z0f ?_ | refine z0g ?_ | refine z0d ?_ | refine z0e ?_ | refine z0b ?_ | refine z0i ?_ | refine qs ?_ | refine qb ?_ | refine z0n ?_ | refine qw ?_ | refine z0j ?_ | refine z0l ?_ | refine qi ?_ | refine qg (h := ?_) | refine qx (h := ?_) | refine qy (h := ?_) | refine qa ?_ | refine qc ?_ | refine ql ?_ | refine qp ?_ | refine z0a ?_ | rfl
     | (with_reducible first | refine ok_lt ?_ ?_ | refine ok_le ?_ ?_ | refine z0h ?_ ?_ | refine z0k ?_ ?_ | refine z0m ?_ ?_ | refine qu ?_ ?_ | refine ok_if ?_ ?_) <;> intro _ <;> try (exfalso; omega)
   all_goals
     rename_i e
     rw [e] at hcd
     simp only [Bool.false_eq_true, if_true, if_false] at hcd
     refine ⟨(), ?_, trivial⟩
     rw [hst, hcd]
     simp only [← Nat.add_assoc, Nat.add_zero]
     first | (rw [z0s (by omega), z0s (by omega)]; rfl) | (rw [z0s (by omega)]; rfl)
end Go.Proofs.Ytfbdjicfkcklfaa