import Derived.Test.YtfbdjicfkcklfaaSwKtoO
import Derived.Test.YtfbdjicfkcklfaaSwA7toE
set_option maxRecDepth 100000
set_option maxHeartbeats 2000000
set_option linter.unusedSimpArgs false
set_option linter.unusedVariables false
namespace Go.Proofs.Ytfbdjicfkcklfaa
open Go.Tm Go.Ab
def mixV (Z a : List Int) (i : Nat) : List Int := Z.take i ++ a.drop i
theorem z1hs {Z a : List Int} (hZ : Z.length = 8) (ha : a.length = 8) {i : Nat} (hi : i ≤ 8) : (mixV Z a i).length = 8 := by unfold mixV; simp; omega
theorem z1jd {Z a : List Int} (hZ : Z.length = 8) (ha : a.length = 8) {i : Nat} (hi : i < 8) : (mixV Z a i)[i]? = some a[i] := by
 unfold mixV
 rw [List.getElem?_append_right (by simp; omega)]
 simp only [List.length_take, hZ, Nat.min_eq_left (Nat.le_of_lt hi), Nat.sub_self, List.getElem?_drop, Nat.add_zero]
 exact List.getElem?_eq_getElem (by omega)
theorem z1gd {Z a : List Int} (hZ : Z.length = 8) (ha : a.length = 8) {i : Nat} (hi : i < 8) {y : Int} (e : y = Z[i]) : (mixV Z a i).set i y = mixV Z a (i + 1) := by
 subst e
 unfold mixV
 rw [List.set_append_right _ _ (by simp; omega)]
 simp only [List.length_take, hZ, Nat.min_eq_left (Nat.le_of_lt hi), Nat.sub_self]
 rw [List.drop_eq_getElem_cons (show i < a.length by omega), List.set_cons_zero, List.take_succ_eq_append_getElem (show i < Z.length by omega), List.append_assoc]; rfl
theorem z1g7 {Z a : List Int} (hZ : Z.length = 8) (ha : a.length = 8) : mixV Z a 8 = Z := by unfold mixV; rw [List.take_of_length_le (by omega), List.drop_eq_nil_of_le (by omega), List.append_nil]
def meetV (a b : List Int) : List Int := List.zipWith (fun x y => minI x y) a b
theorem z18w {a b : List Int} (ha : VecOk a) (hb : VecOk b) : VecOk (meetV a b) := by unfold VecOk meetV at *; simp [ha, hb]
theorem z1q2 {a b : List Int} (ha : VecOk a) (hb : VecOk b) : zyn a b = some (meetV a b) := by
 refine ok_is ?_
 have hm := z18w ha hb
 unfold VecOk at ha hb hm
 unfold zyn
 refine z0a (z1y 8 (fun i (_ : Unit) => (b, (i : Int), mixV (meetV a b) a i, List.replicate 8 (0 : Int))) (fun _ _ => True) () (by unfold mixV; simp) trivial (fun _ _ => ?_) fun i _ hi _ => ?_)
 · unfold z6p zih
   dsimp only
   repeat' first
     | (dsimp only [Int.toNat_natCast, List.length_nil])
     | with_reducible first | refine z0f ?_ | refine z0g ?_ | refine z0d ?_ | refine z0e ?_ | refine z0b ?_ | refine z0i ?_ | refine qs ?_ | refine qb ?_ | refine z0n ?_ | refine qw ?_ | refine z0j ?_ | refine z0l ?_ | refine qi ?_ | refine qg (h := ?_) | refine qx (h := ?_) | refine qy (h := ?_) | refine qa ?_ | refine qc ?_ | refine ql ?_ | refine qp ?_ | refine z0a ?_ | rfl
     | (with_reducible first | refine ok_lt ?_ ?_ | refine ok_le ?_ ?_ | refine z0h ?_ ?_ | refine z0k ?_ ?_ | refine z0m ?_ ?_ | refine qu ?_ ?_ | refine ok_if ?_ ?_) <;> intro _ <;> try (exfalso; omega)
   exact z1g7 hm ha
 · unfold z6p zih
   dsimp only
   have hl := z1hs hm ha (i := i) (by omega)
   have hat := z1jd hm ha hi
   repeat' first
     | (dsimp only [Int.toNat_natCast, List.length_nil])
     | ((with_reducible refine ok_eq hat ?_))
     | with_reducible first | refine z0f ?_ | refine z0g ?_ | refine z0d ?_ | refine z0e ?_ | refine z0b ?_ | refine z0i ?_ | refine qs ?_ | refine qb ?_ | refine z0n ?_ | refine qw ?_ | refine z0j ?_ | refine z0l ?_ | refine qi ?_ | refine qg (h := ?_) | refine qx (h := ?_) | refine qy (h := ?_) | refine qa ?_ | refine qc ?_ | refine ql ?_ | refine qp ?_ | refine z0a ?_ | rfl
     | (with_reducible first | refine ok_lt ?_ ?_ | refine ok_le ?_ ?_ | refine z0h ?_ ?_ | refine z0k ?_ ?_ | refine z0m ?_ ?_ | refine qu ?_ ?_ | refine ok_if ?_ ?_) <;> intro _ <;> try (exfalso; omega)
   exact ⟨(), by rw [z0s (by omega), z1gd hm ha hi (by simp [meetV])]; rfl, trivial⟩
theorem z1oj {a b : List Int} (ha : VecOk a) (hb : VecOk b) : zyk a b = some (joinV a b) := by
 refine ok_is ?_
 have hm := zoa ha hb
 unfold VecOk at ha hb hm
 unfold zyk
 refine z0a (z1y 8 (fun i (_ : Unit) => (b, (i : Int), mixV (joinV a b) a i, List.replicate 8 (0 : Int))) (fun _ _ => True) () (by unfold mixV; simp) trivial (fun _ _ => ?_) fun i _ hi _ => ?_)
 · unfold z7d zho
   dsimp only
   repeat' first
     | (dsimp only [Int.toNat_natCast, List.length_nil])
     | with_reducible first | refine z0f ?_ | refine z0g ?_ | refine z0d ?_ | refine z0e ?_ | refine z0b ?_ | refine z0i ?_ | refine qs ?_ | refine qb ?_ | refine z0n ?_ | refine qw ?_ | refine z0j ?_ | refine z0l ?_ | refine qi ?_ | refine qg (h := ?_) | refine qx (h := ?_) | refine qy (h := ?_) | refine qa ?_ | refine qc ?_ | refine ql ?_ | refine qp ?_ | refine z0a ?_ | rfl
     | (with_reducible first | refine ok_lt ?_ ?_ | refine ok_le ?_ ?_ | refine z0h ?_ ?_ | refine z0k ?_ ?_ | refine z0m ?_ ?_ | refine qu ?_ ?_ | refine ok_if ?_ ?_) <;> intro _ <;> try (exfalso; omega)
   exact z1g7 hm ha
 · unfold z7d zho
   dsimp only
   have hl := z1hs hm ha (i := i) (by omega)
   have hat := z1jd hm ha hi
   repeat' first
     | (dsimp only [Int.toNat_natCast, List.length_nil])
     | ((with_reducible refine ok_eq hat ?_))
     | with_reducible first | refine z0f ?_ | refine z0g ?_ | refine z0d ?_ | refine z0e ?_ | refine z0b ?_ | refine z0i ?_ | refine qs ?_ | refine qb ?_ | refine z0n ?_ | refine qw ?_ | refine z0j ?_ | refine z0l ?_ | refine qi ?_ | refine qg (h := ?_) | refine qx (h := ?_) | refine qy (h := ?_) | refine qa ?_ | refine qc ?_ | refine ql ?_ | refine qp ?_ | refine z0a ?_ | rfl
     | (with_reducible first | refine ok_lt ?_ ?_ | refine ok_le ?_ ?_ | refine z0h ?_ ?_ | refine z0k ?_ ?_ | refine z0m ?_ ?_ | refine qu ?_ ?_ | refine ok_if ?_ ?_) <;> intro _ <;> try (exfalso; omega)
   exact ⟨(), by rw [z0s (by omega), z1gd hm ha hi (by simp [joinV, maxI])]; rfl, trivial⟩
structure TabOk (t : List (List Int)) : Prop where
 len : t.length = 8
 row : ∀ x, x ∈ t → VecOk x
theorem TabOk.at {t : List (List Int)} (h : TabOk t) {i : Nat} (hi : i < t.length) : VecOk t[i] := h.row _ (List.getElem_mem hi)
def sureS (s : Bool × List Int) (x : Bool × List Int) : Bool × List Int := if x.1 = true then (true, if s.1 = true then meetV s.2 x.2 else x.2) else s
def sureN (t : List (List Int)) (who : List Bool) (i : Nat) : Bool × List Int := ((List.zip who t).take i).foldl sureS (false, List.replicate 8 0)
theorem zzf {t : List (List Int)} {who : List Bool} {i : Nat} (ht : i < t.length) (hw : i < who.length) : sureN t who (i + 1) = sureS (sureN t who i) (who[i], t[i]) := by
 unfold sureN
 have hl : i < (List.zip who t).length := by simp; omega
 rw [List.take_succ_eq_append_getElem hl, List.foldl_append]
 simp only [List.getElem_zip, List.foldl_cons, List.foldl_nil]
theorem zl3 {t : List (List Int)} {who : List Bool} (h : TabOk t) (hw : who.length = 8) : ∀ i, i ≤ 8 → VecOk (sureN t who i).2
 | 0, _ => by unfold sureN; exact List.length_replicate ..
 | i + 1, hi => by
   have hl := h.len
   have ih := zl3 h hw i (by omega)
   rw [zzf (by omega) (by omega)]
   have := h.at (i := i) (by omega)
   unfold sureS
   split
   · simp only
     split
     · exact z18w ih this
     · exact this
   · exact ih
theorem z1d2 {t : List (List Int)} {who : List Bool} (h : TabOk t) (hw : who.length = 8) : zmp t who = some (sureN t who 8).2 := by
 have hl := h.len
 refine ok_is ?_
 unfold zmp
 refine z0a (z1y 8 (fun i (_ : Unit) => ((sureN t who i).1, t, (i : Int), who, List.replicate 8 (0 : Int), (sureN t who i).2)) (fun _ _ => True) () rfl trivial (fun _ _ => ?_) fun i _ hi _ => ?_)
 · unfold z3n zco
   dsimp only
   repeat' first
     | (dsimp only [Int.toNat_natCast, List.length_nil])
     | with_reducible first | refine z0f ?_ | refine z0g ?_ | refine z0d ?_ | refine z0e ?_ | refine z0b ?_ | refine z0i ?_ | refine qs ?_ | refine qb ?_ | refine z0n ?_ | refine qw ?_ | refine z0j ?_ | refine z0l ?_ | refine qi ?_ | refine qg (h := ?_) | refine qx (h := ?_) | refine qy (h := ?_) | refine qa ?_ | refine qc ?_ | refine ql ?_ | refine qp ?_ | refine z0a ?_ | rfl
     | (with_reducible first | refine ok_lt ?_ ?_ | refine ok_le ?_ ?_ | refine z0h ?_ ?_ | refine z0k ?_ ?_ | refine z0m ?_ ?_ | refine qu ?_ ?_ | refine ok_if ?_ ?_) <;> intro _ <;> try (exfalso; omega)
 · unfold z3n zco
   dsimp only
   have hs := zl3 h hw i (by omega)
   have hr := h.at (i := i) (by omega)
   have e := zzf (t := t) (who := who) (i := i) (by omega) (by omega)
   generalize sureN t who i = S at hs e ⊢
   obtain ⟨sn, out⟩ := S
   unfold sureS at e
   repeat' first
     | (dsimp only [Int.toNat_natCast, List.length_nil])
     | ((with_reducible refine ok_eq (z1q2 hs hr) ?_))
     | with_reducible first | refine z0f ?_ | refine z0g ?_ | refine z0d ?_ | refine z0e ?_ | refine z0b ?_ | refine z0i ?_ | refine qs ?_ | refine qb ?_ | refine z0n ?_ | refine qw ?_ | refine z0j ?_ | refine z0l ?_ | refine qi ?_ | refine qg (h := ?_) | refine qx (h := ?_) | refine qy (h := ?_) | refine qa ?_ | refine qc ?_ | refine ql ?_ | refine qp ?_ | refine z0a ?_ | rfl
     | (with_reducible first | refine ok_lt ?_ ?_ | refine ok_le ?_ ?_ | refine z0h ?_ ?_ | refine z0k ?_ ?_ | refine z0m ?_ ?_ | refine qu ?_ ?_ | refine ok_if ?_ ?_) <;> intro _ <;> try (exfalso; omega)
   all_goals
     simp only [*, if_true, Bool.false_eq_true, if_false] at e
     exact ⟨(), by rw [z0s (by omega), e]; simp only [*]; rfl, trivial⟩
theorem z1r6 {t : List (List Int)} (h : TabOk t) : ∃ v, VecOk v ∧ zve t = some v ∧ zua t = some v := by
 have hl := h.len
 have hf : ∀ i, i ≤ 8 → VecOk ((t.take i).foldl joinV (List.replicate 8 0)) := by
   intro i
   induction i with
   | zero => intro _; exact List.length_replicate ..
   | succ i ih =>
     intro hi
     rw [List.take_succ_eq_append_getElem (by omega), List.foldl_append]
     exact zoa (ih (by omega)) (h.at _)
 refine ⟨(t.take 8).foldl joinV (List.replicate 8 0), hf 8 (Nat.le_refl _), ok_is ?_, ok_is ?_⟩
 · unfold zve
   refine z0a (z1y 8 (fun i (_ : Unit) => (t, (i : Int), List.replicate 8 (0 : Int), (t.take i).foldl joinV (List.replicate 8 0))) (fun _ _ => True) () rfl trivial (fun _ _ => ?_) fun i _ hi _ => ?_)
   · unfold z4z zf4
     dsimp only
     repeat' first
       | (dsimp only [Int.toNat_natCast, List.length_nil])
       | with_reducible first | refine z0f ?_ | refine z0g ?_ | refine z0d ?_ | refine z0e ?_ | refine z0b ?_ | refine z0i ?_ | refine qs ?_ | refine qb ?_ | refine z0n ?_ | refine qw ?_ | refine z0j ?_ | refine z0l ?_ | refine qi ?_ | refine qg (h := ?_) | refine qx (h := ?_) | refine qy (h := ?_) | refine qa ?_ | refine qc ?_ | refine ql ?_ | refine qp ?_ | refine z0a ?_ | rfl
       | (with_reducible first | refine ok_lt ?_ ?_ | refine ok_le ?_ ?_ | refine z0h ?_ ?_ | refine z0k ?_ ?_ | refine z0m ?_ ?_ | refine qu ?_ ?_ | refine ok_if ?_ ?_) <;> intro _ <;> try (exfalso; omega)
   · unfold z4z zf4
     dsimp only
     have hr := h.at (i := i) (by omega)
     repeat' first
       | (dsimp only [Int.toNat_natCast, List.length_nil])
       | ((with_reducible refine ok_eq (z1oj (hf i (by omega)) hr) ?_))
       | with_reducible first | refine z0f ?_ | refine z0g ?_ | refine z0d ?_ | refine z0e ?_ | refine z0b ?_ | refine z0i ?_ | refine qs ?_ | refine qb ?_ | refine z0n ?_ | refine qw ?_ | refine z0j ?_ | refine z0l ?_ | refine qi ?_ | refine qg (h := ?_) | refine qx (h := ?_) | refine qy (h := ?_) | refine qa ?_ | refine qc ?_ | refine ql ?_ | refine qp ?_ | refine z0a ?_ | rfl
       | (with_reducible first | refine ok_lt ?_ ?_ | refine ok_le ?_ ?_ | refine z0h ?_ ?_ | refine z0k ?_ ?_ | refine z0m ?_ ?_ | refine qu ?_ ?_ | refine ok_if ?_ ?_) <;> intro _ <;> try (exfalso; omega)
     exact ⟨(), by rw [z0s (by omega), List.take_succ_eq_append_getElem (show i < t.length by omega), List.foldl_append]; rfl, trivial⟩
 · unfold zua
   refine z0a (z1y 8 (fun i (_ : Unit) => ((i : Int), t, List.replicate 8 (0 : Int), (t.take i).foldl joinV (List.replicate 8 0))) (fun _ _ => True) () rfl trivial (fun _ _ => ?_) fun i _ hi _ => ?_)
   · unfold z4k zet
     dsimp only
     repeat' first
       | (dsimp only [Int.toNat_natCast, List.length_nil])
       | with_reducible first | refine z0f ?_ | refine z0g ?_ | refine z0d ?_ | refine z0e ?_ | refine z0b ?_ | refine z0i ?_ | refine qs ?_ | refine qb ?_ | refine z0n ?_ | refine qw ?_ | refine z0j ?_ | refine z0l ?_ | refine qi ?_ | refine qg (h := ?_) | refine qx (h := ?_) | refine qy (h := ?_) | refine qa ?_ | refine qc ?_ | refine ql ?_ | refine qp ?_ | refine z0a ?_ | rfl
       | (with_reducible first | refine ok_lt ?_ ?_ | refine ok_le ?_ ?_ | refine z0h ?_ ?_ | refine z0k ?_ ?_ | refine z0m ?_ ?_ | refine qu ?_ ?_ | refine ok_if ?_ ?_) <;> intro _ <;> try (exfalso; omega)
   · unfold z4k zet
     dsimp only
     have hr := h.at (i := i) (by omega)
     repeat' first
       | (dsimp only [Int.toNat_natCast, List.length_nil])
       | ((with_reducible refine ok_eq (z15w (hf i (by omega)) hr) ?_))
       | with_reducible first | refine z0f ?_ | refine z0g ?_ | refine z0d ?_ | refine z0e ?_ | refine z0b ?_ | refine z0i ?_ | refine qs ?_ | refine qb ?_ | refine z0n ?_ | refine qw ?_ | refine z0j ?_ | refine z0l ?_ | refine qi ?_ | refine qg (h := ?_) | refine qx (h := ?_) | refine qy (h := ?_) | refine qa ?_ | refine qc ?_ | refine ql ?_ | refine qp ?_ | refine z0a ?_ | rfl
       | (with_reducible first | refine ok_lt ?_ ?_ | refine ok_le ?_ ?_ | refine z0h ?_ ?_ | refine z0k ?_ ?_ | refine z0m ?_ ?_ | refine qu ?_ ?_ | refine ok_if ?_ ?_) <;> intro _ <;> try (exfalso; omega)
     exact ⟨(), by rw [z0s (by omega), List.take_succ_eq_append_getElem (show i < t.length by omega), List.foldl_append]; rfl, trivial⟩
theorem TabOk.set {t : List (List Int)} (h : TabOk t) (i : Nat) {v : List Int} (hv : VecOk v) : TabOk (t.set i v) :=
 ⟨by rw [List.length_set]; exact h.len, fun x hx => by
   rcases List.mem_or_eq_of_mem_set hx with hx | rfl
   · exact h.row x hx
   · exact hv⟩
theorem z1ns {t : List (List Int)} (h : TabOk t) (rep : Int) {v : List Int} (hv : VecOk v) : Ok (zox t rep v) TabOk := by
 have hv' : v.length = 8 := hv
 unfold zox
 refine z0a (z1y 8 (fun i (t : List (List Int)) => (rep, (i : Int), t, v, List.replicate 8 (List.replicate 8 (0 : Int)))) (fun _ t => TabOk t) t rfl h (fun a ha => ?_) fun i a hi ha => ?_)
 · unfold z4v zf3
   dsimp only
   repeat' first
     | (dsimp only [Int.toNat_natCast, List.length_nil])
     | with_reducible first | refine z0f ?_ | refine z0g ?_ | refine z0d ?_ | refine z0e ?_ | refine z0b ?_ | refine z0i ?_ | refine qs ?_ | refine qb ?_ | refine z0n ?_ | refine qw ?_ | refine z0j ?_ | refine z0l ?_ | refine qi ?_ | refine qg (h := ?_) | refine qx (h := ?_) | refine qy (h := ?_) | refine qa ?_ | refine qc ?_ | refine ql ?_ | refine qp ?_ | refine z0a ?_ | rfl
     | (with_reducible first | refine ok_lt ?_ ?_ | refine ok_le ?_ ?_ | refine z0h ?_ ?_ | refine z0k ?_ ?_ | refine z0m ?_ ?_ | refine qu ?_ ?_ | refine ok_if ?_ ?_) <;> intro _ <;> try (exfalso; omega)
   exact ha
 · unfold z4v zf3
   dsimp only
   have inner : Ok (loopC z1k (rep, (i : Int), 0, a, v, List.replicate 8 (List.replicate 8 (0 : Int)))) fun r => ∃ a', TabOk a' ∧ r = (rep, (i : Int), a', v, List.replicate 8 (List.replicate 8 (0 : Int))) := by
     refine z1y 8 (fun k (t : List (List Int)) => (rep, (i : Int), (k : Int), t, v, List.replicate 8 (List.replicate 8 (0 : Int)))) (fun _ t => TabOk t) a rfl ha (fun b hb => ?_) fun k b hk hb => ?_
     · unfold z1k z9c
       dsimp only
       repeat' first
         | (dsimp only [Int.toNat_natCast, List.length_nil])
         | with_reducible first | refine z0f ?_ | refine z0g ?_ | refine z0d ?_ | refine z0e ?_ | refine z0b ?_ | refine z0i ?_ | refine qs ?_ | refine qb ?_ | refine z0n ?_ | refine qw ?_ | refine z0j ?_ | refine z0l ?_ | refine qi ?_ | refine qg (h := ?_) | refine qx (h := ?_) | refine qy (h := ?_) | refine qa ?_ | refine qc ?_ | refine ql ?_ | refine qp ?_ | refine z0a ?_ | rfl
         | (with_reducible first | refine ok_lt ?_ ?_ | refine ok_le ?_ ?_ | refine z0h ?_ ?_ | refine z0k ?_ ?_ | refine z0m ?_ ?_ | refine qu ?_ ?_ | refine ok_if ?_ ?_) <;> intro _ <;> try (exfalso; omega)
       exact ⟨b, hb, rfl⟩
     · unfold z1k z9c
       dsimp only
       have hbl := hb.len
       have hbr : b[i].length = 8 := hb.at (i := i) (by omega)
       repeat' first
         | (dsimp only [Int.toNat_natCast, List.length_nil])
         | with_reducible first | refine z0f ?_ | refine z0g ?_ | refine z0d ?_ | refine z0e ?_ | refine z0b ?_ | refine z0i ?_ | refine qs ?_ | refine qb ?_ | refine z0n ?_ | refine qw ?_ | refine z0j ?_ | refine z0l ?_ | refine qi ?_ | refine qg (h := ?_) | refine qx (h := ?_) | refine qy (h := ?_) | refine qa ?_ | refine qc ?_ | refine ql ?_ | refine qp ?_ | refine z0a ?_ | rfl
         | (with_reducible first | refine ok_lt ?_ ?_ | refine ok_le ?_ ?_ | refine z0h ?_ ?_ | refine z0k ?_ ?_ | refine z0m ?_ ?_ | refine qu ?_ ?_ | refine ok_if ?_ ?_) <;> intro _ <;> try (exfalso; omega)
       all_goals first
         | exact ⟨b, by rw [z0s (by omega)]; rfl, hb⟩
         | exact ⟨_, by rw [z0s (by omega)]; rfl, hb.set _ (by unfold VecOk; rw [List.length_set]; exact hbr)⟩
   repeat' first
     | (dsimp only [Int.toNat_natCast, List.length_nil])
     | ((with_reducible refine z4f inner ?_); rintro _ ⟨a', ha', rfl⟩)
     | with_reducible first | refine z0f ?_ | refine z0g ?_ | refine z0d ?_ | refine z0e ?_ | refine z0b ?_ | refine z0i ?_ | refine qs ?_ | refine qb ?_ | refine z0n ?_ | refine qw ?_ | refine z0j ?_ | refine z0l ?_ | refine qi ?_ | refine qg (h := ?_) | refine qx (h := ?_) | refine qy (h := ?_) | refine qa ?_ | refine qc ?_ | refine ql ?_ | refine qp ?_ | refine z0a ?_ | rfl
     | (with_reducible first | refine ok_lt ?_ ?_ | refine ok_le ?_ ?_ | refine z0h ?_ ?_ | refine z0k ?_ ?_ | refine z0m ?_ ?_ | refine qu ?_ ?_ | refine ok_if ?_ ?_) <;> intro _ <;> try (exfalso; omega)
   exact ⟨a', by rw [z0s (by omega)]; rfl, ha'⟩
theorem z1m5 {a b : List (List Int)} (ha : TabOk a) (hb : TabOk b) : Ok (zr8 a b) TabOk := by
 have hbl := hb.len
 unfold zr8
 refine z0a (z1y 8 (fun i (t : List (List Int)) => ((i : Int), t, b, List.replicate 8 (List.replicate 8 (0 : Int)))) (fun _ t => TabOk t) a rfl ha (fun a ha => ?_) fun i a hi ha => ?_)
 · unfold z5h zg1
   dsimp only
   repeat' first
     | (dsimp only [Int.toNat_natCast, List.length_nil])
     | with_reducible first | refine z0f ?_ | refine z0g ?_ | refine z0d ?_ | refine z0e ?_ | refine z0b ?_ | refine z0i ?_ | refine qs ?_ | refine qb ?_ | refine z0n ?_ | refine qw ?_ | refine z0j ?_ | refine z0l ?_ | refine qi ?_ | refine qg (h := ?_) | refine qx (h := ?_) | refine qy (h := ?_) | refine qa ?_ | refine qc ?_ | refine ql ?_ | refine qp ?_ | refine z0a ?_ | rfl
     | (with_reducible first | refine ok_lt ?_ ?_ | refine ok_le ?_ ?_ | refine z0h ?_ ?_ | refine z0k ?_ ?_ | refine z0m ?_ ?_ | refine qu ?_ ?_ | refine ok_if ?_ ?_) <;> intro _ <;> try (exfalso; omega)
   exact ha
 · unfold z5h zg1
   dsimp only
   have hr := hb.at (i := i) (by omega)
   repeat' first
     | (dsimp only [Int.toNat_natCast, List.length_nil])
     | ((with_reducible refine z4f (z1ns ha _ hr) ?_); intro r hr)
     | with_reducible first | refine z0f ?_ | refine z0g ?_ | refine z0d ?_ | refine z0e ?_ | refine z0b ?_ | refine z0i ?_ | refine qs ?_ | refine qb ?_ | refine z0n ?_ | refine qw ?_ | refine z0j ?_ | refine z0l ?_ | refine qi ?_ | refine qg (h := ?_) | refine qx (h := ?_) | refine qy (h := ?_) | refine qa ?_ | refine qc ?_ | refine ql ?_ | refine qp ?_ | refine z0a ?_ | rfl
     | (with_reducible first | refine ok_lt ?_ ?_ | refine ok_le ?_ ?_ | refine z0h ?_ ?_ | refine z0k ?_ ?_ | refine z0m ?_ ?_ | refine qu ?_ ?_ | refine ok_if ?_ ?_) <;> intro _ <;> try (exfalso; omega)
   exact ⟨r, by rw [z0s (by omega)]; rfl, hr⟩
theorem z11y {t : List (List Int)} {who : List Bool} (h : TabOk t) (hw : who.length = 8) : zj3 t who = some (sureN t who 8).2 := by
 have hl := h.len
 have hS : (sureN t who 8).2.length = 8 := zl3 h hw 8 (Nat.le_refl _)
 refine ok_is ?_
 unfold zj3
 refine z0a (z1y 8 (fun k (_ : Unit) => ((k : Int), t, who, List.replicate 8 (0 : Int), fillV (sureN t who 8).2 k)) (fun _ _ => True) () rfl trivial (fun _ _ => ?_) fun k _ hk _ => ?_)
 · unfold z4c zeb
   dsimp only
   repeat' first
     | (dsimp only [Int.toNat_natCast, List.length_nil])
     | with_reducible first | refine z0f ?_ | refine z0g ?_ | refine z0d ?_ | refine z0e ?_ | refine z0b ?_ | refine z0i ?_ | refine qs ?_ | refine qb ?_ | refine z0n ?_ | refine qw ?_ | refine z0j ?_ | refine z0l ?_ | refine qi ?_ | refine qg (h := ?_) | refine qx (h := ?_) | refine qy (h := ?_) | refine qa ?_ | refine qc ?_ | refine ql ?_ | refine qp ?_ | refine z0a ?_ | rfl
     | (with_reducible first | refine ok_lt ?_ ?_ | refine ok_le ?_ ?_ | refine z0h ?_ ?_ | refine z0k ?_ ?_ | refine z0m ?_ ?_ | refine qu ?_ ?_ | refine ok_if ?_ ?_) <;> intro _ <;> try (exfalso; omega)
   exact z14z hS
 · unfold z4c zeb
   dsimp only
   generalize hO : fillV (sureN t who 8).2 k = O
   have hOl : O.length = 8 := by rw [← hO]; exact z13u hS (by omega)
   have hO0 : O[k]? = some 0 := by
     rw [← hO]
     unfold fillV
     rw [List.getElem?_append_right (by simp; omega)]
     simp only [List.length_take, hS, Nat.min_eq_left (Nat.le_of_lt hk), Nat.sub_self]
     rw [List.getElem?_replicate, if_pos (by omega)]
   have inner : loopC z1g ((k : Int), false, 0, t, who, List.replicate 8 (0 : Int), O) = some ((k : Int), t, who, List.replicate 8 (0 : Int), O.set k ((sureN t who 8).2[k]'(by omega))) := by
     refine ok_is (z1y 8 (fun i (_ : Unit) => ((k : Int), (sureN t who i).1, (i : Int), t, who, List.replicate 8 (0 : Int), O.set k (((sureN t who i).2[k]?).getD 0))) (fun _ _ => True) () (by
       have e : (((sureN t who 0).2[k]?).getD 0) = 0 := by
         unfold sureN
         simp only [List.take_zero, List.foldl_nil]
         rw [List.getElem?_replicate, if_pos hk]; rfl
       rw [e]
       have : O.set k 0 = O := by
         apply List.ext_getElem? 
         intro j
         rw [List.getElem?_set]
         split
         · rename_i e; subst e; rw [hO0, if_pos (by omega)]
         · rfl
       rw [this]; rfl) trivial (fun _ _ => ?_) fun i _ hi _ => ?_)
     · unfold z1g z6u
       dsimp only
       repeat' first
         | (dsimp only [Int.toNat_natCast, List.length_nil])
         | with_reducible first | refine z0f ?_ | refine z0g ?_ | refine z0d ?_ | refine z0e ?_ | refine z0b ?_ | refine z0i ?_ | refine qs ?_ | refine qb ?_ | refine z0n ?_ | refine qw ?_ | refine z0j ?_ | refine z0l ?_ | refine qi ?_ | refine qg (h := ?_) | refine qx (h := ?_) | refine qy (h := ?_) | refine qa ?_ | refine qc ?_ | refine ql ?_ | refine qp ?_ | refine z0a ?_ | rfl
         | (with_reducible first | refine ok_lt ?_ ?_ | refine ok_le ?_ ?_ | refine z0h ?_ ?_ | refine z0k ?_ ?_ | refine z0m ?_ ?_ | refine qu ?_ ?_ | refine ok_if ?_ ?_) <;> intro _ <;> try (exfalso; omega)
       rw [List.getElem?_eq_getElem (by omega)]; rfl
     · unfold z1g z6u
       dsimp only
       have hs : (sureN t who i).2.length = 8 := zl3 h hw i (by omega)
       have hr : t[i].length = 8 := h.at (i := i) (by omega)
       have e := zzf (t := t) (who := who) (i := i) (by omega) (by omega)
       generalize sureN t who i = S at hs e ⊢
       obtain ⟨sn, out⟩ := S
       dsimp only at hs
       have hg : (out[k]?).getD 0 = out[k] := by rw [List.getElem?_eq_getElem (by omega)]; rfl
       rw [hg]
       have hz : (O.set k out[k])[k]? = some out[k] := by rw [List.getElem?_set, if_pos rfl, if_pos (by omega)]
       unfold sureS at e
       dsimp only at e
       have hmk : ((meetV out t[i])[k]?).getD 0 = if t[i][k] < out[k] then t[i][k] else out[k] := by
         have : VecOk (meetV out t[i]) := z18w hs hr
         have hlm : (meetV out t[i]).length = 8 := this
         rw [List.getElem?_eq_getElem (by omega)]
         simp only [meetV, List.getElem_zipWith, minI, Option.getD_some]
       have hrk : (t[i][k]?).getD 0 = t[i][k] := by rw [List.getElem?_eq_getElem (by omega)]; rfl
       repeat' first
         | (dsimp only [Int.toNat_natCast, List.length_nil])
         | ((with_reducible refine ok_eq hz ?_))
         | (rw [List.set_set])
         | with_reducible first | refine z0f ?_ | refine z0g ?_ | refine z0d ?_ | refine z0e ?_ | refine z0b ?_ | refine z0i ?_ | refine qs ?_ | refine qb ?_ | refine z0n ?_ | refine qw ?_ | refine z0j ?_ | refine z0l ?_ | refine qi ?_ | refine qg (h := ?_) | refine qx (h := ?_) | refine qy (h := ?_) | refine qa ?_ | refine qc ?_ | refine ql ?_ | refine qp ?_ | refine z0a ?_ | rfl
         | (with_reducible first | refine ok_lt ?_ ?_ | refine ok_le ?_ ?_ | refine z0h ?_ ?_ | refine z0k ?_ ?_ | refine z0m ?_ ?_ | refine qu ?_ ?_ | refine ok_if ?_ ?_) <;> intro _ <;> try (exfalso; omega)
       all_goals
         refine ⟨(), ?_, trivial⟩
         rw [z0s (by omega), e]
         simp only [*, if_true, Bool.false_eq_true, if_false]
         rfl
   repeat' first
     | (dsimp only [Int.toNat_natCast, List.length_nil])
     | ((with_reducible refine ok_eq inner ?_))
     | with_reducible first | refine z0f ?_ | refine z0g ?_ | refine z0d ?_ | refine z0e ?_ | refine z0b ?_ | refine z0i ?_ | refine qs ?_ | refine qb ?_ | refine z0n ?_ | refine qw ?_ | refine z0j ?_ | refine z0l ?_ | refine qi ?_ | refine qg (h := ?_) | refine qx (h := ?_) | refine qy (h := ?_) | refine qa ?_ | refine qc ?_ | refine ql ?_ | refine qp ?_ | refine z0a ?_ | rfl
     | (with_reducible first | refine ok_lt ?_ ?_ | refine ok_le ?_ ?_ | refine z0h ?_ ?_ | refine z0k ?_ ?_ | refine z0m ?_ ?_ | refine qu ?_ ?_ | refine ok_if ?_ ?_) <;> intro _ <;> try (exfalso; omega)
   exact ⟨(), by rw [z0s (by omega), ← hO, zum hS hk rfl]; rfl, trivial⟩
theorem z1jh {A : Type} {u : U} {a : u.T} {x y : Option A} {Q : A → Prop} (hu : u.cmp = true) (h : Ok x Q) : Ok (bif eqU u a a then x else y) Q := by rw [z1nk hu]; exact h
theorem z1kb (t u : List (List Int)) (who : List Bool) (ht : TabOk t) (hu : TabOk u) (hw : who.length = 8) : zl7 t u who = some true := by
 refine ok_is ?_
 obtain ⟨v, hv, a1, a2⟩ := z1r6 ht
 have hs := zl3 ht hw 8 (Nat.le_refl _)
 have hsu := zl3 hu hw 8 (Nat.le_refl _)
 unfold zl7 zw8
 refine ok_eq z1ok (z0i (z0e ?_))
 repeat' first
   | (dsimp only [Int.toNat_natCast, List.length_nil])
   | ((with_reducible refine ok_eq (z1d2 ht hw) ?_))
   | ((with_reducible refine ok_eq a1 ?_))
   | with_reducible first | refine z0f ?_ | refine z0g ?_ | refine z0d ?_ | refine z0e ?_ | refine z0b ?_ | refine z0i ?_ | refine qs ?_ | refine qb ?_ | refine z0n ?_ | refine qw ?_ | refine z0j ?_ | refine z0l ?_ | refine qi ?_ | refine qg (h := ?_) | refine qx (h := ?_) | refine qy (h := ?_) | refine qa ?_ | refine qc ?_ | refine ql ?_ | refine qp ?_ | refine z0a ?_ | rfl
   | (with_reducible first | refine ok_lt ?_ ?_ | refine ok_le ?_ ?_ | refine z0h ?_ ?_ | refine z0k ?_ ?_ | refine z0m ?_ ?_ | refine qu ?_ ?_ | refine ok_if ?_ ?_) <;> intro _ <;> try (exfalso; omega)
 refine z8i (z1m5 ht hu) ?_
 intro j hj
 have hsj := zl3 hj hw 8 (Nat.le_refl _)
 unfold zow
 refine ok_eq (z11y ht hw) ?_
 apply z1jh (u := c1) rfl
 refine ok_eq a2 ?_
 apply z1jh (u := c1) rfl
 repeat' first
   | (dsimp only [Int.toNat_natCast, List.length_nil])
   | ((with_reducible refine ok_eq (z1d2 hj hw) ?_))
   | ((with_reducible refine ok_eq (z1d8 hv hsj) ?_))
   | ((with_reducible refine ok_eq (z11y hj hw) ?_))
   | ((with_reducible refine ok_eq (z1g3 hv hsj) ?_))
   | (rw [beq_self_eq_true])
   | ((with_reducible refine ok_eq (z1d2 hu hw) ?_))
   | ((with_reducible refine ok_eq (z1d8 hv hsu) ?_))
   | ((with_reducible refine ok_eq (z11y hu hw) ?_))
   | ((with_reducible refine ok_eq (z1g3 hv hsu) ?_))
   | with_reducible first | refine z0f ?_ | refine z0g ?_ | refine z0d ?_ | refine z0e ?_ | refine z0b ?_ | refine z0i ?_ | refine qs ?_ | refine qb ?_ | refine z0n ?_ | refine qw ?_ | refine z0j ?_ | refine z0l ?_ | refine qi ?_ | refine qg (h := ?_) | refine qx (h := ?_) | refine qy (h := ?_) | refine qa ?_ | refine qc ?_ | refine ql ?_ | refine qp ?_ | refine z0a ?_ | rfl
   | (with_reducible first | refine ok_lt ?_ ?_ | refine ok_le ?_ ?_ | refine z0h ?_ ?_ | refine z0k ?_ ?_ | refine z0m ?_ ?_ | refine qu ?_ ?_ | refine ok_if ?_ ?_) <;> intro _ <;> try (exfalso; omega)
end Go.Proofs.Ytfbdjicfkcklfaa