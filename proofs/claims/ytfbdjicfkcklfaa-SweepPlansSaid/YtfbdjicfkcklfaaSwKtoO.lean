import Derived.Test.YtfbdjicfkcklfaaSwFtoJ
import Derived.Test.YtfbdjicfkcklfaaTm21to25
set_option maxRecDepth 100000
set_option linter.unusedSimpArgs false
set_option linter.unusedVariables false
namespace Go.Proofs.Ytfbdjicfkcklfaa
open Go.Tm Go.Ab
theorem z1nk {u : U} (h : u.cmp = true) (a : u.T) : eqU u a a = true := (zj1 h).2 rfl
end Go.Proofs.Ytfbdjicfkcklfaa
set_option maxRecDepth 100000
set_option maxHeartbeats 2000000
set_option linter.unusedSimpArgs false
set_option linter.unusedVariables false
namespace Go.Proofs.Ytfbdjicfkcklfaa
open Go.Tm Go.Ab
structure Chk (e : T1) : Prop where
 rep : 1 ≤ e.1.1 ∧ e.1.1 ≤ 8
 seq : 1 ≤ e.1.2
 base : ¬ e.2.2.1 = 3 → ¬ e.2.2.1 = 4 → ¬ e.2.2.1 = 5 → e.2.2.2.2.2.2.2.1.length = 0
 pos : ∀ b, b ∈ e.2.2.2.2.2.2.2.1 → 0 < b.2
end Go.Proofs.Ytfbdjicfkcklfaa
set_option maxRecDepth 100000
set_option maxHeartbeats 2000000
set_option linter.unusedSimpArgs false
set_option linter.unusedVariables false
namespace Go.Proofs.Ytfbdjicfkcklfaa
open Go.Tm Go.Ab
structure WhyOk (s : T5) (e : T1) : Prop where
 chk : Chk e
 new : hasV s.1 e.1 = false
 dep : leqV e.2.1 s.1 = true
 dir : e.2.2.1 = 1 ∨ e.2.2.1 = 2 ∨ e.2.2.1 = 7 → e.2.2.2.2.1 = (0, 0) ∨ ∃ o, o ∈ s.2.1 ∧ o.1 = e.2.2.2.2.1
 obj : e.2.2.1 = 7 → ∃ o, o ∈ s.2.1 ∧ o.1 = e.2.2.2.1
 base : ∀ b, b ∈ e.2.2.2.2.2.2.2.1 → ∃ o, o ∈ s.2.1 ∧ ∃ v, v ∈ o.2.2.2.2.2 ∧ v.1 = b
theorem z1q5 {l : List T1} {s : T5} (h : StOk l (zcq l) s) (hl : l.length ≤ 1000) : Sm s where
 known := by rw [h.known]; exact (zm2 l).1
 olen := Nat.le_trans h.olen hl
 obj := fun o ho => ⟨(h.obj o ho).seen.v, Nat.le_trans (h.obj o ho).len hl, fun v hv => ((h.obj o ho).vers v hv).by'.v⟩
 elen := Nat.le_trans h.elen hl
 ent := fun x hx => (h.ent x hx).by'.v
structure TakeOk (l : List T1) : Prop where
 evs : Evs l (zcq l)
 nd : ∀ j k (h : j < l.length) (g : k < l.length), l[j].1 = l[k].1 → j = k
 seq : ∀ e, e ∈ l → 1 ≤ e.1.2
 dir : ∀ e, e ∈ l → e.2.2.1 = 1 ∨ e.2.2.1 = 2 ∨ e.2.2.1 = 7 → e.2.2.2.2.1 = (0, 0) ∨ ∃ x, x ∈ l ∧ makes x ∧ x.1 = e.2.2.2.2.1
 obj : ∀ e, e ∈ l → e.2.2.1 = 7 → ∃ x, x ∈ l ∧ makes x ∧ x.1 = e.2.2.2.1
end Go.Proofs.Ytfbdjicfkcklfaa
set_option maxRecDepth 100000
set_option maxHeartbeats 2000000
set_option linter.unusedSimpArgs false
set_option linter.unusedVariables false
namespace Go.Proofs.Ytfbdjicfkcklfaa
open Go.Tm Go.Ab
def ev0 : T1 := ((1, 1), List.replicate 8 (0 : Int), 1, (0, 0), (0, 0), ([97] : List Int), [], [], 0, [], 0)
def ev1 : T1 := ((1, 2), (List.replicate 8 (0 : Int)).set 0 1, 6, (1, 1), (0, 0), [], ([(1, 1)] : List T0), [], 0, [], 0)
theorem w1 : W64 (0 + 1) = 1 := z0s (by omega)
theorem w2 : W64 (1 + 1) = 2 := z0s (by omega)
theorem w0 : W64 (1 - 1) = 0 := z0s (by omega)
theorem i0 : idxI [ev0, ev1] 0 = some ev0 := rfl
theorem i1 : idxI [ev0, ev1] 1 = some ev1 := rfl
theorem l2 : ([ev0, ev1] : List T1).length = 2 := rfl
theorem z1qg (x : T0) : zhu [x] x = some true := by
 refine ok_is ?_
 unfold zhu
 refine z0a (z1y 1 (fun i (_ : Unit) => ([x], (i : Int), x)) (fun i _ => i = 0) () rfl rfl (fun _ h => by omega) fun i _ hi h0 => ?_)
 subst h0
 unfold z5f zdq
 dsimp only
 have hl : ([x] : List T0).length = 1 := rfl
 repeat' first
   | (dsimp only [Int.toNat_natCast, List.length_nil])
   | ((with_reducible refine ok_eq (show idxI [x] ((0 : Nat) : Int) = some x from rfl) ?_))
   | ((with_reducible refine z1e ?_ ?_) <;> intro _)
   | with_reducible first | refine z0f ?_ | refine z0g ?_ | refine z0d ?_ | refine z0e ?_ | refine z0b ?_ | refine z0i ?_ | refine qs ?_ | refine qb ?_ | refine z0n ?_ | refine qw ?_ | refine z0j ?_ | refine z0l ?_ | refine qi ?_ | refine qg (h := ?_) | refine qx (h := ?_) | refine qy (h := ?_) | refine qa ?_ | refine qc ?_ | refine ql ?_ | refine qp ?_ | refine z0a ?_ | rfl
   | (with_reducible first | refine ok_lt ?_ ?_ | refine ok_le ?_ ?_ | refine z0h ?_ ?_ | refine z0k ?_ ?_ | refine z0m ?_ ?_ | refine qu ?_ ?_ | refine ok_if ?_ ?_) <;> intro _ <;> try (exfalso; omega)
 all_goals (rename_i e; exact absurd rfl e)
theorem z1pw (x : T2) : zi9 [] x = some [x] := by
 refine ok_is ?_
 unfold zi9
 refine zmc rfl (z0a (z1y 0 (fun i (_ : Unit) => ([], false, (i : Int), x, [])) (fun i _ => True) () rfl trivial (fun _ _ => ?_) fun i _ hi _ => by omega))
 unfold z2u zab
 dsimp only
 repeat' first
   | (dsimp only [Int.toNat_natCast, List.length_nil])
   | with_reducible first | refine z0f ?_ | refine z0g ?_ | refine z0d ?_ | refine z0e ?_ | refine z0b ?_ | refine z0i ?_ | refine qs ?_ | refine qb ?_ | refine z0n ?_ | refine qw ?_ | refine z0j ?_ | refine z0l ?_ | refine qi ?_ | refine qg (h := ?_) | refine qx (h := ?_) | refine qy (h := ?_) | refine qa ?_ | refine qc ?_ | refine ql ?_ | refine qp ?_ | refine z0a ?_ | rfl
   | (with_reducible first | refine ok_lt ?_ ?_ | refine ok_le ?_ ?_ | refine z0h ?_ ?_ | refine z0k ?_ ?_ | refine z0m ?_ ?_ | refine qu ?_ ?_ | refine ok_if ?_ ?_) <;> intro _ <;> try (exfalso; omega)
 rfl
def ent0 : T2 := ((1, 1), (0, 0), [97], (1, 1), withV (List.replicate 8 0) (1, 2))
theorem z1ju : loopC z0r ([ev0, ev1], [], 0, 0, ((1, 1), (0, 0), [97], (1, 1), List.replicate 8 (0 : Int))) = some ([ev0, ev1], [], 0, ent0) := by
 refine ok_is ?_
 have hl : ([ev0, ev1] : List T1).length = 2 := rfl
 refine z1y 2 (fun k (b : List Int) => ([ev0, ev1], [], 0, (k : Int), ((1, 1), (0, 0), [97], (1, 1), b))) (fun k b => b = if k ≤ 1 then List.replicate 8 0 else withV (List.replicate 8 0) (1, 2)) (List.replicate 8 0) rfl rfl (fun b hb => ?_) fun k b hk hb => ?_
 · unfold z0r z1r
   dsimp only
   repeat' first
     | (dsimp only [Int.toNat_natCast, List.length_nil])
     | with_reducible first | refine z0f ?_ | refine z0g ?_ | refine z0d ?_ | refine z0e ?_ | refine z0b ?_ | refine z0i ?_ | refine qs ?_ | refine qb ?_ | refine z0n ?_ | refine qw ?_ | refine z0j ?_ | refine z0l ?_ | refine qi ?_ | refine qg (h := ?_) | refine qx (h := ?_) | refine qy (h := ?_) | refine qa ?_ | refine qc ?_ | refine ql ?_ | refine qp ?_ | refine z0a ?_ | rfl
     | (with_reducible first | refine ok_lt ?_ ?_ | refine ok_le ?_ ?_ | refine z0h ?_ ?_ | refine z0k ?_ ?_ | refine z0m ?_ ?_ | refine qu ?_ ?_ | refine ok_if ?_ ?_) <;> intro _ <;> try (exfalso; omega)
   rw [hb]; rfl
 · unfold z0r z1r
   dsimp only
   have k0 : ev0.2.2.1 = 1 := rfl
   have k1 : ev1.2.2.1 = 6 := rfl
   have hk' : k = 0 ∨ k = 1 := by omega
   rcases hk' with rfl | rfl
   · repeat' first
       | (dsimp only [Int.toNat_natCast, List.length_nil])
       | ((with_reducible refine ok_eq (show idxI [ev0, ev1] ((0 : Nat) : Int) = some ev0 from rfl) ?_))
       | with_reducible first | refine z0f ?_ | refine z0g ?_ | refine z0d ?_ | refine z0e ?_ | refine z0b ?_ | refine z0i ?_ | refine qs ?_ | refine qb ?_ | refine z0n ?_ | refine qw ?_ | refine z0j ?_ | refine z0l ?_ | refine qi ?_ | refine qg (h := ?_) | refine qx (h := ?_) | refine qy (h := ?_) | refine qa ?_ | refine qc ?_ | refine ql ?_ | refine qp ?_ | refine z0a ?_ | rfl
       | (with_reducible first | refine ok_lt ?_ ?_ | refine ok_le ?_ ?_ | refine z0h ?_ ?_ | refine z0k ?_ ?_ | refine z0m ?_ ?_ | refine qu ?_ ?_ | refine ok_if ?_ ?_) <;> intro _ <;> try (exfalso; omega)
     exact ⟨_, by rw [z0s (by omega)]; rfl, hb⟩
   · have hb' : b = List.replicate 8 (0 : Int) := hb
     subst hb'
     repeat' first
       | (dsimp only [Int.toNat_natCast, List.length_nil])
       | ((with_reducible refine ok_eq (show idxI [ev0, ev1] ((1 : Nat) : Int) = some ev1 from rfl) ?_))
       | ((with_reducible refine z1e ?_ ?_) <;> intro _)
       | (apply ok_eq (z1qg (1, 1)))
       | (apply ok_eq (zs5 zss _))
       | with_reducible first | refine z0f ?_ | refine z0g ?_ | refine z0d ?_ | refine z0e ?_ | refine z0b ?_ | refine z0i ?_ | refine qs ?_ | refine qb ?_ | refine z0n ?_ | refine qw ?_ | refine z0j ?_ | refine z0l ?_ | refine qi ?_ | refine qg (h := ?_) | refine qx (h := ?_) | refine qy (h := ?_) | refine qa ?_ | refine qc ?_ | refine ql ?_ | refine qp ?_ | refine z0a ?_ | rfl
       | (with_reducible first | refine ok_lt ?_ ?_ | refine ok_le ?_ ?_ | refine z0h ?_ ?_ | refine z0k ?_ ?_ | refine z0m ?_ ?_ | refine qu ?_ ?_ | refine ok_if ?_ ?_) <;> intro _ <;> try (exfalso; omega)
     all_goals first
       | (exfalso; rename_i e; exact e rfl)
       | exact ⟨_, by rw [z0s (by omega)]; rfl, rfl⟩
theorem z1en : zbv [ev0, ev1] = some [ent0] := by
 refine ok_is ?_
 have hl : ([ev0, ev1] : List T1).length = 2 := rfl
 unfold zbv
 refine z0a (z1y 2 (fun i (a : List T2) => ([ev0, ev1], a, (i : Int))) (fun i a => a = if i = 0 then [] else [ent0]) [] rfl rfl (fun a ha => ?_) fun i a hi ha => ?_)
 · unfold z2g z6i
   dsimp only
   repeat' first
     | (dsimp only [Int.toNat_natCast, List.length_nil])
     | with_reducible first | refine z0f ?_ | refine z0g ?_ | refine z0d ?_ | refine z0e ?_ | refine z0b ?_ | refine z0i ?_ | refine qs ?_ | refine qb ?_ | refine z0n ?_ | refine qw ?_ | refine z0j ?_ | refine z0l ?_ | refine qi ?_ | refine qg (h := ?_) | refine qx (h := ?_) | refine qy (h := ?_) | refine qa ?_ | refine qc ?_ | refine ql ?_ | refine qp ?_ | refine z0a ?_ | rfl
     | (with_reducible first | refine ok_lt ?_ ?_ | refine ok_le ?_ ?_ | refine z0h ?_ ?_ | refine z0k ?_ ?_ | refine z0m ?_ ?_ | refine qu ?_ ?_ | refine ok_if ?_ ?_) <;> intro _ <;> try (exfalso; omega)
   rw [ha]; rfl
 · unfold z2g z6i
   dsimp only
   have k0 : ev0.2.2.1 = 1 := rfl
   have k1 : ev1.2.2.1 = 6 := rfl
   have hi' : i = 0 ∨ i = 1 := by omega
   rcases hi' with rfl | rfl
   · have ha' : a = [] := ha
     subst ha'
     repeat' first
       | (dsimp only [Int.toNat_natCast, List.length_nil])
       | ((with_reducible refine ok_eq (show idxI [ev0, ev1] ((0 : Nat) : Int) = some ev0 from rfl) ?_))
       | (apply ok_eq z1ju)
       | ((with_reducible refine ok_eq (z1pw _) ?_))
       | with_reducible first | refine z0f ?_ | refine z0g ?_ | refine z0d ?_ | refine z0e ?_ | refine z0b ?_ | refine z0i ?_ | refine qs ?_ | refine qb ?_ | refine z0n ?_ | refine qw ?_ | refine z0j ?_ | refine z0l ?_ | refine qi ?_ | refine qg (h := ?_) | refine qx (h := ?_) | refine qy (h := ?_) | refine qa ?_ | refine qc ?_ | refine ql ?_ | refine qp ?_ | refine z0a ?_ | rfl
       | (with_reducible first | refine ok_lt ?_ ?_ | refine ok_le ?_ ?_ | refine z0h ?_ ?_ | refine z0k ?_ ?_ | refine z0m ?_ ?_ | refine qu ?_ ?_ | refine ok_if ?_ ?_) <;> intro _ <;> try (exfalso; omega)
     all_goals exact ⟨_, by rw [z0s (by omega)]; rfl, rfl⟩
   · have ha' : a = [ent0] := ha
     subst ha'
     repeat' first
       | (dsimp only [Int.toNat_natCast, List.length_nil])
       | ((with_reducible refine ok_eq (show idxI [ev0, ev1] ((1 : Nat) : Int) = some ev1 from rfl) ?_))
       | with_reducible first | refine z0f ?_ | refine z0g ?_ | refine z0d ?_ | refine z0e ?_ | refine z0b ?_ | refine z0i ?_ | refine qs ?_ | refine qb ?_ | refine z0n ?_ | refine qw ?_ | refine z0j ?_ | refine z0l ?_ | refine qi ?_ | refine qg (h := ?_) | refine qx (h := ?_) | refine qy (h := ?_) | refine qa ?_ | refine qc ?_ | refine ql ?_ | refine qp ?_ | refine z0a ?_ | rfl
       | (with_reducible first | refine ok_lt ?_ ?_ | refine ok_le ?_ ?_ | refine z0h ?_ ?_ | refine z0k ?_ ?_ | refine z0m ?_ ?_ | refine qu ?_ ?_ | refine ok_if ?_ ?_) <;> intro _ <;> try (exfalso; omega)
     all_goals exact ⟨_, by rw [z0s (by omega)]; rfl, rfl⟩
theorem z1mv : Evs [ev0, ev1] (zcq [ev0, ev1]) := by
 have hin : ∀ e, e ∈ [ev0, ev1] → EvIn e ∧ (1 ≤ e.1.1 ∧ e.1.1 ≤ 8) ∧ (zpg e)[0]? = none ∧ leqV e.2.1 (zcq [ev0, ev1]) = true := fun e he => by
   simp only [List.mem_cons, List.not_mem_nil, or_false] at he
   rcases he with rfl | rfl
   · exact ⟨⟨rfl, zuk, by decide, by decide, by decide, by decide, by decide⟩, by decide, rfl, by decide⟩
   · exact ⟨⟨rfl, fun i hi => by
       have : ∀ i, i < 8 → 0 ≤ (ev1.2.1[i]?).getD 0 := by decide
       exact this i hi, by decide, by decide, by decide, by decide, by decide⟩, by decide, rfl, by decide⟩
 refine ⟨by decide, fun e he => (hin e he).1, fun i hi b hb => ?_, fun e he => (hin e he).2.1, (zm2 _).1, (zm2 _).2, fun e he => ?_, fun e he => ?_⟩
 · rw [(hin _ (List.getElem_mem hi)).2.2.1] at hb; cases hb
 · exact z17t _ _ zss zuk e he (hin e he).2.1
 · exact (z18m (hin e he).1.dep (zm2 _).1).1 (hin e he).2.2.2
theorem z1ok : zoy = some true := by
 have hK : zcq [ev0, ev1] = [2, 0, 0, 0, 0, 0, 0, 0] := by decide
 have E := z1mv
 have hb := z1m0 E z1en
 refine ok_is ?_
 unfold zoy
 refine z4f (show Ok (zkf _) _ from hb) ?_
 rintro ⟨k, objs, ents, w, rt⟩ ⟨hs, he⟩
 have hsm := z1q5 hs (by decide)
 dsimp only at he
 subst he
 have hk : k = [2, 0, 0, 0, 0, 0, 0, 0] := hs.known.trans hK
 have hob : ∃ o, objs = [o] := by
   obtain ⟨o, ho, h1⟩ := hs.all ev0 (by simp) (.inl rfl)
   have hid : ∀ x, x ∈ objs → x.1 = (1, 1) := fun x hx => by
     obtain ⟨e, he, h2, h3⟩ := hs.mem x hx
     simp only [List.mem_cons, List.not_mem_nil, or_false] at he
     rcases he with rfl | rfl
     · exact h3
     · rcases h2 with h2 | h2 <;> cases h2
   have hnd := hs.nd (fun j k hj hk => by
     have : ∀ j, j < 2 → ∀ k, k < 2 → ∀ (hj : j < [ev0, ev1].length) (hk : k < [ev0, ev1].length), [ev0, ev1][j].1 = [ev0, ev1][k].1 → j = k := by
       intro j hj k hk
       have h1 : j = 0 ∨ j = 1 := by omega
       have h2 : k = 0 ∨ k = 1 := by omega
       rcases h1 with rfl | rfl <;> rcases h2 with rfl | rfl <;> intro _ _ h <;> first | rfl | cases h
     exact this j hj k hk hj hk)
   dsimp only at hnd ho
   match objs, ho, hid, hnd with
   | [o], _, _, _ => exact ⟨o, rfl⟩
   | a :: b :: l, _, hid, hnd =>
     exfalso
     rw [List.map_cons, List.map_cons, List.nodup_cons] at hnd
     exact hnd.1 (by rw [hid a (by simp), hid b (by simp)]; exact List.mem_cons_self ..)
 obtain ⟨o, rfl⟩ := hob
 have hoid : o.1 = (1, 1) := by
   obtain ⟨e, he, h2, h3⟩ := hs.mem o (by simp)
   simp only [List.mem_cons, List.not_mem_nil, or_false] at he
   rcases he with rfl | rfl
   · exact h3
   · rcases h2 with h2 | h2 <;> cases h2
 have hoo := hs.obj o (by simp)
 have hov : o.2.2.2.2.2 = [] := by
   cases hl : o.2.2.2.2.2 with
   | nil => rfl
   | cons v l =>
     obtain ⟨e, he, _, h3⟩ := (hoo.vers v (by rw [hl]; simp)).ev
     simp only [List.mem_cons, List.not_mem_nil, or_false] at he
     rcases he with rfl | rfl <;> cases h3
 have hseen : leqV o.2.2.2.2.1 [2, 0, 0, 0, 0, 0, 0, 0] = true := by
   rw [← hK]
   exact (z18m hoo.seen.v (zm2 _).1).2 hoo.seen.le
 obtain ⟨o1, o2, o3, o4, o5, o6⟩ := o
 dsimp only at hoid hov hseen
 subst hoid; subst hov; subst hk
 refine ok_eq (z1bd hsm (by rfl)) (ok_eq (z1bd hsm (by rfl)) ?_)
 have hc1 : zod ([2, 0, 0, 0, 0, 0, 0, 0], [((1, 1), o2, o3, o4, o5, [])], [ent0], w, rt) ((List.replicate 8 (0 : Int)).set 0 1) = ([2, 0, 0, 0, 0, 0, 0, 0], [((1, 1), o2, o3, o4, o5, [])], [ent0], w, rt) := by
   have h1 : z1a1 [ent0] ((List.replicate 8 (0 : Int)).set 0 1) = [ent0] := by decide
   have h2 : z8h [ent0] ((1, 1), o2, o3, o4, o5, []) ((List.replicate 8 (0 : Int)).set 0 1) = true := by
     unfold z8h
     have : usesV [ent0] ((1, 1), o2, o3, o4, o5, []) = true := rfl
     rw [this]; simp
   unfold zod
   simp only [h1, List.map_cons, List.map_nil, zpl, z14m, List.filter_nil, List.filter_cons, h2, if_true]
 have hc2 : zod ([2, 0, 0, 0, 0, 0, 0, 0], [((1, 1), o2, o3, o4, o5, [])], [ent0], w, rt) ((List.replicate 8 (0 : Int)).set 0 2) = ([2, 0, 0, 0, 0, 0, 0, 0], [], [], w, rt) := by
   have h1 : z1a1 [ent0] ((List.replicate 8 (0 : Int)).set 0 2) = [] := by decide
   have h2 : z8h [] ((1, 1), o2, o3, o4, o5, []) ((List.replicate 8 (0 : Int)).set 0 2) = false := by
     unfold z8h
     have a1 : hasV ((List.replicate 8 (0 : Int)).set 0 2) (1, 1) = true := by decide
     have a2 : leqV o5 ((List.replicate 8 (0 : Int)).set 0 2) = true := hseen
     simp only [a1, a2]; rfl
   unfold zod
   simp only [h1, List.map_cons, List.map_nil, zpl, z14m, List.filter_nil, List.filter_cons, h2, Bool.false_eq_true, if_false]
 have hd : deadV ([2, 0, 0, 0, 0, 0, 0, 0], [((1, 1), o2, o3, o4, o5, [])], [ent0], w, rt) = 1 := by
   have h2 : z8h [ent0] ((1, 1), o2, o3, o4, o5, []) [2, 0, 0, 0, 0, 0, 0, 0] = true := by
     unfold z8h
     have : usesV [ent0] ((1, 1), o2, o3, o4, o5, []) = true := rfl
     rw [this]; simp
   have h3 : List.countP (fun x : T2 => !z6y x.2.2.2.2) [ent0] = 1 := by decide
   unfold deadV
   simp only [h3, List.map_cons, List.map_nil, cntO, h2, List.countP_nil, List.sum_cons, List.sum_nil, if_true, Nat.add_zero]
 rw [hc1, hc2]
 dsimp only
 have hw0 : W64 (((0 : Nat) : Int) + ((0 : Nat) : Int)) = 0 := z0s (by omega)
 refine zaw (by simp) (z0h (fun _ => ?_) fun h => (h rfl).elim)
 refine zaw (by simp) (z0h (fun _ => ?_) fun h => (h rfl).elim)
 refine zaw (by simp) (zaw (by simp) ?_)
 refine z0h (fun _ => ?_) fun h => (h hw0).elim
 refine z1g6 (u := c1) rfl (fun _ => ?_) fun h => (h rfl).elim
 refine ok_eq (z1q3 hsm) (z0d ?_)
 rw [hd]; rfl
end Go.Proofs.Ytfbdjicfkcklfaa
set_option maxRecDepth 100000
set_option maxHeartbeats 2000000
set_option linter.unusedSimpArgs false
set_option linter.unusedVariables false
namespace Go.Proofs.Ytfbdjicfkcklfaa
open Go.Tm Go.Ab
structure EvW (e : T1) : Prop where
 dep : e.2.1.length = 8
 nat : ∀ x, x ∈ e.2.1 → 0 ≤ x
 off : -9223372036854775808 ≤ evOff e ∧ evOff e ≤ 9223372036854775807
 name : e.2.2.2.2.2.1.length ≤ 9223372036854775807
 gone : e.2.2.2.2.2.2.1.length ≤ 9223372036854775807
 base : e.2.2.2.2.2.2.2.1.length ≤ 9223372036854775807
 data : e.2.2.2.2.2.2.2.2.2.1.length ≤ 9223372036854775807
end Go.Proofs.Ytfbdjicfkcklfaa