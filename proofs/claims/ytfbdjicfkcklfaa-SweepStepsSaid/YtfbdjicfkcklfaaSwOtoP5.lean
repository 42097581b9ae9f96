import Derived.Test.YtfbdjicfkcklfaaSwJtoN
import Derived.Test.YtfbdjicfkcklfaaTm21to25
import Derived.Test.YtfbdjicfkcklfaaSwAbtoD
set_option maxRecDepth 100000
set_option maxHeartbeats 2000000
set_option linter.unusedSimpArgs false
set_option linter.unusedVariables false
namespace Go.Proofs.Ytfbdjicfkcklfaa
open Go.Tm Go.Ab
structure EvW (e : T1) : Prop where
 dep : e.2.1.length = 8
 nat : ∀ x, x ∈ e.2.1 → 0 ≤ x
 off : -9223372036854775808 ≤ evOff e ∧ evOff e ≤ 9223372036854775807
 name : e.2.2.2.2.2.1.length ≤ 9223372036854775807
 gone : e.2.2.2.2.2.2.1.length ≤ 9223372036854775807
 base : e.2.2.2.2.2.2.2.1.length ≤ 9223372036854775807
 data : e.2.2.2.2.2.2.2.2.2.1.length ≤ 9223372036854775807
theorem z1xf {e : c9.T} (h : wfU c9 e) (g : limU c9 e) : EvW e := by
 obtain ⟨_, h2, _, _, _, _, _, _, h9, _⟩ := h
 obtain ⟨_, _, _, _, _, g6, g7, g8, _, g10, _⟩ := g
 exact ⟨h2.1, fun x hx => (h2.2 x hx).1, h9, g6, g7.1, g8.1, g10⟩
theorem z1vr {l : List T1} (hl : l.length ≤ 9223372036854775807) (hw : ∀ e, e ∈ l → EvW e) : Ok (zqn l) fun r => r = true → l.length ≤ 25 ∧ ∀ e, e ∈ l → EvIn e := by
 unfold zqn
 refine z9x hl (ok_lt (fun _ => z0d fun h => by cases h) fun h25 => ?_)
 refine z9x hl (z0a (z1n l.length (fun i (_ : Unit) => (l, (l.length : Int), (i : Int))) (fun i _ => ∀ j (h : j < l.length), j < i → EvIn l[j]) () rfl (fun j _ h => by omega) (fun _ ha => ?_) fun i _ hi ha => ?_))
 · unfold z5i zhe
   dsimp only
   repeat' first
     | (dsimp only [Int.toNat_natCast, List.length_nil])
     | with_reducible first | refine z0g ?_ | refine z0f ?_ | refine z0d ?_ | refine z0e ?_ | refine z0b ?_ | refine z0i ?_ | refine qs ?_ | refine qb ?_ | refine z0j ?_ | refine qw ?_ | refine z0m ?_ | refine z0k ?_ | refine qi ?_ | refine qg (h := ?_) | refine qx (h := ?_) | refine qy (h := ?_) | refine qa ?_ | refine qc ?_ | refine ql ?_ | refine qp ?_ | refine z0a ?_ | rfl
     | (with_reducible first | refine ok_lt ?_ ?_ | refine ok_le ?_ ?_ | refine z0h ?_ ?_ | refine z0l ?_ ?_ | refine z0n ?_ ?_ | refine qu ?_ ?_ | refine ok_if ?_ ?_) <;> intro _ <;> try (exfalso; omega)
   refine fun _ => ⟨by omega, fun e he => ?_⟩
   obtain ⟨j, hj, rfl⟩ := List.mem_iff_getElem.1 he
   exact ha j hj hj
 · unfold z5i zhe
   dsimp only
   have hv := hw _ (List.getElem_mem hi)
   have v4 := hv.name
   have v5 := hv.gone
   have v6 := hv.base
   have v7 := hv.data
   repeat' first
     | (dsimp only [Int.toNat_natCast, List.length_nil])
     | with_reducible first | refine z0g ?_ | refine z0f ?_ | refine z0d ?_ | refine z0e ?_ | refine z0b ?_ | refine z0i ?_ | refine qs ?_ | refine qb ?_ | refine z0j ?_ | refine qw ?_ | refine z0m ?_ | refine z0k ?_ | refine qi ?_ | refine qg (h := ?_) | refine qx (h := ?_) | refine qy (h := ?_) | refine qa ?_ | refine qc ?_ | refine ql ?_ | refine qp ?_ | refine z0a ?_ | rfl
     | (with_reducible first | refine ok_lt ?_ ?_ | refine ok_le ?_ ?_ | refine z0h ?_ ?_ | refine z0l ?_ ?_ | refine z0n ?_ ?_ | refine qu ?_ ?_ | refine ok_if ?_ ?_) <;> intro _ <;> try (exfalso; omega)
   all_goals first
     | (intro h; cases h; done)
     | skip
   refine ⟨(), by rw [z0r (by omega)]; rfl, fun j hj hlt => ?_⟩
   by_cases e : j = i
   · subst e
     refine ⟨hv.dep, fun k hk => ?_, by omega, ?_, ?_, ?_, hv.off⟩
     · have := hv.nat
       have hk' : k < l[j].2.1.length := by rw [hv.dep]; exact hk
       rw [List.getElem?_eq_getElem hk']
       exact this _ (List.getElem_mem hk')
     · unfold z1bl; omega
     · unfold zi8; omega
     · unfold z1nw; omega
   · exact ha j hj (by omega)
theorem z1sc {l : List T1} {f : T5 → Option Bool} (hl : l.length ≤ 9223372036854775807) (hw : ∀ e, e ∈ l → EvW e) (h : ∀ L s, TakeOk L → L.length ≤ 100 → StOk L (z7y L) s → Sm s → Ok (f s) fun r => r = true) :
   Ok ((zd2).bind fun r => bif !r then (zd2).bind fun r2 => some r2 else (zqn l).bind fun r3 => bif !r3 then (zd2).bind fun r4 => some r4 else (zri l).bind fun r5 => (zem r5).bind f) fun r => r = true := by
 refine ok_eq z1m7 (z0i (z0e ?_))
 refine z1e (z1vr hl hw) ?_
 intro b hb
 refine z0i (ok_if (fun e => ?_) fun _ => ?_)
 · obtain ⟨h1, h2⟩ := hb e
   refine z1e (z1wb (by omega) h2) ?_
   rintro L ⟨hL, hL2⟩
   refine z1e (z1v5 hL.evs) ?_
   intro s hs
   exact h L s hL hL2 hs (z1cn hs (by omega))
 · exact ok_eq z1m7 (z0d rfl)
end Go.Proofs.Ytfbdjicfkcklfaa
set_option maxRecDepth 100000
set_option linter.unusedSimpArgs false
set_option linter.unusedVariables false
namespace Go.Proofs.Ytfbdjicfkcklfaa
open Go.Tm Go.Ab
theorem z1ff {b base : List Int} (hb : VecOk b) (h : VecOk base) : goneV b base = true ↔ ∃ i, i < 8 ∧ 0 < (b[i]?).getD 0 ∧ (b[i]?).getD 0 ≤ (base[i]?).getD 0 := by
 have hl := z1cm hb h
 unfold VecOk at hb h
 unfold goneV
 simp only [List.any_eq_true, decide_eq_true_eq]
 constructor
 · rintro ⟨x, hx, h1⟩
   rw [List.mem_iff_getElem] at hx
   obtain ⟨i, hi, rfl⟩ := hx
   simp only [List.getElem_zip] at h1
   refine ⟨i, by omega, ?_⟩
   simp only [List.getElem?_eq_getElem (show i < b.length by omega), List.getElem?_eq_getElem (show i < base.length by omega), Option.getD_some]
   exact h1
 · rintro ⟨i, hi, h1⟩
   simp only [List.getElem?_eq_getElem (show i < b.length by omega), List.getElem?_eq_getElem (show i < base.length by omega), Option.getD_some] at h1
   exact ⟨(b[i], base[i]), by rw [List.mem_iff_getElem]; exact ⟨i, by omega, by simp⟩, h1⟩
theorem z1gr {b a c : List Int} (hb : VecOk b) (ha : VecOk a) (hc : VecOk c) (h : leV a c) (g : goneV b a = true) : goneV b c = true := by
 rw [z1ff hb ha] at g
 rw [z1ff hb hc]
 obtain ⟨i, h1, h2, h3⟩ := g
 exact ⟨i, h1, h2, Int.le_trans h3 (h i h1)⟩
theorem z1il {b base : List Int} (h : VecOk base) (g : z7d b = true) : goneV b base = false := by
 have e : b = List.replicate 8 (0 : Int) := of_decide_eq_true g
 subst e
 rw [← Bool.not_eq_true, z1ff (List.length_replicate ..) h]
 rintro ⟨i, h1, h2, _⟩
 have := z1fv i
 unfold zeroV at this
 rw [this] at h2
 omega
theorem z1kp {a c : List Int} (h : leV a c) {id : T0} (g : hasV a id = true) : hasV c id = true := by
 unfold hasV at *
 rw [Bool.and_eq_true] at *
 exact ⟨g.1, leI_t (Int.le_trans (of_decide_eq_true g.2) (z1k2 h _))⟩
theorem z1o2 {l : List T3} {base : List Int} (h : VecOk base) : zg7 (zjx l base) = zg7 l := by
 unfold zg7 zjx
 rw [List.filter_filter]
 congr 1; funext v
 cases e : z7d v.2.2 with
 | false => rfl
 | true => rw [z1il h e]; rfl
theorem z17v {l : List T3} {base : List Int} (h : VecOk base) (seen : List Int) : z14a (zjx l base) seen = z14a l seen := by
 unfold z14a
 rw [z1o2 h]
structure Less (s : T5) (a c : List Int) : Prop where
 va : VecOk a
 vc : VecOk c
 ent : ∀ x, x ∈ s.2.2.1 → goneV x.2.2.2.2 a = true → goneV x.2.2.2.2 c = true
 ver : ∀ o, o ∈ s.2.1 → ∀ v, v ∈ o.2.2.2.2.2 → goneV v.2.2 a = true → goneV v.2.2 c = true
 id : ∀ o, o ∈ s.2.1 → hasV a o.1 = true → hasV c o.1 = true
 vid : ∀ o, o ∈ s.2.1 → ∀ v, v ∈ o.2.2.2.2.2 → hasV a v.1 = true → hasV c v.1 = true
 seen : ∀ o, o ∈ s.2.1 → leqV o.2.2.2.2.1 a = true → leqV o.2.2.2.2.1 c = true
theorem z19z {α : Type} {p q : α → Bool} {l : List α} (h : ∀ x, x ∈ l → p x = false → q x = false) : (l.filter p).filter q = l.filter q := by
 rw [List.filter_filter]
 apply List.filter_congr
 intro x hx
 cases hp : p x with
 | true => rw [Bool.and_true]
 | false => rw [h x hx hp]; rfl
theorem z1nm {s : T5} {a c : List Int} (h : Less s a c) : zhy (zhy s.2.2.1 a) c = zhy s.2.2.1 c :=
 z19z fun x hx e => by
   rw [Bool.not_eq_false'] at e ⊢
   exact h.ent x hx e
theorem z1mz {s : T5} {a c : List Int} (h : Less s a c) {o : T4} (ho : o ∈ s.2.1) : zjx (zjx o.2.2.2.2.2 a) c = zjx o.2.2.2.2.2 c :=
 z19z fun x hx e => by
   rw [Bool.not_eq_false'] at e ⊢
   exact h.ver o ho x hx e
theorem z1ow {s : T5} {a c : List Int} (h : Less s a c) {o : T4} (ho : o ∈ s.2.1) (g : z5j (zhy s.2.2.1 a) (zex a o) a = false) : z5j (zhy s.2.2.1 c) (zex c o) c = false := by
 unfold z5j at g ⊢
 simp only [Bool.or_eq_false_iff, Bool.not_eq_false'] at g ⊢
 obtain ⟨g1, g2, g3, g4, g5⟩ := g
 simp only [zex] at g1 g2 g3 g4 g5 ⊢
 refine ⟨h.id o ho g1, h.seen o ho g2, ?_, ?_, ?_⟩
 · rw [z17v h.vc]
   rw [z17v h.va] at g3
   exact g3
 · rw [List.any_eq_false] at g4 ⊢
   intro v hv
   obtain ⟨hv1, hv2⟩ := List.mem_filter.1 hv
   have hv3 : v ∈ zjx o.2.2.2.2.2 a := List.mem_filter.2 ⟨hv1, by
     cases e : goneV v.2.2 a with
     | false => rfl
     | true => rw [h.ver o ho v hv1 e] at hv2; cases hv2⟩
   have := g4 v hv3
   simp only [Bool.not_eq_true', Bool.not_eq_false] at this ⊢
   exact h.vid o ho v hv1 this
 · unfold usesV at *
   rw [List.any_eq_false] at g5 ⊢
   intro x hx
   obtain ⟨hx1, hx2⟩ := List.mem_filter.1 hx
   exact g5 x (List.mem_filter.2 ⟨hx1, by
     cases e : goneV x.2.2.2.2 a with
     | false => rfl
     | true => rw [h.ent x hx1 e] at hx2; cases hx2⟩)
theorem zyu {α β γ : Type} {f : α → β} {p : β → Bool} {g : β → γ} {q : γ → Bool} {k : α → γ} : ∀ (l : List α), (∀ x, x ∈ l → g (f x) = k x ∧ (p (f x) = false → q (k x) = false)) → (((l.map f).filter p).map g).filter q = (l.map k).filter q
 | [], _ => rfl
 | x :: l, h => by
   have ih := zyu l fun y hy => h y (List.mem_cons_of_mem _ hy)
   obtain ⟨h1, h2⟩ := h x (List.mem_cons_self ..)
   simp only [List.map_cons, List.filter_cons]
   cases hp : p (f x) with
   | true => simp only [if_true, List.map_cons, List.filter_cons, h1, ih]
   | false =>
     rw [h2 hp]
     simp only [Bool.false_eq_true, if_false]
     exact ih
theorem z1g9 {s : T5} {a c : List Int} (h : Less s a c) : zf1 (zf1 s a) c = zf1 s c := by
 have e1 := z1nm h
 have e2 : (((s.2.1.map (zex a)).filter (fun o => z5j (zhy s.2.2.1 a) o a)).map (zex c)).filter (fun o => z5j (zhy s.2.2.1 c) o c) = (s.2.1.map (zex c)).filter (fun o => z5j (zhy s.2.2.1 c) o c) :=
   zyu _ fun o ho => ⟨by unfold zex; simp only [z1mz h ho], z1ow h ho⟩
 unfold zf1
 simp only [e1, e2]
theorem z1w3 {s : T5} (hs : Sm s) {a c : List Int} (ha : VecOk a) (hc : VecOk c) (h : leV a c) : Less s a c where
 va := ha
 vc := hc
 ent := fun x hx => z1gr (hs.ent x hx) ha hc h
 ver := fun o ho v hv => z1gr ((hs.obj o ho).vers v hv) ha hc h
 id := fun o ho => z1kp h
 vid := fun o ho v hv => z1kp h
 seen := fun o ho g => by
   rw [zt7 (hs.obj o ho).seen ha] at g
   rw [zt7 (hs.obj o ho).seen hc]
   exact zzs g h
end Go.Proofs.Ytfbdjicfkcklfaa
set_option maxRecDepth 100000
set_option maxHeartbeats 2000000
set_option linter.unusedSimpArgs false
set_option linter.unusedVariables false
namespace Go.Proofs.Ytfbdjicfkcklfaa
open Go.Tm Go.Ab
theorem z1r7 (l : List T1) (a b : List Int) (hl : l.length ≤ 9223372036854775807) (hw : ∀ e, e ∈ l → EvW e) (ha : VecOk a) (hb : VecOk b) : zov l a b = some true := by
 refine ok_is ?_
 unfold zov
 refine z1sc (f := fun r6 => _) hl hw fun L s hL hL2 hs hsm => ?_
 have hj := zxf ha hb
 have h8 := z1hj hsm a
 have h10 := z1hj hsm (joinV a b)
 have e := z1g9 (z1w3 hsm ha hj (zwe ha hb))
 repeat' first
   | (dsimp only [Int.toNat_natCast, List.length_nil])
   | ((with_reducible refine ok_eq (z15c ha hb) ?_))
   | ((with_reducible refine ok_eq (zrl hsm ha) ?_))
   | ((with_reducible refine ok_eq (zrl h8 hj) ?_))
   | ((with_reducible refine ok_eq (zrl hsm hj) ?_))
   | (rw [e])
   | ((with_reducible refine ok_eq (z1si h10) ?_))
   | with_reducible first | refine z0g ?_ | refine z0f ?_ | refine z0d ?_ | refine z0e ?_ | refine z0b ?_ | refine z0i ?_ | refine qs ?_ | refine qb ?_ | refine z0j ?_ | refine qw ?_ | refine z0m ?_ | refine z0k ?_ | refine qi ?_ | refine qg (h := ?_) | refine qx (h := ?_) | refine qy (h := ?_) | refine qa ?_ | refine qc ?_ | refine ql ?_ | refine qp ?_ | refine z0a ?_ | rfl
   | (with_reducible first | refine ok_lt ?_ ?_ | refine ok_le ?_ ?_ | refine z0h ?_ ?_ | refine z0l ?_ ?_ | refine z0n ?_ ?_ | refine qu ?_ ?_ | refine ok_if ?_ ?_) <;> intro _ <;> try (exfalso; omega)
end Go.Proofs.Ytfbdjicfkcklfaa