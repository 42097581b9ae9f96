import Derived.Test.YtfbdjicfkcklfaaSwJtoN
import Derived.Test.YtfbdjicfkcklfaaTm21to25
import Derived.Test.YtfbdjicfkcklfaaSwAbtoD
set_option maxRecDepth 100000
set_option maxHeartbeats 2000000
set_option linter.unusedSimpArgs false
set_option linter.unusedVariables false
namespace Go.Proofs.Ytfbdjicfkcklfaa
open Go.Tm Go.Ab
structure EvW (e : T1) : Prop where
 dep : e.2.1.length = 8
 nat : ∀ x, x ∈ e.2.1 → 0 ≤ x
 off : -9223372036854775808 ≤ evOff e ∧ evOff e ≤ 9223372036854775807
 name : e.2.2.2.2.2.1.length ≤ 9223372036854775807
 gone : e.2.2.2.2.2.2.1.length ≤ 9223372036854775807
 base : e.2.2.2.2.2.2.2.1.length ≤ 9223372036854775807
 data : e.2.2.2.2.2.2.2.2.2.1.length ≤ 9223372036854775807
theorem z1yj {e : c9.T} (h : wfU c9 e) (g : limU c9 e) : EvW e := by
 obtain ⟨_, h2, _, _, _, _, _, _, h9, _⟩ := h
 obtain ⟨_, _, _, _, _, g6, g7, g8, _, g10, _⟩ := g
 exact ⟨h2.1, fun x hx => (h2.2 x hx).1, h9, g6, g7.1, g8.1, g10⟩
theorem z1xf {l : List T1} (hl : l.length ≤ 9223372036854775807) (hw : ∀ e, e ∈ l → EvW e) : Ok (zrn l) fun r => r = true → l.length ≤ 25 ∧ ∀ e, e ∈ l → EvIn e := by
 unfold zrn
 refine z4w hl (ok_lt (fun _ => z0c fun h => by cases h) fun h25 => ?_)
 refine z4w hl (z0a (z1o l.length (fun i (_ : Unit) => (l, (l.length : Int), (i : Int))) (fun i _ => ∀ j (h : j < l.length), j < i → EvIn l[j]) () rfl (fun j _ h => by omega) (fun _ ha => ?_) fun i _ hi ha => ?_))
 · unfold z5q zi5
   dsimp only
   repeat' first
     | (dsimp only [Int.toNat_natCast, List.length_nil])
     | with_reducible first | refine z0g ?_ | refine z0f ?_ | refine z0c ?_ | refine z0e ?_ | refine z0b ?_ | refine z0h ?_ | refine qs ?_ | refine qb ?_ | refine z0j ?_ | refine qw ?_ | refine z0n ?_ | refine z0k ?_ | refine qi ?_ | refine qg (h := ?_) | refine qx (h := ?_) | refine qy (h := ?_) | refine qa ?_ | refine qc ?_ | refine ql ?_ | refine qp ?_ | refine z0a ?_ | rfl
     | (with_reducible first | refine ok_lt ?_ ?_ | refine ok_le ?_ ?_ | refine z0i ?_ ?_ | refine z0l ?_ ?_ | refine z0m ?_ ?_ | refine qu ?_ ?_ | refine ok_if ?_ ?_) <;> intro _ <;> try (exfalso; omega)
   refine fun _ => ⟨by omega, fun e he => ?_⟩
   obtain ⟨j, hj, rfl⟩ := List.mem_iff_getElem.1 he
   exact ha j hj hj
 · unfold z5q zi5
   dsimp only
   have hv := hw _ (List.getElem_mem hi)
   have v4 := hv.name
   have v5 := hv.gone
   have v6 := hv.base
   have v7 := hv.data
   repeat' first
     | (dsimp only [Int.toNat_natCast, List.length_nil])
     | with_reducible first | refine z0g ?_ | refine z0f ?_ | refine z0c ?_ | refine z0e ?_ | refine z0b ?_ | refine z0h ?_ | refine qs ?_ | refine qb ?_ | refine z0j ?_ | refine qw ?_ | refine z0n ?_ | refine z0k ?_ | refine qi ?_ | refine qg (h := ?_) | refine qx (h := ?_) | refine qy (h := ?_) | refine qa ?_ | refine qc ?_ | refine ql ?_ | refine qp ?_ | refine z0a ?_ | rfl
     | (with_reducible first | refine ok_lt ?_ ?_ | refine ok_le ?_ ?_ | refine z0i ?_ ?_ | refine z0l ?_ ?_ | refine z0m ?_ ?_ | refine qu ?_ ?_ | refine ok_if ?_ ?_) <;> intro _ <;> try (exfalso; omega)
   all_goals first
     | (intro h; cases h; done)
     | skip
   refine ⟨(), by rw [z0r (by omega)]; rfl, fun j hj hlt => ?_⟩
   by_cases e : j = i
   · subst e
     refine ⟨hv.dep, fun k hk => ?_, by omega, ?_, ?_, ?_, hv.off⟩
     · have := hv.nat
       have hk' : k < l[j].2.1.length := by rw [hv.dep]; exact hk
       rw [List.getElem?_eq_getElem hk']
       exact this _ (List.getElem_mem hk')
     · unfold z1be; omega
     · unfold zil; omega
     · unfold z1nw; omega
   · exact ha j hj (by omega)
theorem z1tc {l : List T1} {f : T5 → Option Bool} (hl : l.length ≤ 9223372036854775807) (hw : ∀ e, e ∈ l → EvW e) (h : ∀ L s, TakeOk L → L.length ≤ 100 → StOk L (z8l L) s → Sm s → Ok (f s) fun r => r = true) :
   Ok ((zdr).bind fun r => bif !r then (zdr).bind fun r2 => some r2 else (zrn l).bind fun r3 => bif !r3 then (zdr).bind fun r4 => some r4 else (zr9 l).bind fun r5 => (zfd r5).bind f) fun r => r = true := by
 refine ok_eq z1pc (z0h (z0e ?_))
 refine z1c (z1xf hl hw) ?_
 intro b hb
 refine z0h (ok_if (fun e => ?_) fun _ => ?_)
 · obtain ⟨h1, h2⟩ := hb e
   refine z1c (z1y1 (by omega) h2) ?_
   rintro L ⟨hL, hL2⟩
   refine z1c (z1vw hL.evs) ?_
   intro s hs
   exact h L s hL hL2 hs (z1dd hs (by omega))
 · exact ok_eq z1pc (z0c rfl)
end Go.Proofs.Ytfbdjicfkcklfaa
set_option maxRecDepth 100000
set_option linter.unusedSimpArgs false
set_option linter.unusedVariables false
namespace Go.Proofs.Ytfbdjicfkcklfaa
open Go.Tm Go.Ab
theorem z1wd {b base : List Int} (hb : VecOk b) (h : VecOk base) : goneV b base = true ↔ ∃ i, i < 8 ∧ 0 < (b[i]?).getD 0 ∧ (b[i]?).getD 0 ≤ (base[i]?).getD 0 := by
 have hl := z1de hb h
 unfold VecOk at hb h
 unfold goneV
 simp only [List.any_eq_true, decide_eq_true_eq]
 constructor
 · rintro ⟨x, hx, h1⟩
   rw [List.mem_iff_getElem] at hx
   obtain ⟨i, hi, rfl⟩ := hx
   simp only [List.getElem_zip] at h1
   refine ⟨i, by omega, ?_⟩
   simp only [List.getElem?_eq_getElem (show i < b.length by omega), List.getElem?_eq_getElem (show i < base.length by omega), Option.getD_some]
   exact h1
 · rintro ⟨i, hi, h1⟩
   simp only [List.getElem?_eq_getElem (show i < b.length by omega), List.getElem?_eq_getElem (show i < base.length by omega), Option.getD_some] at h1
   exact ⟨(b[i], base[i]), by rw [List.mem_iff_getElem]; exact ⟨i, by omega, by simp⟩, h1⟩
theorem z14j {b base : List Int} (h : VecOk base) (g : z4q b = true) : goneV b base = false := by
 have e : b = List.replicate 8 (0 : Int) := of_decide_eq_true g
 subst e
 rw [← Bool.not_eq_true, z1wd (List.length_replicate ..) h]
 rintro ⟨i, h1, h2, _⟩
 have := z1gy i
 unfold zeroV at this
 rw [this] at h2
 omega
theorem z1nx {l : List T3} {base : List Int} (h : VecOk base) : z9t (zz5 l base) = z9t l := by
 unfold z9t zz5
 rw [List.filter_filter]
 congr 1; funext v
 cases e : z4q v.2.2 with
 | false => rfl
 | true => rw [z14j h e]; rfl
structure Less (s : T5) (a c : List Int) : Prop where
 va : VecOk a
 vc : VecOk c
 ent : ∀ x, x ∈ s.2.2.1 → goneV x.2.2.2.2 a = true → goneV x.2.2.2.2 c = true
 ver : ∀ o, o ∈ s.2.1 → ∀ v, v ∈ o.2.2.2.2.2 → goneV v.2.2 a = true → goneV v.2.2 c = true
 id : ∀ o, o ∈ s.2.1 → hasV a o.1 = true → hasV c o.1 = true
 vid : ∀ o, o ∈ s.2.1 → ∀ v, v ∈ o.2.2.2.2.2 → hasV a v.1 = true → hasV c v.1 = true
 seen : ∀ o, o ∈ s.2.1 → leqV o.2.2.2.2.1 a = true → leqV o.2.2.2.2.1 c = true
end Go.Proofs.Ytfbdjicfkcklfaa
set_option maxRecDepth 100000
set_option linter.unusedVariables false
noncomputable section
namespace Go.Proofs.Ytfbdjicfkcklfaa
open Go.Tm Go.Ab
end Go.Proofs.Ytfbdjicfkcklfaa
set_option maxRecDepth 100000
set_option maxHeartbeats 2000000
set_option linter.unusedSimpArgs false
set_option linter.unusedVariables false
namespace Go.Proofs.Ytfbdjicfkcklfaa
open Go.Tm Go.Ab
structure KOk (s : T5) : Prop where
 sm : Sm s
 id : ∀ o, o ∈ s.2.1 → hasV s.1 o.1 = true
 vid : ∀ o, o ∈ s.2.1 → ∀ v, v ∈ o.2.2.2.2.2 → hasV s.1 v.1 = true
 seen : ∀ o, o ∈ s.2.1 → leqV o.2.2.2.2.1 s.1 = true
 ent : ∀ x, x ∈ s.2.2.1 → natV x.2.2.2.2 ∧ leV x.2.2.2.2 s.1
 ver : ∀ o, o ∈ s.2.1 → ∀ v, v ∈ o.2.2.2.2.2 → natV v.2.2 ∧ leV v.2.2 s.1
theorem z1qc {s : T5} {base : List Int} {o : T4} (h : o ∈ (z2x s base).2.1) : ∃ x, x ∈ s.2.1 ∧ o = ziq base x ∧ z8y (zsa s.2.2.1 base) o base = true := by
 obtain ⟨h1, h2⟩ := List.mem_filter.1 h
 simp only [List.mem_map] at h1
 obtain ⟨x, hx, rfl⟩ := h1
 exact ⟨x, hx, rfl, h2⟩
end Go.Proofs.Ytfbdjicfkcklfaa
set_option maxRecDepth 100000
set_option maxHeartbeats 2000000
set_option linter.unusedSimpArgs false
set_option linter.unusedVariables false
namespace Go.Proofs.Ytfbdjicfkcklfaa
open Go.Tm Go.Ab
theorem stays {s : T5} (hs : Sm s) {base : List Int} (hb : VecOk base) {x : T2} (hx : x ∈ s.2.2.1) (ha : z4q x.2.2.2.2 = true) : x ∈ zsa s.2.2.1 base :=
 List.mem_filter.2 ⟨hx, by rw [z14j hb ha]; rfl⟩
theorem z1lv {s : T5} {base : List Int} {x : T2} (hx : x ∈ zsa s.2.2.1 base) {o : T4} (ho : o ∈ s.2.1) (h : x.2.2.2.1 = o.1 ∨ x.2.1 = o.1) : ∃ o', o' ∈ (z2x s base).2.1 ∧ o'.1 = o.1 := by
 refine ⟨ziq base o, List.mem_filter.2 ⟨List.mem_map.2 ⟨o, ho, rfl⟩, ?_⟩, rfl⟩
 have : usesV (zsa s.2.2.1 base) (ziq base o) = true := by
   unfold usesV
   rw [List.any_eq_true]
   refine ⟨x, hx, ?_⟩
   simp only [Bool.or_eq_true, decide_eq_true_eq]
   exact h
 unfold z8y
 rw [this]
 simp
theorem z1q0 (l : List T1) (base : List Int) (hl : l.length ≤ 9223372036854775807) (hw : ∀ e, e ∈ l → EvW e) (hb : VecOk base) : zo9 l base = some true := by
 refine ok_is ?_
 unfold zo9
 refine z1tc (f := fun r6 => _) hl hw fun L s hL hL2 hs hsm => ?_
 have h7 := z1se hsm base
 have hol := hsm.olen
 have hel := hsm.elen
 have h7o := h7.olen
 have h7e := h7.elen
 have le : (z2x s base).2.2.1.length ≤ s.2.2.1.length := List.length_filter_le ..
 have lo : (z2x s base).2.1.length ≤ s.2.1.length := Nat.le_trans (List.length_filter_le ..) (by rw [List.length_map]; exact Nat.le_refl _)
 have objE : ∀ x, x ∈ s.2.2.1 → ∃ o, o ∈ s.2.1 ∧ x.2.2.2.1 = o.1 := fun x hx => by
   obtain ⟨e, he, hk, h1, h2, h3, h4⟩ := (hs.ent x hx).ev
   by_cases k7 : zft e = 7
   · rw [if_pos k7] at h4
     obtain ⟨y, hy, hm, h5⟩ := hL.obj e he k7
     obtain ⟨o, ho, h6⟩ := hs.all y hy hm
     exact ⟨o, ho, by rw [h4, h6, h5]⟩
   · rw [if_neg k7] at h4
     obtain ⟨o, ho, h6⟩ := hs.all e he (by rcases hk with h | h | h; exact .inl h; exact .inr h; exact absurd h k7)
     exact ⟨o, ho, by rw [h4, h6]⟩
 have dirE : ∀ x, x ∈ s.2.2.1 → x.2.1 = (0, 0) ∨ ∃ o, o ∈ s.2.1 ∧ x.2.1 = o.1 := fun x hx => by
   obtain ⟨e, he, hk, h1, h2, h3, h4⟩ := (hs.ent x hx).ev
   rcases hL.dir e he hk with h5 | ⟨y, hy, hm, h5⟩
   · exact .inl (by rw [h2, h5])
   · obtain ⟨o, ho, h6⟩ := hs.all y hy hm
     exact .inr ⟨o, ho, by rw [h2, h6, h5]⟩
 refine ok_eq (z18f hsm hb) ?_
 apply z1dc (u := c1) rfl
 apply z1dc (u := c16) rfl
 apply z1dc (u := .arr 8 .bool) rfl
 refine z4w (by omega) (z4w (by omega) (ok_lt (fun h => by omega) fun _ => ?_))
 refine z4w (by omega) (z4w (by omega) (ok_lt (fun h => by omega) fun _ => ?_))
 refine z4w (by omega) ?_
 refine z1c (R := fun y => y = .inl (s, z2x s base)) ?_ ?_
 · refine z1o s.2.2.1.length (fun i (_ : Unit) => (s.2.2.1, (s.2.2.1.length : Int), (i : Int), s, z2x s base)) (fun _ _ => True) () rfl trivial (fun _ _ => ?_) fun i _ hi _ => ?_
   · unfold z2f z9y
     dsimp only
     repeat' first
       | (dsimp only [Int.toNat_natCast, List.length_nil])
       | with_reducible first | refine z0g ?_ | refine z0f ?_ | refine z0c ?_ | refine z0e ?_ | refine z0b ?_ | refine z0h ?_ | refine qs ?_ | refine qb ?_ | refine z0j ?_ | refine qw ?_ | refine z0n ?_ | refine z0k ?_ | refine qi ?_ | refine qg (h := ?_) | refine qx (h := ?_) | refine qy (h := ?_) | refine qa ?_ | refine qc ?_ | refine ql ?_ | refine qp ?_ | refine z0a ?_ | rfl
       | (with_reducible first | refine ok_lt ?_ ?_ | refine ok_le ?_ ?_ | refine z0i ?_ ?_ | refine z0l ?_ ?_ | refine z0m ?_ ?_ | refine qu ?_ ?_ | refine ok_if ?_ ?_) <;> intro _ <;> try (exfalso; omega)
   · have hx := List.getElem_mem hi
     generalize hxe : s.2.2.1[i] = x at hx
     unfold z2f z9y
     dsimp only
     refine ok_lt (fun _ => ?_) fun h => by omega
     refine z15b hi ?_
     rw [hxe]
     refine ok_eq (z1iz x (hsm.ent x hx)) (z0h (ok_if (fun ha => ?_) fun _ => ?_))
     · have hx7 := stays hsm hb hx ha
       refine z4w (by omega) ?_
       refine z1c (R := fun y => y = (true, s.2.2.1, (s.2.2.1.length : Int), (i : Int), s, z2x s base, x)) ?_ ?_
       · refine z1o (z2x s base).2.2.1.length (fun k (f : Bool) => (f, s.2.2.1, (s.2.2.1.length : Int), (i : Int), (z2x s base).2.2.1, ((z2x s base).2.2.1.length : Int), (k : Int), s, z2x s base, x)) (fun k f => (∃ j, ∃ h : j < (z2x s base).2.2.1.length, j < k ∧ (z2x s base).2.2.1[j] = x) → f = true) false rfl (fun ⟨j, _, h, _⟩ => by omega) (fun f hf => ?_) fun k f hk hf => ?_
         · unfold z1b z3d
           dsimp only
           obtain ⟨j, hj, hjx⟩ := List.mem_iff_getElem.1 (show x ∈ (z2x s base).2.2.1 from hx7)
           have hf' := hf ⟨j, hj, hj, hjx⟩
           subst hf'
           repeat' first
             | (dsimp only [Int.toNat_natCast, List.length_nil])
             | with_reducible first | refine z0g ?_ | refine z0f ?_ | refine z0c ?_ | refine z0e ?_ | refine z0b ?_ | refine z0h ?_ | refine qs ?_ | refine qb ?_ | refine z0j ?_ | refine qw ?_ | refine z0n ?_ | refine z0k ?_ | refine qi ?_ | refine qg (h := ?_) | refine qx (h := ?_) | refine qy (h := ?_) | refine qa ?_ | refine qc ?_ | refine ql ?_ | refine qp ?_ | refine z0a ?_ | rfl
             | (with_reducible first | refine ok_lt ?_ ?_ | refine ok_le ?_ ?_ | refine z0i ?_ ?_ | refine z0l ?_ ?_ | refine z0m ?_ ?_ | refine qu ?_ ?_ | refine ok_if ?_ ?_) <;> intro _ <;> try (exfalso; omega)
         · unfold z1b z3d
           dsimp only
           refine ok_lt (fun _ => ?_) fun h => by omega
           refine z15b hk (ok_if (fun hft => z0c ?_) fun hft => z0c ?_)
           · exact ⟨true, by rw [z0r (by omega)]; rfl, fun _ => rfl⟩
           · refine ⟨_, by rw [z0r (by omega)]; rfl, ?_⟩
             rintro ⟨j, hj, hlt, hjx⟩
             by_cases e : j = k
             · subst e
               exact (zix (u := c6) rfl).2 hjx
             · rw [hf ⟨j, hj, by omega, hjx⟩] at hft; cases hft
       rintro _ rfl
       refine z1c (zp0 (z2x s base) x.2.2.2.1 h7o) ?_
       intro r2 hr2
       refine z1c (zp0 (z2x s base) x.2.1 h7o) ?_
       intro r3 hr3
       refine z0h (z0e ?_)
       obtain ⟨o, ho, hoe⟩ := objE x hx
       have r2t : r2.2 = true := by
         rcases hr2 with ⟨_, h⟩ | ⟨h, _⟩
         · obtain ⟨o', h1, h2⟩ := z1lv hx7 ho (.inl hoe)
           exact absurd (h2.trans hoe.symm) (h o' h1)
         · exact h
       rw [r2t]
       refine z0h (z0e ?_)
       have nx : Ok (some (Sum.inl (s.2.2.1, (s.2.2.1.length : Int), W64 ((i : Int) + 1), s, z2x s base)) : Option ((List T2 × Int × Int × T5 × T5) ⊕ ((T5 × T5) ⊕ Bool))) (Rnd (fun s' => ∃ a', s' = (fun i (_ : Unit) => (s.2.2.1, (s.2.2.1.length : Int), ((i : Nat) : Int), s, z2x s base)) (i + 1) a' ∧ True) fun y => y = .inl (s, z2x s base)) := z0c ⟨(), by rw [z0r (by omega)]; rfl, trivial⟩
       refine z0h (ok_if (fun _ => nx) fun h3 => ?_)
       rcases hr3 with ⟨_, h⟩ | ⟨h, _⟩
       · rcases dirE x hx with h0 | ⟨o, ho, hoe⟩
         · have e0 : eqU c0 x.2.1 (0, 0) = true := (zix (u := c0) rfl).2 h0
           rw [e0]
           exact z0h (z0e nx)
         · obtain ⟨o', h1, h2⟩ := z1lv hx7 ho (.inr hoe)
           exact absurd (h2.trans hoe.symm) (h o' h1)
       · rw [h] at h3; cases h3
     · exact z0c ⟨(), by rw [z0r (by omega)]; rfl, trivial⟩
 rintro _ rfl
 dsimp only [Sum.elim_inl]
 refine z4w (by omega) ?_
 refine z1c (R := fun y => y = .inl ()) ?_ ?_
 · refine z1o (z2x s base).2.1.length (fun i (_ : Unit) => ((z2x s base).2.1, ((z2x s base).2.1.length : Int), (i : Int), s)) (fun _ _ => True) () rfl trivial (fun _ _ => ?_) fun i _ hi _ => ?_
   · unfold z1w z8x
     dsimp only
     repeat' first
       | (dsimp only [Int.toNat_natCast, List.length_nil])
       | with_reducible first | refine z0g ?_ | refine z0f ?_ | refine z0c ?_ | refine z0e ?_ | refine z0b ?_ | refine z0h ?_ | refine qs ?_ | refine qb ?_ | refine z0j ?_ | refine qw ?_ | refine z0n ?_ | refine z0k ?_ | refine qi ?_ | refine qg (h := ?_) | refine qx (h := ?_) | refine qy (h := ?_) | refine qa ?_ | refine qc ?_ | refine ql ?_ | refine qp ?_ | refine z0a ?_ | rfl
       | (with_reducible first | refine ok_lt ?_ ?_ | refine ok_le ?_ ?_ | refine z0i ?_ ?_ | refine z0l ?_ ?_ | refine z0m ?_ ?_ | refine qu ?_ ?_ | refine ok_if ?_ ?_) <;> intro _ <;> try (exfalso; omega)
   · have hx := List.getElem_mem hi
     generalize hxe : (z2x s base).2.1[i] = x at hx
     unfold z1w z8x
     dsimp only
     refine ok_lt (fun _ => ?_) fun h => by omega
     refine z15b hi ?_
     rw [hxe]
     obtain ⟨o, ho, rfl, _⟩ := z1qc hx
     refine z1c (zp0 s (ziq base o).1 hol) ?_
     intro r hr
     have hro : r.2 = true ∧ r.1 = o := by
       rcases hr with ⟨_, h⟩ | ⟨h, h1, h2⟩
       · exact absurd rfl (h o ho)
       · refine ⟨h, ?_⟩
         have hnd := hs.nd hL.nd
         obtain ⟨j, hj, hje⟩ := List.mem_iff_getElem.1 h1
         obtain ⟨k, hk, hke⟩ := List.mem_iff_getElem.1 ho
         have : j = k := by
           have hj' : j < (s.2.1.map (fun o => o.1)).length := by rw [List.length_map]; exact hj
           have hk' : k < (s.2.1.map (fun o => o.1)).length := by rw [List.length_map]; exact hk
           refine (List.getElem_inj (h₀ := hj') (h₁ := hk') hnd).1 ?_
           rw [List.getElem_map, List.getElem_map, hje, hke]
           exact h2
         subst this
         rw [← hje, ← hke]
     rw [hro.1, hro.2]
     refine z0h (z0e ?_)
     refine z1y5 ?_
     have hov := hsm.obj o ho
     have hol' := hov.len
     have hsv := z1aq hov base
     have hsl := hsv.len
     have hhl := z17d o.2.2.2.2.2
     refine ok_eq (z1ia (by omega) hov.vers) (ok_eq (z1ia (by omega) hsv.vers) ?_)
     rw [show z9t (ziq base o).2.2.2.2.2 = z9t o.2.2.2.2.2 from z1nx hb]
     refine ok_eq (z1q9 (by omega)) (z0h (z0e (z0c ⟨(), by rw [z0r (by omega)]; rfl, trivial⟩)))
 rintro _ rfl
 exact z0c rfl
end Go.Proofs.Ytfbdjicfkcklfaa