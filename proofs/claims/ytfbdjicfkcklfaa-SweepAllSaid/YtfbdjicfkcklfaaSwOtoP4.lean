import Derived.Test.YtfbdjicfkcklfaaSwJtoN
import Derived.Test.YtfbdjicfkcklfaaTm21to25
import Derived.Test.YtfbdjicfkcklfaaSwAbtoD
set_option maxRecDepth 100000
set_option maxHeartbeats 2000000
set_option linter.unusedSimpArgs false
set_option linter.unusedVariables false
namespace Go.Proofs.Ytfbdjicfkcklfaa
open Go.Tm Go.Ab
structure EvW (e : T1) : Prop where
 dep : e.2.1.length = 8
 nat : ∀ x, x ∈ e.2.1 → 0 ≤ x
 off : -9223372036854775808 ≤ evOff e ∧ evOff e ≤ 9223372036854775807
 name : e.2.2.2.2.2.1.length ≤ 9223372036854775807
 gone : e.2.2.2.2.2.2.1.length ≤ 9223372036854775807
 base : e.2.2.2.2.2.2.2.1.length ≤ 9223372036854775807
 data : e.2.2.2.2.2.2.2.2.2.1.length ≤ 9223372036854775807
theorem z1y3 {e : c9.T} (h : wfU c9 e) (g : limU c9 e) : EvW e := by
 obtain ⟨_, h2, _, _, _, _, _, _, h9, _⟩ := h
 obtain ⟨_, _, _, _, _, g6, g7, g8, _, g10, _⟩ := g
 exact ⟨h2.1, fun x hx => (h2.2 x hx).1, h9, g6, g7.1, g8.1, g10⟩
theorem z1w6 {l : List T1} (hl : l.length ≤ 9223372036854775807) (hw : ∀ e, e ∈ l → EvW e) : Ok (zro l) fun r => r = true → l.length ≤ 25 ∧ ∀ e, e ∈ l → EvIn e := by
 unfold zro
 refine z8t hl (ok_lt (fun _ => z0d fun h => by cases h) fun h25 => ?_)
 refine z8t hl (z0a (z1o l.length (fun i (_ : Unit) => (l, (l.length : Int), (i : Int))) (fun i _ => ∀ j (h : j < l.length), j < i → EvIn l[j]) () rfl (fun j _ h => by omega) (fun _ ha => ?_) fun i _ hi ha => ?_))
 · unfold z5h zh3
   dsimp only
   repeat' first
     | (dsimp only [Int.toNat_natCast, List.length_nil])
     | with_reducible first | refine z0f ?_ | refine z0g ?_ | refine z0d ?_ | refine z0e ?_ | refine z0b ?_ | refine z0i ?_ | refine qs ?_ | refine qb ?_ | refine z0j ?_ | refine qw ?_ | refine z0n ?_ | refine z0l ?_ | refine qi ?_ | refine qg (h := ?_) | refine qx (h := ?_) | refine qy (h := ?_) | refine qa ?_ | refine qc ?_ | refine ql ?_ | refine qp ?_ | refine z0a ?_ | rfl
     | (with_reducible first | refine ok_lt ?_ ?_ | refine ok_le ?_ ?_ | refine z0h ?_ ?_ | refine z0k ?_ ?_ | refine z0m ?_ ?_ | refine qu ?_ ?_ | refine ok_if ?_ ?_) <;> intro _ <;> try (exfalso; omega)
   refine fun _ => ⟨by omega, fun e he => ?_⟩
   obtain ⟨j, hj, rfl⟩ := List.mem_iff_getElem.1 he
   exact ha j hj hj
 · unfold z5h zh3
   dsimp only
   have hv := hw _ (List.getElem_mem hi)
   have v4 := hv.name
   have v5 := hv.gone
   have v6 := hv.base
   have v7 := hv.data
   repeat' first
     | (dsimp only [Int.toNat_natCast, List.length_nil])
     | with_reducible first | refine z0f ?_ | refine z0g ?_ | refine z0d ?_ | refine z0e ?_ | refine z0b ?_ | refine z0i ?_ | refine qs ?_ | refine qb ?_ | refine z0j ?_ | refine qw ?_ | refine z0n ?_ | refine z0l ?_ | refine qi ?_ | refine qg (h := ?_) | refine qx (h := ?_) | refine qy (h := ?_) | refine qa ?_ | refine qc ?_ | refine ql ?_ | refine qp ?_ | refine z0a ?_ | rfl
     | (with_reducible first | refine ok_lt ?_ ?_ | refine ok_le ?_ ?_ | refine z0h ?_ ?_ | refine z0k ?_ ?_ | refine z0m ?_ ?_ | refine qu ?_ ?_ | refine ok_if ?_ ?_) <;> intro _ <;> try (exfalso; omega)
   all_goals first
     | (intro h; cases h; done)
     | skip
   refine ⟨(), by rw [z0r (by omega)]; rfl, fun j hj hlt => ?_⟩
   by_cases e : j = i
   · subst e
     refine ⟨hv.dep, fun k hk => ?_, by omega, ?_, ?_, ?_, hv.off⟩
     · have := hv.nat
       have hk' : k < l[j].2.1.length := by rw [hv.dep]; exact hk
       rw [List.getElem?_eq_getElem hk']
       exact this _ (List.getElem_mem hk')
     · unfold z19z; omega
     · unfold zi4; omega
     · unfold z1m9; omega
   · exact ha j hj (by omega)
theorem z1tv {l : List T1} {f : T5 → Option Bool} (hl : l.length ≤ 9223372036854775807) (hw : ∀ e, e ∈ l → EvW e) (h : ∀ L s, TakeOk L → L.length ≤ 100 → StOk L (z6q L) s → Sm s → Ok (f s) fun r => r = true) :
   Ok ((zd6).bind fun r => bif !r then (zd6).bind fun r2 => some r2 else (zro l).bind fun r3 => bif !r3 then (zd6).bind fun r4 => some r4 else (zrl l).bind fun r5 => (zet r5).bind f) fun r => r = true := by
 refine ok_eq z1md (z0i (z0e ?_))
 refine z1f (z1w6 hl hw) ?_
 intro b hb
 refine z0i (ok_if (fun e => ?_) fun _ => ?_)
 · obtain ⟨h1, h2⟩ := hb e
   refine z1f (z1x9 (by omega) h2) ?_
   rintro L ⟨hL, hL2⟩
   refine z1f (z1v2 hL.evs) ?_
   intro s hs
   exact h L s hL hL2 hs (z1cj hs (by omega))
 · exact ok_eq z1md (z0d rfl)
end Go.Proofs.Ytfbdjicfkcklfaa
set_option maxRecDepth 100000
set_option linter.unusedSimpArgs false
set_option linter.unusedVariables false
namespace Go.Proofs.Ytfbdjicfkcklfaa
open Go.Tm Go.Ab
theorem zsy {b base : List Int} (hb : VecOk b) (h : VecOk base) : goneV b base = true ↔ ∃ i, i < 8 ∧ 0 < (b[i]?).getD 0 ∧ (b[i]?).getD 0 ≤ (base[i]?).getD 0 := by
 have hl := z1cl hb h
 unfold VecOk at hb h
 unfold goneV
 simp only [List.any_eq_true, decide_eq_true_eq]
 constructor
 · rintro ⟨x, hx, h1⟩
   rw [List.mem_iff_getElem] at hx
   obtain ⟨i, hi, rfl⟩ := hx
   simp only [List.getElem_zip] at h1
   refine ⟨i, by omega, ?_⟩
   simp only [List.getElem?_eq_getElem (show i < b.length by omega), List.getElem?_eq_getElem (show i < base.length by omega), Option.getD_some]
   exact h1
 · rintro ⟨i, hi, h1⟩
   simp only [List.getElem?_eq_getElem (show i < b.length by omega), List.getElem?_eq_getElem (show i < base.length by omega), Option.getD_some] at h1
   exact ⟨(b[i], base[i]), by rw [List.mem_iff_getElem]; exact ⟨i, by omega, by simp⟩, h1⟩
theorem z1hw {b a c : List Int} (hb : VecOk b) (ha : VecOk a) (hc : VecOk c) (h : leV a c) (g : goneV b a = true) : goneV b c = true := by
 rw [zsy hb ha] at g
 rw [zsy hb hc]
 obtain ⟨i, h1, h2, h3⟩ := g
 exact ⟨i, h1, h2, Int.le_trans h3 (h i h1)⟩
theorem z1o1 {b a c : List Int} (hb : VecOk b) (ha : VecOk a) (hc : VecOk c) (h : leV b c) (g : goneV b a = true) : goneV b c = true := by
 rw [zsy hb ha] at g
 rw [zsy hb hc]
 obtain ⟨i, h1, h2, h3⟩ := g
 exact ⟨i, h1, h2, h i h1⟩
theorem zsf {b base : List Int} (h : VecOk base) (g : z2n b = true) : goneV b base = false := by
 have e : b = List.replicate 8 (0 : Int) := of_decide_eq_true g
 subst e
 rw [← Bool.not_eq_true, zsy (List.length_replicate ..) h]
 rintro ⟨i, h1, h2, _⟩
 have := z1fa i
 unfold zeroV at this
 rw [this] at h2
 omega
theorem z1mr {b K : List Int} (hb : VecOk b) (hK : VecOk K) (hn : natV b) (hle : leV b K) (h : goneV b K = false) : z2n b = true := by
 unfold z2n
 rw [decide_eq_true_eq, List.eq_replicate_iff]
 refine ⟨hb, fun x hx => ?_⟩
 obtain ⟨i, hi, rfl⟩ := List.mem_iff_getElem.1 hx
 have hb' : b.length = 8 := hb
 rw [← Bool.not_eq_true, zsy hb hK] at h
 have h1 := hn i (by omega)
 have h2 := hle i (by omega)
 rw [List.getElem?_eq_getElem hi, Option.getD_some] at h1 h2
 by_cases h0 : b[i] = 0
 · exact h0
 · exact absurd ⟨i, by omega, by rw [List.getElem?_eq_getElem hi, Option.getD_some]; omega, by rw [List.getElem?_eq_getElem hi, Option.getD_some]; exact h2⟩ h
theorem z1kf {a c : List Int} (h : leV a c) {id : T0} (g : hasV a id = true) : hasV c id = true := by
 unfold hasV at *
 rw [Bool.and_eq_true] at *
 exact ⟨g.1, leI_t (Int.le_trans (of_decide_eq_true g.2) (z1l5 h _))⟩
theorem z1nu {l : List T3} {base : List Int} (h : VecOk base) : zg6 (zg9 l base) = zg6 l := by
 unfold zg6 zg9
 rw [List.filter_filter]
 congr 1; funext v
 cases e : z2n v.2.2 with
 | false => rfl
 | true => rw [zsf h e]; rfl
theorem z18c {l : List T3} {base : List Int} (h : VecOk base) (seen : List Int) : z14f (zg9 l base) seen = z14f l seen := by
 unfold z14f
 rw [z1nu h]
structure Less (s : T5) (a c : List Int) : Prop where
 va : VecOk a
 vc : VecOk c
 ent : ∀ x, x ∈ s.2.2.1 → goneV x.2.2.2.2 a = true → goneV x.2.2.2.2 c = true
 ver : ∀ o, o ∈ s.2.1 → ∀ v, v ∈ o.2.2.2.2.2 → goneV v.2.2 a = true → goneV v.2.2 c = true
 id : ∀ o, o ∈ s.2.1 → hasV a o.1 = true → hasV c o.1 = true
 vid : ∀ o, o ∈ s.2.1 → ∀ v, v ∈ o.2.2.2.2.2 → hasV a v.1 = true → hasV c v.1 = true
 seen : ∀ o, o ∈ s.2.1 → leqV o.2.2.2.2.1 a = true → leqV o.2.2.2.2.1 c = true
theorem z19o {α : Type} {p q : α → Bool} {l : List α} (h : ∀ x, x ∈ l → p x = false → q x = false) : (l.filter p).filter q = l.filter q := by
 rw [List.filter_filter]
 apply List.filter_congr
 intro x hx
 cases hp : p x with
 | true => rw [Bool.and_true]
 | false => rw [h x hx hp]; rfl
theorem z1mq {s : T5} {a c : List Int} (h : Less s a c) : z3v (z3v s.2.2.1 a) c = z3v s.2.2.1 c :=
 z19o fun x hx e => by
   rw [Bool.not_eq_false'] at e ⊢
   exact h.ent x hx e
theorem z1o5 {s : T5} {a c : List Int} (h : Less s a c) {o : T4} (ho : o ∈ s.2.1) : zg9 (zg9 o.2.2.2.2.2 a) c = zg9 o.2.2.2.2.2 c :=
 z19o fun x hx e => by
   rw [Bool.not_eq_false'] at e ⊢
   exact h.ver o ho x hx e
theorem z1pp {s : T5} {a c : List Int} (h : Less s a c) {o : T4} (ho : o ∈ s.2.1) (g : z3c (z3v s.2.2.1 a) (z5a a o) a = false) : z3c (z3v s.2.2.1 c) (z5a c o) c = false := by
 unfold z3c at g ⊢
 simp only [Bool.or_eq_false_iff, Bool.not_eq_false'] at g ⊢
 obtain ⟨g1, g2, g3, g4, g5⟩ := g
 simp only [z5a] at g1 g2 g3 g4 g5 ⊢
 refine ⟨h.id o ho g1, h.seen o ho g2, ?_, ?_, ?_⟩
 · rw [z18c h.vc]
   rw [z18c h.va] at g3
   exact g3
 · rw [List.any_eq_false] at g4 ⊢
   intro v hv
   obtain ⟨hv1, hv2⟩ := List.mem_filter.1 hv
   have hv3 : v ∈ zg9 o.2.2.2.2.2 a := List.mem_filter.2 ⟨hv1, by
     cases e : goneV v.2.2 a with
     | false => rfl
     | true => rw [h.ver o ho v hv1 e] at hv2; cases hv2⟩
   have := g4 v hv3
   simp only [Bool.not_eq_true', Bool.not_eq_false] at this ⊢
   exact h.vid o ho v hv1 this
 · unfold usesV at *
   rw [List.any_eq_false] at g5 ⊢
   intro x hx
   obtain ⟨hx1, hx2⟩ := List.mem_filter.1 hx
   exact g5 x (List.mem_filter.2 ⟨hx1, by
     cases e : goneV x.2.2.2.2 a with
     | false => rfl
     | true => rw [h.ent x hx1 e] at hx2; cases hx2⟩)
theorem zx9 {α β γ : Type} {f : α → β} {p : β → Bool} {g : β → γ} {q : γ → Bool} {k : α → γ} : ∀ (l : List α), (∀ x, x ∈ l → g (f x) = k x ∧ (p (f x) = false → q (k x) = false)) → (((l.map f).filter p).map g).filter q = (l.map k).filter q
 | [], _ => rfl
 | x :: l, h => by
   have ih := zx9 l fun y hy => h y (List.mem_cons_of_mem _ hy)
   obtain ⟨h1, h2⟩ := h x (List.mem_cons_self ..)
   simp only [List.map_cons, List.filter_cons]
   cases hp : p (f x) with
   | true => simp only [if_true, List.map_cons, List.filter_cons, h1, ih]
   | false =>
     rw [h2 hp]
     simp only [Bool.false_eq_true, if_false]
     exact ih
theorem zzq {s : T5} {a c : List Int} (h : Less s a c) : z3g (z3g s a) c = z3g s c := by
 have e1 := z1mq h
 have e2 : (((s.2.1.map (z5a a)).filter (fun o => z3c (z3v s.2.2.1 a) o a)).map (z5a c)).filter (fun o => z3c (z3v s.2.2.1 c) o c) = (s.2.1.map (z5a c)).filter (fun o => z3c (z3v s.2.2.1 c) o c) :=
   zx9 _ fun o ho => ⟨by unfold z5a; simp only [z1o5 h ho], z1pp h ho⟩
 unfold z3g
 simp only [e1, e2]
theorem z1xe {s : T5} (hs : Sm s) {a c : List Int} (ha : VecOk a) (hc : VecOk c) (h : leV a c) : Less s a c where
 va := ha
 vc := hc
 ent := fun x hx => z1hw (hs.ent x hx) ha hc h
 ver := fun o ho v hv => z1hw ((hs.obj o ho).vers v hv) ha hc h
 id := fun o ho => z1kf h
 vid := fun o ho v hv => z1kf h
 seen := fun o ho g => by
   rw [zp7 (hs.obj o ho).seen ha] at g
   rw [zp7 (hs.obj o ho).seen hc]
   exact z11k g h
end Go.Proofs.Ytfbdjicfkcklfaa
set_option maxRecDepth 100000
set_option maxHeartbeats 2000000
set_option linter.unusedSimpArgs false
set_option linter.unusedVariables false
namespace Go.Proofs.Ytfbdjicfkcklfaa
open Go.Tm Go.Ab
theorem hasK {L : List T1} (hL : TakeOk L) {e : T1} (he : e ∈ L) : hasV (z6q L) e.1 = true := by
 unfold hasV
 rw [ltI_t (by have := hL.seq e he; omega), leI_t (hL.evs.means e he)]; rfl
structure KOk (s : T5) : Prop where
 sm : Sm s
 id : ∀ o, o ∈ s.2.1 → hasV s.1 o.1 = true
 vid : ∀ o, o ∈ s.2.1 → ∀ v, v ∈ o.2.2.2.2.2 → hasV s.1 v.1 = true
 seen : ∀ o, o ∈ s.2.1 → leqV o.2.2.2.2.1 s.1 = true
 ent : ∀ x, x ∈ s.2.2.1 → natV x.2.2.2.2 ∧ leV x.2.2.2.2 s.1
 ver : ∀ o, o ∈ s.2.1 → ∀ v, v ∈ o.2.2.2.2.2 → natV v.2.2 ∧ leV v.2.2 s.1
theorem z1xq {L : List T1} {s : T5} (hL : TakeOk L) (hs : StOk L (z6q L) s) (hsm : Sm s) : KOk s where
 sm := hsm
 id := fun o ho => by
   obtain ⟨e, h1, _, h2⟩ := hs.mem o ho
   rw [hs.known, h2]; exact hasK hL h1
 vid := fun o ho v hv => by
   obtain ⟨e, h1, h2, _⟩ := ((hs.obj o ho).vers v hv).ev
   rw [hs.known, h2]; exact hasK hL h1
 seen := fun o ho => by
   rw [hs.known, zp7 (hs.obj o ho).seen.v (zca L).1]
   exact (hs.obj o ho).seen.le
 ent := fun x hx => ⟨(hs.ent x hx).by'.n, by rw [hs.known]; exact (hs.ent x hx).by'.le⟩
 ver := fun o ho v hv => ⟨((hs.obj o ho).vers v hv).by'.n, by rw [hs.known]; exact ((hs.obj o ho).vers v hv).by'.le⟩
theorem z1qj {s : T5} (h : KOk s) {a : List Int} (ha : VecOk a) : Less s a s.1 where
 va := ha
 vc := h.sm.known
 ent := fun x hx => z1o1 (h.sm.ent x hx) ha h.sm.known (h.ent x hx).2
 ver := fun o ho v hv => z1o1 ((h.sm.obj o ho).vers v hv) ha h.sm.known (h.ver o ho v hv).2
 id := fun o ho _ => h.id o ho
 vid := fun o ho v hv _ => h.vid o ho v hv
 seen := fun o ho _ => h.seen o ho
theorem z1ap {s : T5} (h : KOk s) {x : T2} (hx : x ∈ z3v s.2.2.1 s.1) : z2n x.2.2.2.2 = true := by
 obtain ⟨h1, h2⟩ := List.mem_filter.1 hx
 exact z1mr (h.sm.ent x h1) h.sm.known (h.ent x h1).1 (h.ent x h1).2 (by simpa using h2)
theorem z1bh {s : T5} (h : KOk s) {o : T4} (ho : o ∈ s.2.1) {v : T3} (hv : v ∈ zg9 o.2.2.2.2.2 s.1) : z2n v.2.2 = true := by
 obtain ⟨h1, h2⟩ := List.mem_filter.1 hv
 exact z1mr ((h.sm.obj o ho).vers v h1) h.sm.known (h.ver o ho v h1).1 (h.ver o ho v h1).2 (by simpa using h2)
theorem z1ox {α : Type} (f : α → Nat) : ∀ (l : List α), (∀ x, x ∈ l → f x = 0) → (l.map f).sum = 0
 | [], _ => rfl
 | a :: l, h => by rw [List.map_cons, List.sum_cons, h a (List.mem_cons_self ..), z1ox f l fun x hx => h x (List.mem_cons_of_mem _ hx)]
theorem z11o {s : T5} {base : List Int} {o : T4} (h : o ∈ (z3g s base).2.1) : ∃ x, x ∈ s.2.1 ∧ o = z5a base x ∧ z3c (z3v s.2.2.1 base) o base = true := by
 obtain ⟨h1, h2⟩ := List.mem_filter.1 h
 simp only [List.mem_map] at h1
 obtain ⟨x, hx, rfl⟩ := h1
 exact ⟨x, hx, rfl, h2⟩
theorem z1ue {s : T5} (h : KOk s) : deadV (z3g s s.1) = 0 := by
 have h1 : List.countP (fun x : T2 => !z2n x.2.2.2.2) (z3v s.2.2.1 s.1) = 0 := List.countP_eq_zero.2 fun x hx => by rw [z1ap h hx]; simp
 have h2 : ((z3g s s.1).2.1.map (cntO (z3v s.2.2.1 s.1) s.1)).sum = 0 := z1ox _ _ fun o ho => by
   obtain ⟨x, hx, rfl, hw⟩ := z11o ho
   have h3 : List.countP (fun v : T3 => !z2n v.2.2) (z5a s.1 x).2.2.2.2.2 = 0 := List.countP_eq_zero.2 fun v hv => by rw [z1bh h hx hv]; simp
   unfold cntO
   rw [h3, hw]; rfl
 unfold deadV
 show List.countP (fun x : T2 => !z2n x.2.2.2.2) (z3v s.2.2.1 s.1) + ((z3g s s.1).2.1.map (cntO (z3v s.2.2.1 s.1) s.1)).sum = 0
 rw [h1, h2]
theorem z1lo {s : T5} (h : KOk s) {base : List Int} (hb : VecOk base) : z3g (z3g s s.1) base = z3g s s.1 := by
 have e1 : z3v (z3v s.2.2.1 s.1) base = z3v s.2.2.1 s.1 := List.filter_eq_self.2 fun x hx => by
   rw [zsf hb (z1ap h hx)]; rfl
 have e2 : (z3g s s.1).2.1.map (z5a base) = (z3g s s.1).2.1 := by
   rw [List.map_congr_left (g := id), List.map_id]
   intro o ho
   obtain ⟨x, hx, rfl, hw⟩ := z11o ho
   have : zg9 (z5a s.1 x).2.2.2.2.2 base = (z5a s.1 x).2.2.2.2.2 := List.filter_eq_self.2 fun v hv => by
     rw [zsf hb (z1bh h hx hv)]; rfl
   unfold z5a at this ⊢
   simp only [this]; rfl
 have e3 : (z3g s s.1).2.1.filter (fun o => z3c (z3v s.2.2.1 s.1) o base) = (z3g s s.1).2.1 := List.filter_eq_self.2 fun o ho => by
   obtain ⟨x, hx, rfl, hw⟩ := z11o ho
   have k1 : hasV s.1 (z5a s.1 x).1 = true := h.id x hx
   have k2 : leqV (z5a s.1 x).2.2.2.2.1 s.1 = true := h.seen x hx
   have k3 : ((z5a s.1 x).2.2.2.2.2.any fun v => !hasV s.1 v.1) = false := by
     rw [List.any_eq_false]
     intro v hv
     rw [h.vid x hx v (List.mem_filter.1 hv).1]; simp
   unfold z3c at hw ⊢
   rw [k1, k2, k3] at hw
   simp only [Bool.not_true, Bool.false_or, Bool.or_eq_true] at hw ⊢
   rcases hw with hw | hw
   · exact .inr (.inr (.inl hw))
   · exact .inr (.inr (.inr (.inr hw)))
 show (s.1, ((z3g s s.1).2.1.map (z5a base)).filter (fun o => z3c (z3v (z3v s.2.2.1 s.1) base) o base), z3v (z3v s.2.2.1 s.1) base, s.2.2.2.1, s.2.2.2.2) = z3g s s.1
 rw [e1, e2, e3]; rfl
theorem z1gb {α : Type} (f g : α → Nat) (p : α → Bool) : ∀ (l : List α), (∀ x, x ∈ l → f x ≤ g x + 1) → ((l.filter p).map f).sum ≤ (l.map g).sum + l.length
 | [], _ => Nat.zero_le _
 | a :: l, h => by
   have ih := z1gb f g p l fun x hx => h x (List.mem_cons_of_mem _ hx)
   have := h a (List.mem_cons_self ..)
   rw [List.filter_cons]
   split
   · simp only [List.map_cons, List.sum_cons, List.length_cons]; omega
   · simp only [List.map_cons, List.sum_cons, List.length_cons]; omega
theorem z1ti {s : T5} (base : List Int) : deadV (z3g s base) ≤ deadV s + s.2.1.length := by
 have h1 : List.countP (fun x : T2 => !z2n x.2.2.2.2) (z3v s.2.2.1 base) ≤ List.countP (fun x : T2 => !z2n x.2.2.2.2) s.2.2.1 := List.Sublist.countP_le (List.filter_sublist ..)
 have h2 := z1gb (cntO (z3v s.2.2.1 base) s.1) (fun o => List.countP (fun v : T3 => !z2n v.2.2) o.2.2.2.2.2) (fun o => z3c (z3v s.2.2.1 base) o base) (s.2.1.map (z5a base)) fun o ho => by
   unfold cntO
   split <;> omega
 have h3 : ∀ (l : List T4), ((l.map (z5a base)).map (fun o => List.countP (fun v : T3 => !z2n v.2.2) o.2.2.2.2.2)).sum ≤ (l.map (cntO s.2.2.1 s.1)).sum := by
   intro l
   induction l with
   | nil => exact Nat.le_refl _
   | cons o l ih =>
     simp only [List.map_cons, List.sum_cons]
     have : List.countP (fun v : T3 => !z2n v.2.2) (z5a base o).2.2.2.2.2 ≤ List.countP (fun v : T3 => !z2n v.2.2) o.2.2.2.2.2 := List.Sublist.countP_le (List.filter_sublist ..)
     have hc : List.countP (fun v : T3 => !z2n v.2.2) o.2.2.2.2.2 ≤ cntO s.2.2.1 s.1 o := by unfold cntO; omega
     omega
 have h4 := h3 s.2.1
 rw [List.length_map] at h2
 unfold deadV
 show List.countP (fun x : T2 => !z2n x.2.2.2.2) (z3v s.2.2.1 base) + (((s.2.1.map (z5a base)).filter (fun o => z3c (z3v s.2.2.1 base) o base)).map (cntO (z3v s.2.2.1 base) s.1)).sum ≤ _
 omega
theorem z1qu {s : T5} (h : Sm s) : deadV s ≤ 1002000 := by
 have h1 := z1pz h s.2.1.length (Nat.le_refl _)
 rw [List.take_length] at h1
 have h2 : List.countP (fun x : T2 => !z2n x.2.2.2.2) s.2.2.1 ≤ s.2.2.1.length := List.countP_le_length
 have h3 := h.elen
 unfold deadV
 omega
theorem z1uy (l : List T1) (base : List Int) (hl : l.length ≤ 9223372036854775807) (hw : ∀ e, e ∈ l → EvW e) (hb : VecOk base) : zsw l base = some true := by
 refine ok_is ?_
 unfold zsw
 refine z1tv (f := fun r6 => _) hl hw fun L s hL hL2 hs hsm => ?_
 have hk := z1xq hL hs hsm
 have h7 := z1ii hsm s.1
 have h11 := z1ii hsm base
 have hK := hsm.known
 have k1 : (z3g s base).1 = s.1 := rfl
 have d7 := z1ue hk
 have e9 := z1lo hk hb
 have e12 := zzq (z1xe hsm hb hb (z1nj base))
 have e16 := zzq (z1qj hk hb)
 have hd := z1ti (s := s) base
 have hds := z1qu hsm
 have hol := hsm.olen
 have w : W64 ((deadV s : Int) + (s.2.1.length : Int)) = ((deadV s + s.2.1.length : Nat) : Int) := z0r (by omega)
 refine ok_eq (zj3 hsm hK) (ok_eq (z1cq h7) ?_)
 rw [d7]
 refine z0k (fun h => (h rfl).elim) (fun _ => ?_)
 refine ok_eq (zj3 h7 hb) ?_
 rw [e9]
 refine ok_eq (z1b0 h7) (z0i (z0e ?_))
 refine ok_eq (zj3 hsm hb) (ok_eq (zj3 h11 hb) ?_)
 rw [e12]
 refine ok_eq (z1b0 h11) (z0e ?_)
 refine ok_eq (z1cq h11) (ok_eq (z1cq hsm) (z8t (by omega) ?_))
 refine ok_le (fun _ => ?_) (fun h => by rw [w] at h; omega)
 refine ok_eq (zj3 h11 hK) ?_
 rw [e16]
 exact ok_eq (z1b0 h7) (z0d rfl)
end Go.Proofs.Ytfbdjicfkcklfaa