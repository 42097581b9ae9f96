import Derived.Test.YtfbdjicfkcklfaaSwJtoN
import Derived.Test.YtfbdjicfkcklfaaTm21to25
import Derived.Test.YtfbdjicfkcklfaaSwAbtoD
set_option maxRecDepth 100000
set_option maxHeartbeats 2000000
set_option linter.unusedSimpArgs false
set_option linter.unusedVariables false
namespace Go.Proofs.Ytfbdjicfkcklfaa
open Go.Tm Go.Ab
structure EvW (e : T1) : Prop where
 dep : e.2.1.length = 8
 nat : ∀ x, x ∈ e.2.1 → 0 ≤ x
 off : -9223372036854775808 ≤ evOff e ∧ evOff e ≤ 9223372036854775807
 name : e.2.2.2.2.2.1.length ≤ 9223372036854775807
 gone : e.2.2.2.2.2.2.1.length ≤ 9223372036854775807
 base : e.2.2.2.2.2.2.2.1.length ≤ 9223372036854775807
 data : e.2.2.2.2.2.2.2.2.2.1.length ≤ 9223372036854775807
theorem z24m {e : c9.T} (h : wfU c9 e) (g : limU c9 e) : EvW e := by
 obtain ⟨_, h2, _, _, _, _, _, _, h9, _⟩ := h
 obtain ⟨_, _, _, _, _, g6, g7, g8, _, g10, _⟩ := g
 exact ⟨h2.1, fun x hx => (h2.2 x hx).1, h9, g6, g7.1, g8.1, g10⟩
theorem z21w {l : List T1} (hl : l.length ≤ 9223372036854775807) (hw : ∀ e, e ∈ l → EvW e) : Ok (zu2 l) fun r => r = true → l.length ≤ 25 ∧ ∀ e, e ∈ l → EvIn e := by
 unfold zu2
 refine zap hl (ok_lt (fun _ => z0d fun h => by cases h) fun h25 => ?_)
 refine zap hl (z0a (z1k l.length (fun i (_ : Unit) => (l, (l.length : Int), (i : Int))) (fun i _ => ∀ j (h : j < l.length), j < i → EvIn l[j]) () rfl (fun j _ h => by omega) (fun _ ha => ?_) fun i _ hi ha => ?_))
 · unfold z5s zih
   dsimp only
   repeat' first
     | (dsimp only [Int.toNat_natCast, List.length_nil])
     | with_reducible first | refine z0g ?_ | refine z0f ?_ | refine z0d ?_ | refine z0e ?_ | refine z0b ?_ | refine z0i ?_ | refine qs ?_ | refine qb ?_ | refine z0j ?_ | refine qw ?_ | refine z0m ?_ | refine z0k ?_ | refine qi ?_ | refine qg (h := ?_) | refine qx (h := ?_) | refine qy (h := ?_) | refine qa ?_ | refine qc ?_ | refine ql ?_ | refine qp ?_ | refine z0a ?_ | rfl
     | (with_reducible first | refine ok_lt ?_ ?_ | refine ok_le ?_ ?_ | refine z0h ?_ ?_ | refine z0l ?_ ?_ | refine z0n ?_ ?_ | refine qu ?_ ?_ | refine ok_if ?_ ?_) <;> intro _ <;> try (exfalso; omega)
   refine fun _ => ⟨by omega, fun e he => ?_⟩
   obtain ⟨j, hj, rfl⟩ := List.mem_iff_getElem.1 he
   exact ha j hj hj
 · unfold z5s zih
   dsimp only
   have hv := hw _ (List.getElem_mem hi)
   have v4 := hv.name
   have v5 := hv.gone
   have v6 := hv.base
   have v7 := hv.data
   repeat' first
     | (dsimp only [Int.toNat_natCast, List.length_nil])
     | with_reducible first | refine z0g ?_ | refine z0f ?_ | refine z0d ?_ | refine z0e ?_ | refine z0b ?_ | refine z0i ?_ | refine qs ?_ | refine qb ?_ | refine z0j ?_ | refine qw ?_ | refine z0m ?_ | refine z0k ?_ | refine qi ?_ | refine qg (h := ?_) | refine qx (h := ?_) | refine qy (h := ?_) | refine qa ?_ | refine qc ?_ | refine ql ?_ | refine qp ?_ | refine z0a ?_ | rfl
     | (with_reducible first | refine ok_lt ?_ ?_ | refine ok_le ?_ ?_ | refine z0h ?_ ?_ | refine z0l ?_ ?_ | refine z0n ?_ ?_ | refine qu ?_ ?_ | refine ok_if ?_ ?_) <;> intro _ <;> try (exfalso; omega)
   all_goals first
     | (intro h; cases h; done)
     | skip
   refine ⟨(), by rw [z0r (by omega)]; rfl, fun j hj hlt => ?_⟩
   by_cases e : j = i
   · subst e
     refine ⟨hv.dep, fun k hk => ?_, by omega, ?_, ?_, ?_, hv.off⟩
     · have := hv.nat
       have hk' : k < l[j].2.1.length := by rw [hv.dep]; exact hk
       rw [List.getElem?_eq_getElem hk']
       exact this _ (List.getElem_mem hk')
     · unfold z1ga; omega
     · unfold zju; omega
     · unfold z1tk; omega
   · exact ha j hj (by omega)
theorem z1yd {l : List T1} {f : T5 → Option Bool} (hl : l.length ≤ 9223372036854775807) (hw : ∀ e, e ∈ l → EvW e) (h : ∀ L s, TakeOk L → L.length ≤ 100 → StOk L (z8q L) s → Sm s → Ok (f s) fun r => r = true) :
   Ok ((ze2).bind fun r => bif !r then (ze2).bind fun r2 => some r2 else (zu2 l).bind fun r3 => bif !r3 then (ze2).bind fun r4 => some r4 else (zto l).bind fun r5 => (zfu r5).bind f) fun r => r = true := by
 refine ok_eq z1th (z0i (z0e ?_))
 refine z1e (z21w hl hw) ?_
 intro b hb
 refine z0i (ok_if (fun e => ?_) fun _ => ?_)
 · obtain ⟨h1, h2⟩ := hb e
   refine z1e (z23j (by omega) h2) ?_
   rintro L ⟨hL, hL2⟩
   refine z1e (z1zt hL.evs) ?_
   intro s hs
   exact h L s hL hL2 hs (z1hr hs (by omega))
 · exact ok_eq z1th (z0d rfl)
end Go.Proofs.Ytfbdjicfkcklfaa
set_option maxRecDepth 100000
set_option maxHeartbeats 2000000
set_option linter.unusedSimpArgs false
set_option linter.unusedVariables false
namespace Go.Proofs.Ytfbdjicfkcklfaa
open Go.Tm Go.Ab
theorem z1pd {b base : List Int} (hb : VecOk b) (h : VecOk base) : ztm b base = some (goneV b base) := by
 have hl := z1hg hb h
 have hb' : b.length = 8 := hb
 have h' : base.length = 8 := h
 have key := zkg z5k (List.zip b base) (fun i => ((i : Int), b, base)) (fun x => decide (0 < x.1 ∧ x.1 ≤ x.2)) (.inr true) (.inl ())
   (ok_is (by
     rw [hl]
     unfold z5k zkr
     dsimp only
     repeat' first
       | (dsimp only [Int.toNat_natCast, List.length_nil])
       | with_reducible first | refine z0g ?_ | refine z0f ?_ | refine z0d ?_ | refine z0e ?_ | refine z0b ?_ | refine z0i ?_ | refine qs ?_ | refine qb ?_ | refine z0j ?_ | refine qw ?_ | refine z0m ?_ | refine z0k ?_ | refine qi ?_ | refine qg (h := ?_) | refine qx (h := ?_) | refine qy (h := ?_) | refine qa ?_ | refine qc ?_ | refine ql ?_ | refine qp ?_ | refine z0a ?_ | rfl
       | (with_reducible first | refine ok_lt ?_ ?_ | refine ok_le ?_ ?_ | refine z0h ?_ ?_ | refine z0l ?_ ?_ | refine z0n ?_ ?_ | refine qu ?_ ?_ | refine ok_if ?_ ?_) <;> intro _ <;> try (exfalso; omega))) (fun i hi => ok_is (by
     unfold z5k zkr
     dsimp only
     repeat' first
       | (dsimp only [Int.toNat_natCast, List.length_nil])
       | with_reducible first | refine z0g ?_ | refine z0f ?_ | refine z0d ?_ | refine z0e ?_ | refine z0b ?_ | refine z0i ?_ | refine qs ?_ | refine qb ?_ | refine z0j ?_ | refine qw ?_ | refine z0m ?_ | refine z0k ?_ | refine qi ?_ | refine qg (h := ?_) | refine qx (h := ?_) | refine qy (h := ?_) | refine qa ?_ | refine qc ?_ | refine ql ?_ | refine qp ?_ | refine z0a ?_ | rfl
       | (with_reducible first | refine ok_lt ?_ ?_ | refine ok_le ?_ ?_ | refine z0h ?_ ?_ | refine z0l ?_ ?_ | refine z0n ?_ ?_ | refine qu ?_ ?_ | refine ok_if ?_ ?_) <;> intro _ <;> try (exfalso; omega)
     all_goals first
       | rw [if_pos (by simp only [List.getElem_zip, decide_eq_true_eq]; omega)]
       | rw [if_neg (by simp only [List.getElem_zip, decide_eq_true_eq]; omega), z0r (by omega)]; rfl))
 refine ok_is ?_
 unfold ztm
 refine ok_eq key (zwv (fun e => ?_) fun e => ?_)
 · repeat' first
     | (dsimp only [Int.toNat_natCast, List.length_nil])
     | with_reducible first | refine z0g ?_ | refine z0f ?_ | refine z0d ?_ | refine z0e ?_ | refine z0b ?_ | refine z0i ?_ | refine qs ?_ | refine qb ?_ | refine z0j ?_ | refine qw ?_ | refine z0m ?_ | refine z0k ?_ | refine qi ?_ | refine qg (h := ?_) | refine qx (h := ?_) | refine qy (h := ?_) | refine qa ?_ | refine qc ?_ | refine ql ?_ | refine qp ?_ | refine z0a ?_ | rfl
     | (with_reducible first | refine ok_lt ?_ ?_ | refine ok_le ?_ ?_ | refine z0h ?_ ?_ | refine z0l ?_ ?_ | refine z0n ?_ ?_ | refine qu ?_ ?_ | refine ok_if ?_ ?_) <;> intro _ <;> try (exfalso; omega)
   exact e.symm
 · repeat' first
     | (dsimp only [Int.toNat_natCast, List.length_nil])
     | with_reducible first | refine z0g ?_ | refine z0f ?_ | refine z0d ?_ | refine z0e ?_ | refine z0b ?_ | refine z0i ?_ | refine qs ?_ | refine qb ?_ | refine z0j ?_ | refine qw ?_ | refine z0m ?_ | refine z0k ?_ | refine qi ?_ | refine qg (h := ?_) | refine qx (h := ?_) | refine qy (h := ?_) | refine qa ?_ | refine qc ?_ | refine ql ?_ | refine qp ?_ | refine z0a ?_ | rfl
     | (with_reducible first | refine ok_lt ?_ ?_ | refine ok_le ?_ ?_ | refine z0h ?_ ?_ | refine z0l ?_ ?_ | refine z0n ?_ ?_ | refine qu ?_ ?_ | refine ok_if ?_ ?_) <;> intro _ <;> try (exfalso; omega)
   exact e.symm
theorem z1uh (l : List T3) (seen : List Int) : z1ax l seen = l.any fun v => z2c v.2.2 && !hasV seen v.1 := by
 unfold z1ax za7
 rw [List.any_filter]
theorem z1ur {l : List T3} {seen : List Int} (hl : l.length ≤ 2000) (hv : ∀ v, v ∈ l → VecOk v.2.2) (hs : VecOk seen) : zu9 l seen = some (z1ax l seen) := by
 refine ok_is ?_
 have key := zkg z4k l (fun i => (l, (i : Int), seen)) (fun v => z2c v.2.2 && !hasV seen v.1) (.inr true) (.inl ())
   (ok_is (by
     unfold z4k zi8
     dsimp only
     repeat' first
       | (dsimp only [Int.toNat_natCast, List.length_nil])
       | with_reducible first | refine z0g ?_ | refine z0f ?_ | refine z0d ?_ | refine z0e ?_ | refine z0b ?_ | refine z0i ?_ | refine qs ?_ | refine qb ?_ | refine z0j ?_ | refine qw ?_ | refine z0m ?_ | refine z0k ?_ | refine qi ?_ | refine qg (h := ?_) | refine qx (h := ?_) | refine qy (h := ?_) | refine qa ?_ | refine qc ?_ | refine ql ?_ | refine qp ?_ | refine z0a ?_ | rfl
       | (with_reducible first | refine ok_lt ?_ ?_ | refine ok_le ?_ ?_ | refine z0h ?_ ?_ | refine z0l ?_ ?_ | refine z0n ?_ ?_ | refine qu ?_ ?_ | refine ok_if ?_ ?_) <;> intro _ <;> try (exfalso; omega))) (fun i hi => ok_is (by
     have hm := hv _ (List.getElem_mem hi)
     unfold z4k zi8
     dsimp only
     repeat' first
       | (dsimp only [Int.toNat_natCast, List.length_nil])
       | ((with_reducible refine ok_eq (z1pn _ hm) ?_))
       | ((with_reducible refine ok_eq (zvd hs _) ?_))
       | with_reducible first | refine z0g ?_ | refine z0f ?_ | refine z0d ?_ | refine z0e ?_ | refine z0b ?_ | refine z0i ?_ | refine qs ?_ | refine qb ?_ | refine z0j ?_ | refine qw ?_ | refine z0m ?_ | refine z0k ?_ | refine qi ?_ | refine qg (h := ?_) | refine qx (h := ?_) | refine qy (h := ?_) | refine qa ?_ | refine qc ?_ | refine ql ?_ | refine qp ?_ | refine z0a ?_ | rfl
       | (with_reducible first | refine ok_lt ?_ ?_ | refine ok_le ?_ ?_ | refine z0h ?_ ?_ | refine z0l ?_ ?_ | refine z0n ?_ ?_ | refine qu ?_ ?_ | refine ok_if ?_ ?_) <;> intro _ <;> try (exfalso; omega)
     all_goals
       simp only [*, Bool.true_and, Bool.false_and, Bool.not_true, Bool.not_false, if_true, Bool.false_eq_true, if_false]
     all_goals first | rfl | (rw [z0r (by omega)]; rfl)))
 rw [z1uh]
 unfold zu9
 refine ok_eq key (zwv (fun e => ?_) fun e => ?_)
 · repeat' first
     | (dsimp only [Int.toNat_natCast, List.length_nil])
     | with_reducible first | refine z0g ?_ | refine z0f ?_ | refine z0d ?_ | refine z0e ?_ | refine z0b ?_ | refine z0i ?_ | refine qs ?_ | refine qb ?_ | refine z0j ?_ | refine qw ?_ | refine z0m ?_ | refine z0k ?_ | refine qi ?_ | refine qg (h := ?_) | refine qx (h := ?_) | refine qy (h := ?_) | refine qa ?_ | refine qc ?_ | refine ql ?_ | refine qp ?_ | refine z0a ?_ | rfl
     | (with_reducible first | refine ok_lt ?_ ?_ | refine ok_le ?_ ?_ | refine z0h ?_ ?_ | refine z0l ?_ ?_ | refine z0n ?_ ?_ | refine qu ?_ ?_ | refine ok_if ?_ ?_) <;> intro _ <;> try (exfalso; omega)
   exact e.symm
 · repeat' first
     | (dsimp only [Int.toNat_natCast, List.length_nil])
     | with_reducible first | refine z0g ?_ | refine z0f ?_ | refine z0d ?_ | refine z0e ?_ | refine z0b ?_ | refine z0i ?_ | refine qs ?_ | refine qb ?_ | refine z0j ?_ | refine qw ?_ | refine z0m ?_ | refine z0k ?_ | refine qi ?_ | refine qg (h := ?_) | refine qx (h := ?_) | refine qy (h := ?_) | refine qa ?_ | refine qc ?_ | refine ql ?_ | refine qp ?_ | refine z0a ?_ | rfl
     | (with_reducible first | refine ok_lt ?_ ?_ | refine ok_le ?_ ?_ | refine z0h ?_ ?_ | refine z0l ?_ ?_ | refine z0n ?_ ?_ | refine qu ?_ ?_ | refine ok_if ?_ ?_) <;> intro _ <;> try (exfalso; omega)
   exact e.symm
theorem z1u5 {l : List T2} {base : List Int} (hl : l.length ≤ 2000) (hb : VecOk base) (hv : ∀ x, x ∈ l → VecOk x.2.2.2.2) : zr7 l base = some (z9o l base) := by
 refine ok_is ?_
 unfold zr7
 repeat' first
   | (dsimp only [Int.toNat_natCast, List.length_nil])
   | with_reducible first | refine z0g ?_ | refine z0f ?_ | refine z0d ?_ | refine z0e ?_ | refine z0b ?_ | refine z0i ?_ | refine qs ?_ | refine qb ?_ | refine z0j ?_ | refine qw ?_ | refine z0m ?_ | refine z0k ?_ | refine qi ?_ | refine qg (h := ?_) | refine qx (h := ?_) | refine qy (h := ?_) | refine qa ?_ | refine qc ?_ | refine ql ?_ | refine qp ?_ | refine z0a ?_ | rfl
   | (with_reducible first | refine ok_lt ?_ ?_ | refine ok_le ?_ ?_ | refine z0h ?_ ?_ | refine z0l ?_ ?_ | refine z0n ?_ ?_ | refine qu ?_ ?_ | refine ok_if ?_ ?_) <;> intro _ <;> try (exfalso; omega)
 refine z1k l.length (fun i (_ : Unit) => (l, (i : Int), base, z9o (l.take i) base)) (fun _ _ => True) () rfl trivial (fun _ _ => ?_) fun i _ hi _ => ?_
 · unfold z3y zff
   dsimp only
   repeat' first
     | (dsimp only [Int.toNat_natCast, List.length_nil])
     | with_reducible first | refine z0g ?_ | refine z0f ?_ | refine z0d ?_ | refine z0e ?_ | refine z0b ?_ | refine z0i ?_ | refine qs ?_ | refine qb ?_ | refine z0j ?_ | refine qw ?_ | refine z0m ?_ | refine z0k ?_ | refine qi ?_ | refine qg (h := ?_) | refine qx (h := ?_) | refine qy (h := ?_) | refine qa ?_ | refine qc ?_ | refine ql ?_ | refine qp ?_ | refine z0a ?_ | rfl
     | (with_reducible first | refine ok_lt ?_ ?_ | refine ok_le ?_ ?_ | refine z0h ?_ ?_ | refine z0l ?_ ?_ | refine z0n ?_ ?_ | refine qu ?_ ?_ | refine ok_if ?_ ?_) <;> intro _ <;> try (exfalso; omega)
   rw [List.take_length]
 · unfold z3y zff
   dsimp only
   have hq : (z9o (l.take i) base).length ≤ 2000 := by
     have := z1be (l.take i) base
     simp only [List.length_take] at this
     omega
   have hs : z9o (l.take (i + 1)) base = if goneV l[i].2.2.2.2 base = true then z9o (l.take i) base else z9o (l.take i) base ++ [l[i]] := by
     unfold z9o
     rw [List.take_succ_eq_append_getElem hi, List.filter_append]
     cases h : goneV l[i].2.2.2.2 base <;> simp [h]
   have hm := hv _ (List.getElem_mem hi)
   repeat' first
     | (dsimp only [Int.toNat_natCast, List.length_nil])
     | ((with_reducible refine ok_eq (z1pd hm hb) ?_))
     | with_reducible first | refine z0g ?_ | refine z0f ?_ | refine z0d ?_ | refine z0e ?_ | refine z0b ?_ | refine z0i ?_ | refine qs ?_ | refine qb ?_ | refine z0j ?_ | refine qw ?_ | refine z0m ?_ | refine z0k ?_ | refine qi ?_ | refine qg (h := ?_) | refine qx (h := ?_) | refine qy (h := ?_) | refine qa ?_ | refine qc ?_ | refine ql ?_ | refine qp ?_ | refine z0a ?_ | rfl
     | (with_reducible first | refine ok_lt ?_ ?_ | refine ok_le ?_ ?_ | refine z0h ?_ ?_ | refine z0l ?_ ?_ | refine z0n ?_ ?_ | refine qu ?_ ?_ | refine ok_if ?_ ?_) <;> intro _ <;> try (exfalso; omega)
   all_goals
     rename_i e
     rw [e] at hs
     exact ⟨(), by rw [z0r (by omega), hs]; rfl, trivial⟩
theorem z1ux {l : List T3} {base : List Int} (hl : l.length ≤ 2000) (hb : VecOk base) (hv : ∀ x, x ∈ l → VecOk x.2.2) : zr9 l base = some (zjj l base) := by
 refine ok_is ?_
 unfold zr9
 repeat' first
   | (dsimp only [Int.toNat_natCast, List.length_nil])
   | with_reducible first | refine z0g ?_ | refine z0f ?_ | refine z0d ?_ | refine z0e ?_ | refine z0b ?_ | refine z0i ?_ | refine qs ?_ | refine qb ?_ | refine z0j ?_ | refine qw ?_ | refine z0m ?_ | refine z0k ?_ | refine qi ?_ | refine qg (h := ?_) | refine qx (h := ?_) | refine qy (h := ?_) | refine qa ?_ | refine qc ?_ | refine ql ?_ | refine qp ?_ | refine z0a ?_ | rfl
   | (with_reducible first | refine ok_lt ?_ ?_ | refine ok_le ?_ ?_ | refine z0h ?_ ?_ | refine z0l ?_ ?_ | refine z0n ?_ ?_ | refine qu ?_ ?_ | refine ok_if ?_ ?_) <;> intro _ <;> try (exfalso; omega)
 refine z1k l.length (fun i (_ : Unit) => (l, (i : Int), base, zjj (l.take i) base)) (fun _ _ => True) () rfl trivial (fun _ _ => ?_) fun i _ hi _ => ?_
 · unfold z4b zfn
   dsimp only
   repeat' first
     | (dsimp only [Int.toNat_natCast, List.length_nil])
     | with_reducible first | refine z0g ?_ | refine z0f ?_ | refine z0d ?_ | refine z0e ?_ | refine z0b ?_ | refine z0i ?_ | refine qs ?_ | refine qb ?_ | refine z0j ?_ | refine qw ?_ | refine z0m ?_ | refine z0k ?_ | refine qi ?_ | refine qg (h := ?_) | refine qx (h := ?_) | refine qy (h := ?_) | refine qa ?_ | refine qc ?_ | refine ql ?_ | refine qp ?_ | refine z0a ?_ | rfl
     | (with_reducible first | refine ok_lt ?_ ?_ | refine ok_le ?_ ?_ | refine z0h ?_ ?_ | refine z0l ?_ ?_ | refine z0n ?_ ?_ | refine qu ?_ ?_ | refine ok_if ?_ ?_) <;> intro _ <;> try (exfalso; omega)
   rw [List.take_length]
 · unfold z4b zfn
   dsimp only
   have hq : (zjj (l.take i) base).length ≤ 2000 := by
     have := z1l9 (l.take i) base
     simp only [List.length_take] at this
     omega
   have hs : zjj (l.take (i + 1)) base = if goneV l[i].2.2 base = true then zjj (l.take i) base else zjj (l.take i) base ++ [l[i]] := by
     unfold zjj
     rw [List.take_succ_eq_append_getElem hi, List.filter_append]
     cases h : goneV l[i].2.2 base <;> simp [h]
   have hm := hv _ (List.getElem_mem hi)
   repeat' first
     | (dsimp only [Int.toNat_natCast, List.length_nil])
     | ((with_reducible refine ok_eq (z1pd hm hb) ?_))
     | with_reducible first | refine z0g ?_ | refine z0f ?_ | refine z0d ?_ | refine z0e ?_ | refine z0b ?_ | refine z0i ?_ | refine qs ?_ | refine qb ?_ | refine z0j ?_ | refine qw ?_ | refine z0m ?_ | refine z0k ?_ | refine qi ?_ | refine qg (h := ?_) | refine qx (h := ?_) | refine qy (h := ?_) | refine qa ?_ | refine qc ?_ | refine ql ?_ | refine qp ?_ | refine z0a ?_ | rfl
     | (with_reducible first | refine ok_lt ?_ ?_ | refine ok_le ?_ ?_ | refine z0h ?_ ?_ | refine z0l ?_ ?_ | refine z0n ?_ ?_ | refine qu ?_ ?_ | refine ok_if ?_ ?_) <;> intro _ <;> try (exfalso; omega)
   all_goals
     rename_i e
     rw [e] at hs
     exact ⟨(), by rw [z0r (by omega), hs]; rfl, trivial⟩
theorem z1il {l : List T2} {o : T4} {base : List Int} (hl : l.length ≤ 1000) (ho : SmO o) (hb : VecOk base) : zjc l o base = some (z3c l o base) := by
 refine ok_is ?_
 have hlen := ho.len
 have key := zkg z4c l (fun i => (l, (i : Int), o, base)) (fun x : T2 => decide (x.2.2.2.1 = o.1) || decide (x.2.1 = o.1)) (.inr true) (.inl (o, base))
   (ok_is (by
     unfold z4c zi3
     dsimp only
     repeat' first
       | (dsimp only [Int.toNat_natCast, List.length_nil])
       | with_reducible first | refine z0g ?_ | refine z0f ?_ | refine z0d ?_ | refine z0e ?_ | refine z0b ?_ | refine z0i ?_ | refine qs ?_ | refine qb ?_ | refine z0j ?_ | refine qw ?_ | refine z0m ?_ | refine z0k ?_ | refine qi ?_ | refine qg (h := ?_) | refine qx (h := ?_) | refine qy (h := ?_) | refine qa ?_ | refine qc ?_ | refine ql ?_ | refine qp ?_ | refine z0a ?_ | rfl
       | (with_reducible first | refine ok_lt ?_ ?_ | refine ok_le ?_ ?_ | refine z0h ?_ ?_ | refine z0l ?_ ?_ | refine z0n ?_ ?_ | refine qu ?_ ?_ | refine ok_if ?_ ?_) <;> intro _ <;> try (exfalso; omega))) (fun i hi => ok_is (by
     unfold z4c zi3
     dsimp only
     repeat' first
       | (dsimp only [Int.toNat_natCast, List.length_nil])
       | ((with_reducible refine z0z ?_ ?_) <;> intro _)
       | with_reducible first | refine z0g ?_ | refine z0f ?_ | refine z0d ?_ | refine z0e ?_ | refine z0b ?_ | refine z0i ?_ | refine qs ?_ | refine qb ?_ | refine z0j ?_ | refine qw ?_ | refine z0m ?_ | refine z0k ?_ | refine qi ?_ | refine qg (h := ?_) | refine qx (h := ?_) | refine qy (h := ?_) | refine qa ?_ | refine qc ?_ | refine ql ?_ | refine qp ?_ | refine z0a ?_ | rfl
       | (with_reducible first | refine ok_lt ?_ ?_ | refine ok_le ?_ ?_ | refine z0h ?_ ?_ | refine z0l ?_ ?_ | refine z0n ?_ ?_ | refine qu ?_ ?_ | refine ok_if ?_ ?_) <;> intro _ <;> try (exfalso; omega)
     all_goals
       simp only [*, decide_true, decide_false, Bool.true_or, Bool.or_true, Bool.or_self, if_true, Bool.false_eq_true, if_false]
     all_goals first | rfl | (rw [z0r (by omega)]; rfl)))
 have key2 := zkg z3j o.2.2.2.2.2 (fun i => ((i : Int), o, base)) (fun v => !hasV base v.1) (.inr true) (.inl (o, base))
   (ok_is (by
     unfold z3j zgj
     dsimp only
     repeat' first
       | (dsimp only [Int.toNat_natCast, List.length_nil])
       | with_reducible first | refine z0g ?_ | refine z0f ?_ | refine z0d ?_ | refine z0e ?_ | refine z0b ?_ | refine z0i ?_ | refine qs ?_ | refine qb ?_ | refine z0j ?_ | refine qw ?_ | refine z0m ?_ | refine z0k ?_ | refine qi ?_ | refine qg (h := ?_) | refine qx (h := ?_) | refine qy (h := ?_) | refine qa ?_ | refine qc ?_ | refine ql ?_ | refine qp ?_ | refine z0a ?_ | rfl
       | (with_reducible first | refine ok_lt ?_ ?_ | refine ok_le ?_ ?_ | refine z0h ?_ ?_ | refine z0l ?_ ?_ | refine z0n ?_ ?_ | refine qu ?_ ?_ | refine ok_if ?_ ?_) <;> intro _ <;> try (exfalso; omega))) (fun i hi => ok_is (by
     unfold z3j zgj
     dsimp only
     repeat' first
       | (dsimp only [Int.toNat_natCast, List.length_nil])
       | ((with_reducible refine ok_eq (zvd hb _) ?_))
       | with_reducible first | refine z0g ?_ | refine z0f ?_ | refine z0d ?_ | refine z0e ?_ | refine z0b ?_ | refine z0i ?_ | refine qs ?_ | refine qb ?_ | refine z0j ?_ | refine qw ?_ | refine z0m ?_ | refine z0k ?_ | refine qi ?_ | refine qg (h := ?_) | refine qx (h := ?_) | refine qy (h := ?_) | refine qa ?_ | refine qc ?_ | refine ql ?_ | refine qp ?_ | refine z0a ?_ | rfl
       | (with_reducible first | refine ok_lt ?_ ?_ | refine ok_le ?_ ?_ | refine z0h ?_ ?_ | refine z0l ?_ ?_ | refine z0n ?_ ?_ | refine qu ?_ ?_ | refine ok_if ?_ ?_) <;> intro _ <;> try (exfalso; omega)
     all_goals first
       | (rename_i e; rw [e, z0r (by omega)]; rfl)
       | (rename_i e; rw [e]; rfl)))
 unfold zjc z3c usesV
 repeat' first
   | (dsimp only [Int.toNat_natCast, List.length_nil])
   | ((with_reducible refine ok_eq key (zwv (fun e => ?_) fun e => ?_)))
   | ((with_reducible refine ok_eq key2 (zwv (fun e2 => ?_) fun e2 => ?_)))
   | ((with_reducible refine ok_eq (zvd hb _) ?_))
   | ((with_reducible refine ok_eq (z1t7 ho.seen hb) ?_))
   | ((with_reducible refine ok_eq (z1ur (by omega) ho.vers ho.seen) ?_))
   | with_reducible first | refine z0g ?_ | refine z0f ?_ | refine z0d ?_ | refine z0e ?_ | refine z0b ?_ | refine z0i ?_ | refine qs ?_ | refine qb ?_ | refine z0j ?_ | refine qw ?_ | refine z0m ?_ | refine z0k ?_ | refine qi ?_ | refine qg (h := ?_) | refine qx (h := ?_) | refine qy (h := ?_) | refine qa ?_ | refine qc ?_ | refine ql ?_ | refine qp ?_ | refine z0a ?_ | rfl
   | (with_reducible first | refine ok_lt ?_ ?_ | refine ok_le ?_ ?_ | refine z0h ?_ ?_ | refine z0l ?_ ?_ | refine z0n ?_ ?_ | refine qu ?_ ?_ | refine ok_if ?_ ?_) <;> intro _ <;> try (exfalso; omega)
 all_goals simp only [*, Bool.not_true, Bool.not_false, Bool.false_or, Bool.true_or, Bool.or_true, Bool.or_false]
theorem z1h4 {s : T5} {base : List Int} (h : Sm s) (hb : VecOk base) : zlu s base = some (zo4 s base) := by
 have h1 := h.olen
 have h2 := h.elen
 have hel := z1be s.2.2.1 base
 refine ok_is ?_
 unfold zlu
 refine ok_eq (z1u5 (by omega) hb h.ent) ?_
 repeat' first
   | (dsimp only [Int.toNat_natCast, List.length_nil])
   | with_reducible first | refine z0g ?_ | refine z0f ?_ | refine z0d ?_ | refine z0e ?_ | refine z0b ?_ | refine z0i ?_ | refine qs ?_ | refine qb ?_ | refine z0j ?_ | refine qw ?_ | refine z0m ?_ | refine z0k ?_ | refine qi ?_ | refine qg (h := ?_) | refine qx (h := ?_) | refine qy (h := ?_) | refine qa ?_ | refine qc ?_ | refine ql ?_ | refine qp ?_ | refine z0a ?_ | rfl
   | (with_reducible first | refine ok_lt ?_ ?_ | refine ok_le ?_ ?_ | refine z0h ?_ ?_ | refine z0l ?_ ?_ | refine z0n ?_ ?_ | refine qu ?_ ?_ | refine ok_if ?_ ?_) <;> intro _ <;> try (exfalso; omega)
 refine z1k s.2.1.length (fun i (_ : Unit) => ((i : Int), s, base, List.replicate 8 (0 : Int), List.replicate 8 (0 : Int), List.replicate 8 false, (s.1, ((s.2.1.take i).map (zdk base)).filter (fun o => z3c (z9o s.2.2.1 base) o base), z9o s.2.2.1 base, s.2.2.2.1, s.2.2.2.2), ([] : List T4), ([] : List T2))) (fun _ _ => True) () rfl trivial (fun _ _ => ?_) fun i _ hi _ => ?_
 · unfold z3e zec
   dsimp only
   repeat' first
     | (dsimp only [Int.toNat_natCast, List.length_nil])
     | with_reducible first | refine z0g ?_ | refine z0f ?_ | refine z0d ?_ | refine z0e ?_ | refine z0b ?_ | refine z0i ?_ | refine qs ?_ | refine qb ?_ | refine z0j ?_ | refine qw ?_ | refine z0m ?_ | refine z0k ?_ | refine qi ?_ | refine qg (h := ?_) | refine qx (h := ?_) | refine qy (h := ?_) | refine qa ?_ | refine qc ?_ | refine ql ?_ | refine qp ?_ | refine z0a ?_ | rfl
     | (with_reducible first | refine ok_lt ?_ ?_ | refine ok_le ?_ ?_ | refine z0h ?_ ?_ | refine z0l ?_ ?_ | refine z0n ?_ ?_ | refine qu ?_ ?_ | refine ok_if ?_ ?_) <;> intro _ <;> try (exfalso; omega)
   rw [List.take_length]; rfl
 · unfold z3e zec
   dsimp only
   have hv := h.obj _ (List.getElem_mem hi)
   have hvl := hv.len
   have hq : (((s.2.1.take i).map (zdk base)).filter (fun o => z3c (z9o s.2.2.1 base) o base)).length ≤ 1000 := Nat.le_trans (List.length_filter_le ..) (by simp; omega)
   have hs : ((s.2.1.take (i + 1)).map (zdk base)).filter (fun o => z3c (z9o s.2.2.1 base) o base) = if z3c (z9o s.2.2.1 base) (zdk base s.2.1[i]) base = true then ((s.2.1.take i).map (zdk base)).filter (fun o => z3c (z9o s.2.2.1 base) o base) ++ [zdk base s.2.1[i]] else ((s.2.1.take i).map (zdk base)).filter (fun o => z3c (z9o s.2.2.1 base) o base) := by
     rw [List.take_succ_eq_append_getElem hi, List.map_append, List.filter_append]
     cases h : z3c (z9o s.2.2.1 base) (zdk base s.2.1[i]) base <;> simp [h]
   generalize hg : ((s.2.1.take i).map (zdk base)).filter (fun o => z3c (z9o s.2.2.1 base) o base) = g at hq hs ⊢
   repeat' first
     | (dsimp only [Int.toNat_natCast, List.length_nil])
     | ((with_reducible refine ok_eq (z1ux (by omega) hb hv.vers) ?_))
     | ((with_reducible refine ok_eq (show zjc (z9o s.2.2.1 base) (s.2.1[i].1, s.2.1[i].2.1, s.2.1[i].2.2.1, s.2.1[i].2.2.2.1, s.2.1[i].2.2.2.2.1, zjj s.2.1[i].2.2.2.2.2 base) base = some (z3c (z9o s.2.2.1 base) (zdk base s.2.1[i]) base) from z1il (by omega) (z1gh hv base) hb) ?_))
     | with_reducible first | refine z0g ?_ | refine z0f ?_ | refine z0d ?_ | refine z0e ?_ | refine z0b ?_ | refine z0i ?_ | refine qs ?_ | refine qb ?_ | refine z0j ?_ | refine qw ?_ | refine z0m ?_ | refine z0k ?_ | refine qi ?_ | refine qg (h := ?_) | refine qx (h := ?_) | refine qy (h := ?_) | refine qa ?_ | refine qc ?_ | refine ql ?_ | refine qp ?_ | refine z0a ?_ | rfl
     | (with_reducible first | refine ok_lt ?_ ?_ | refine ok_le ?_ ?_ | refine z0h ?_ ?_ | refine z0l ?_ ?_ | refine z0n ?_ ?_ | refine qu ?_ ?_ | refine ok_if ?_ ?_) <;> intro _ <;> try (exfalso; omega)
   all_goals
     rename_i e
     rw [e] at hs
     exact ⟨(), by rw [z0r (by omega), hs]; rfl, trivial⟩
theorem z1yz (l : List T3) : l.length - (za7 l).length = List.countP (fun v : T3 => !z2c v.2.2) l := by
 have h1 := List.length_eq_countP_add_countP (fun v : T3 => z2c v.2.2) (l := l)
 have h2 : (za7 l).length = List.countP (fun v : T3 => z2c v.2.2) l := (List.countP_eq_length_filter ..).symm
 have h3 : List.countP (fun v : T3 => decide ¬z2c v.2.2 = true) l = List.countP (fun v : T3 => !z2c v.2.2) l := by
   congr 1; funext v; cases z2c v.2.2 <;> rfl
 omega
theorem z1po {s : T5} (h : Sm s) : zt2 s = some (deadV s : Int) := by
 have h1 := h.olen
 have h2 := h.elen
 refine ok_is ?_
 have key : loopC z4g (0, 0, s) = some ((List.countP (fun x : T2 => !z2c x.2.2.2.2) s.2.2.1 : Int), s) := by
   refine ok_is (z1k s.2.2.1.length (fun i (_ : Unit) => ((List.countP (fun x : T2 => !z2c x.2.2.2.2) (s.2.2.1.take i) : Int), (i : Int), s)) (fun _ _ => True) () rfl trivial (fun _ _ => ?_) fun i _ hi _ => ?_)
   · unfold z4g ziw
     dsimp only
     repeat' first
       | (dsimp only [Int.toNat_natCast, List.length_nil])
       | with_reducible first | refine z0g ?_ | refine z0f ?_ | refine z0d ?_ | refine z0e ?_ | refine z0b ?_ | refine z0i ?_ | refine qs ?_ | refine qb ?_ | refine z0j ?_ | refine qw ?_ | refine z0m ?_ | refine z0k ?_ | refine qi ?_ | refine qg (h := ?_) | refine qx (h := ?_) | refine qy (h := ?_) | refine qa ?_ | refine qc ?_ | refine ql ?_ | refine qp ?_ | refine z0a ?_ | rfl
       | (with_reducible first | refine ok_lt ?_ ?_ | refine ok_le ?_ ?_ | refine z0h ?_ ?_ | refine z0l ?_ ?_ | refine z0n ?_ ?_ | refine qu ?_ ?_ | refine ok_if ?_ ?_) <;> intro _ <;> try (exfalso; omega)
     rw [List.take_length]
   · unfold z4g ziw
     dsimp only
     have hc := z1l2 (fun x : T2 => !z2c x.2.2.2.2) s.2.2.1 hi
     have hb := z1sj (fun x : T2 => !z2c x.2.2.2.2) s.2.2.1 i
     have hm := h.ent _ (List.getElem_mem hi)
     repeat' first
       | (dsimp only [Int.toNat_natCast, List.length_nil])
       | ((with_reducible refine ok_eq (z1mk _ hm) ?_))
       | with_reducible first | refine z0g ?_ | refine z0f ?_ | refine z0d ?_ | refine z0e ?_ | refine z0b ?_ | refine z0i ?_ | refine qs ?_ | refine qb ?_ | refine z0j ?_ | refine qw ?_ | refine z0m ?_ | refine z0k ?_ | refine qi ?_ | refine qg (h := ?_) | refine qx (h := ?_) | refine qy (h := ?_) | refine qa ?_ | refine qc ?_ | refine ql ?_ | refine qp ?_ | refine z0a ?_ | rfl
       | (with_reducible first | refine ok_lt ?_ ?_ | refine ok_le ?_ ?_ | refine z0h ?_ ?_ | refine z0l ?_ ?_ | refine z0n ?_ ?_ | refine qu ?_ ?_ | refine ok_if ?_ ?_) <;> intro _ <;> try (exfalso; omega)
     all_goals
       rename_i e
       rw [e] at hc
       exact ⟨(), by rw [hc]; first | (rw [z0r (by omega), z0r (by omega)]; rfl) | (rw [z0r (by omega)]; rfl), trivial⟩
 unfold zt2
 refine ok_eq key ?_
 dsimp only
 have hE : List.countP (fun x : T2 => !z2c x.2.2.2.2) s.2.2.1 ≤ s.2.2.1.length := List.countP_le_length
 generalize hE0 : List.countP (fun x : T2 => !z2c x.2.2.2.2) s.2.2.1 = E0 at hE ⊢
 refine z0a (z1k s.2.1.length (fun i (_ : Unit) => (((E0 + ((s.2.1.take i).map (cntO s.2.2.1 s.1)).sum : Nat) : Int), (i : Int), s)) (fun _ _ => True) () (by simp) trivial (fun _ _ => ?_) fun i _ hi _ => ?_)
 · unfold z4r zgg
   dsimp only
   repeat' first
     | (dsimp only [Int.toNat_natCast, List.length_nil])
     | with_reducible first | refine z0g ?_ | refine z0f ?_ | refine z0d ?_ | refine z0e ?_ | refine z0b ?_ | refine z0i ?_ | refine qs ?_ | refine qb ?_ | refine z0j ?_ | refine qw ?_ | refine z0m ?_ | refine z0k ?_ | refine qi ?_ | refine qg (h := ?_) | refine qx (h := ?_) | refine qy (h := ?_) | refine qa ?_ | refine qc ?_ | refine ql ?_ | refine qp ?_ | refine z0a ?_ | rfl
     | (with_reducible first | refine ok_lt ?_ ?_ | refine ok_le ?_ ?_ | refine z0h ?_ ?_ | refine z0l ?_ ?_ | refine z0n ?_ ?_ | refine qu ?_ ?_ | refine ok_if ?_ ?_) <;> intro _ <;> try (exfalso; omega)
   unfold deadV
   rw [List.take_length, hE0]
 · unfold z4r zgg
   dsimp only
   have hv := h.obj _ (List.getElem_mem hi)
   have hv' := hv.len
   have hs := z1vf h i (by omega)
   have hst := z1si (cntO s.2.2.1 s.1) s.2.1 hi
   generalize hS : ((s.2.1.take i).map (cntO s.2.2.1 s.1)).sum = S at hs hst ⊢
   have hcd : cntO s.2.2.1 s.1 s.2.1[i] = List.countP (fun v : T3 => !z2c v.2.2) s.2.1[i].2.2.2.2.2 + if z3c s.2.2.1 s.2.1[i] s.1 = true then 0 else 1 := rfl
   have hch := z1yz s.2.1[i].2.2.2.2.2
   have hhl := z1bt s.2.1[i].2.2.2.2.2
   generalize hC : List.countP (fun v : T3 => !z2c v.2.2) s.2.1[i].2.2.2.2.2 = C at hcd hch
   have e1 : W64 ((s.2.1[i].2.2.2.2.2.length : Int) - ((za7 s.2.1[i].2.2.2.2.2).length : Int)) = (C : Int) := by rw [z0r (by omega)]; omega
   have e2 : W64 (((E0 + S : Nat) : Int) + (C : Int)) = ((E0 + S + C : Nat) : Int) := by rw [z0r (by omega)]; omega
   repeat' first
     | (dsimp only [Int.toNat_natCast, List.length_nil])
     | ((with_reducible refine ok_eq (z1ww (by omega) hv.vers) ?_))
     | ((with_reducible refine ok_eq (z1il h.elen hv h.known) ?_))
     | (simp only [e1, e2])
     | with_reducible first | refine z0g ?_ | refine z0f ?_ | refine z0d ?_ | refine z0e ?_ | refine z0b ?_ | refine z0i ?_ | refine qs ?_ | refine qb ?_ | refine z0j ?_ | refine qw ?_ | refine z0m ?_ | refine z0k ?_ | refine qi ?_ | refine qg (h := ?_) | refine qx (h := ?_) | refine qy (h := ?_) | refine qa ?_ | refine qc ?_ | refine ql ?_ | refine qp ?_ | refine z0a ?_ | rfl
     | (with_reducible first | refine ok_lt ?_ ?_ | refine ok_le ?_ ?_ | refine z0h ?_ ?_ | refine z0l ?_ ?_ | refine z0n ?_ ?_ | refine qu ?_ ?_ | refine ok_if ?_ ?_) <;> intro _ <;> try (exfalso; omega)
   all_goals
     rename_i e
     rw [e] at hcd
     simp only [Bool.false_eq_true, if_true, if_false] at hcd
     refine ⟨(), ?_, trivial⟩
     rw [hst, hcd]
     simp only [← Nat.add_assoc, Nat.add_zero]
     first | (rw [z0r (by omega), z0r (by omega)]; rfl) | (rw [z0r (by omega)]; rfl)
theorem z1r4 (l : List T1) (base t2 : List Int) (hl : l.length ≤ 9223372036854775807) (hw : ∀ e, e ∈ l → EvW e) (hb : VecOk base) (ht : VecOk t2) : zm8 l base t2 = some true := by
 refine ok_is ?_
 unfold zm8
 refine z1yd (f := fun r6 => _) hl hw fun L s hL hL2 hs hsm => ?_
 have h7 := z1la hsm base
 have h8 := z1la h7 t2
 repeat' first
   | (dsimp only [Int.toNat_natCast, List.length_nil])
   | ((with_reducible refine ok_eq (zzm hsm hb) ?_))
   | ((with_reducible refine ok_eq (zzm h7 ht) ?_))
   | ((with_reducible refine ok_eq (z1h4 hsm hb) ?_))
   | ((with_reducible refine ok_eq (z1pz h7) ?_))
   | ((with_reducible refine ok_eq (z1h4 h7 ht) ?_))
   | ((with_reducible refine ok_eq (z1pz h8) ?_))
   | ((with_reducible refine ok_eq (z1od hsm) ?_))
   | ((with_reducible refine ok_eq (z1po hsm) ?_))
   | ((with_reducible refine ok_eq (z1od h7) ?_))
   | ((with_reducible refine ok_eq (z1po h7) ?_))
   | with_reducible first | refine z0g ?_ | refine z0f ?_ | refine z0d ?_ | refine z0e ?_ | refine z0b ?_ | refine z0i ?_ | refine qs ?_ | refine qb ?_ | refine z0j ?_ | refine qw ?_ | refine z0m ?_ | refine z0k ?_ | refine qi ?_ | refine qg (h := ?_) | refine qx (h := ?_) | refine qy (h := ?_) | refine qa ?_ | refine qc ?_ | refine ql ?_ | refine qp ?_ | refine z0a ?_ | rfl
   | (with_reducible first | refine ok_lt ?_ ?_ | refine ok_le ?_ ?_ | refine z0h ?_ ?_ | refine z0l ?_ ?_ | refine z0n ?_ ?_ | refine qu ?_ ?_ | refine ok_if ?_ ?_) <;> intro _ <;> try (exfalso; omega)
 exact eqI_t rfl
end Go.Proofs.Ytfbdjicfkcklfaa