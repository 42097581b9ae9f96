import Derived.Test.YtpfjfldagldgnaaJrA
import Derived.Test.YtpfjfldagldgnaaTm26to30
set_option linter.unusedSimpArgs false
set_option linter.unusedVariables false
namespace Go.Proofs.Ytpfjfldagldgnaa
open Go.Tm Go.Ab
theorem zri (n : Nat) : Nat.ble n n = true := Nat.ble_eq.mpr (Nat.le_refl n)
theorem beq_self (n : Nat) : Nat.beq n n = true := Nat.beq_refl n
theorem zlu {R α : Type} (l : List α) (n : Nat) (h : n = l.length) (k : List α → Option R) : winK l 0 n k = k l := by
 subst h
 unfold winK
 have : addN 0 (List.length l) = List.length l := rfl
 rw [this, zri]
 simp [subN]
theorem z1e3 {α : Type} (l m : List α) : cpyL l 0 l.length m = m.take l.length ++ l.drop m.length := by
 unfold cpyL
 rw [List.take_zero, List.nil_append, Nat.zero_add]
 rcases Nat.le_total m.length l.length with h | h
 · rw [Nat.min_eq_left h, List.take_length, List.take_of_length_le h]
 · rw [Nat.min_eq_right h, List.drop_length, List.drop_eq_nil_of_le h]
theorem z0p {R : Type} {n : Nat} (h : n ≤ 9223372036854775807) (k : Option R) : z0f n k = k := by
 unfold z0f; rw [Nat.ble_eq.mpr h]; rfl
theorem z11m {α : Type} {l : List α} {i : Nat} : idxI l (i : Int) = l[i]? := by
 unfold idxI; rw [leI_t (Int.natCast_nonneg i)]; simp
theorem z1jv (n : Nat) : subOk 0 (n : Int) n = true := by
 simp [subOk, leI]
theorem z1cn (l : List Int) (v : Int) (hl : l.length < 1000000) :
   ∀ (k i : Nat), i + k = l.length → loopC z3p (l, v, (l.length : Nat), (i : Int)) = some (match (l.drop i).findIdx? (fun x => decide (v = x)) with | some j => .inr ((i + j : Nat) : Int) | none => .inl ())
 | 0, i, h => by
   rw [z2i]
   unfold z3p zbo
   rw [ltI_f (by simp; omega), List.drop_eq_nil_of_le (by omega)]
   rfl
 | k + 1, i, h => by
   have hi : i < l.length := by omega
   rw [z2i, show z3p (l, v, (l.length : Nat), (i : Int)) = zbo l v (l.length : Nat) (i : Int) from rfl]
   unfold zbo
   rw [ltI_t (by omega), z11m, List.getElem?_eq_getElem hi, List.drop_eq_getElem_cons hi]
   simp only [Option.bind_some, cond_true, List.findIdx?_cons]
   by_cases hx : v = l[i]
   · rw [eqI_t hx]
     simp [hx]
   · rw [eqI_f hx]
     simp only [hx, decide_false, cond_false, Option.bind_some, Sum.elim_inl, Bool.false_eq_true, if_false]
     have ih := z1cn l v hl k (i + 1) (by omega)
     rw [z1t (by omega), show ((i : Int) + 1) = ((i + 1 : Nat) : Int) by simp, ih]
     cases hf : (l.drop (i + 1)).findIdx? (fun x => decide (v = x)) with
     | none => simp
     | some j => simp; omega
theorem z1je (l : List Int) (v : Int) (hl : l.length < 1000000) : zjd l v = some (decide (v ∈ l)) := by
 unfold zjd zwu
 rw [z0p (by omega)]
 have := z1cn l v hl l.length 0 (by omega)
 rw [show ((0 : Nat) : Int) = 0 from rfl] at this
 rw [this]
 simp only [List.drop_zero, Option.bind_some]
 cases hf : l.findIdx? (fun x => decide (v = x)) with
 | none =>
   have hn : v ∉ l := fun hm => by
     rw [List.findIdx?_eq_none_iff] at hf
     have := hf v hm
     simp at this
   simp [hn, leI]
 | some j =>
   have hm : v ∈ l := by
     rw [List.findIdx?_eq_some_iff_getElem] at hf
     obtain ⟨h1, h2, _⟩ := hf
     simp at h2
     rw [h2]; exact List.getElem_mem h1
   simp [hm, leI]
def tornN (c : List Int × Int × Int) (k : Nat) : Int := if (k : Int) ∈ c.1 then 256 else if c.2.1 = (k : Int) then maxI 0 (minI c.2.2 256) else 0
theorem z13x (c : List Int × Int × Int) (k : Nat) : 0 ≤ tornN c k ∧ tornN c k ≤ 256 := by
 unfold tornN
 split
 · omega
 · split
   · simp only [maxI, minI]; split <;> split <;> omega
   · omega
def putS (sure : List (List Int)) (w : Int × List Int) (n : Nat) : List (List Int) := sure.set w.1.toNat (w.2.take n ++ ((sure[w.1.toNat]?).getD []).drop n)
def cutS (c : List Int × Int × Int) : List (Int × List Int) → Nat → List (List Int) → List (List Int)
 | [], _, s => s
 | w :: ws, k, s => cutS c ws (k + 1) (putS s w (tornN c k).toNat)
theorem zww (sure : List (List Int)) (w : Int × List Int) (n : Nat) : (putS sure w n).length = sure.length := by simp [putS]
structure OkD (loose : List (Int × List Int)) (sure : List (List Int)) : Prop where
 s : ∀ x, x ∈ sure → x.length = 256
 w : ∀ w, w ∈ loose → 0 ≤ w.1 ∧ w.1 < sure.length ∧ w.2.length = 256
theorem z1k3 {sure : List (List Int)} {w : Int × List Int} {n : Nat} (hs : ∀ x, x ∈ sure → x.length = 256) (h0 : 0 ≤ w.1) (h1 : w.1 < sure.length) (h2 : w.2.length = 256) (hn : n ≤ 256) : ∀ x, x ∈ putS sure w n → x.length = 256 := fun x hx => by
 unfold putS at hx
 rcases List.mem_or_eq_of_mem_set hx with hx | rfl
 · exact hs x hx
 · have hlt : w.1.toNat < sure.length := by omega
   have := hs _ (List.getElem_mem hlt)
   rw [List.getElem?_eq_getElem hlt, Option.getD_some, List.length_append, List.length_take, List.length_drop, this]
   omega
theorem z1i0 (loose : List (Int × List Int)) (d2 : Int) (d3 : List Int × Int × Int) (d4 : Int) (d5 : Bool) (d : List (Int × List Int)) (c : List Int × Int × Int) (hl : loose.length < 1000000) (hc : c.1.length < 1000000) :
   ∀ (k i : Nat) (sure : List (List Int)), i + k = loose.length → OkD loose sure →
     loopC z1i (loose, (loose.length : Nat), (i : Int), d, d2, d3, d4, d5, c, sure) = some (d, d2, d3, d4, d5, cutS c (loose.drop i) i sure)
 | 0, i, sure, h, ok => by
   rw [z2i, show z1i (loose, (loose.length : Nat), (i : Int), d, d2, d3, d4, d5, c, sure) = z4j loose (loose.length : Nat) (i : Int) d d2 d3 d4 d5 c sure from rfl]
   unfold z4j
   rw [ltI_f (by simp; omega), List.drop_eq_nil_of_le (by omega)]
   simp only [beq_self, cond_true, cond_false, Option.bind_some, Sum.elim_inr, cutS]
 | k + 1, i, sure, h, ok => by
   have hi : i < loose.length := by omega
   have hw := ok.w _ (List.getElem_mem hi)
   have hlt : loose[i].1.toNat < sure.length := by omega
   have hsl := ok.s _ (List.getElem_mem hlt)
   have ht := z13x c i
   rw [z2i, show z1i (loose, (loose.length : Nat), (i : Int), d, d2, d3, d4, d5, c, sure) = z4j loose (loose.length : Nat) (i : Int) d d2 d3 d4 d5 c sure from rfl]
   unfold z4j
   rw [ltI_t (by omega), z11m, List.getElem?_eq_getElem hi, z1je _ _ hc]
   simp only [Option.bind_some, cond_true, beq_self]
   have hj : (bif decide ((i : Int) ∈ c.1) then some ((256 : Int), loose, ((loose.length : Nat) : Int), (i : Int), d, d2, d3, d4, d5, c, loose[i], sure)
       else bif eqI c.2.1 i then some (maxI 0 (minI c.2.2 256), loose, ((loose.length : Nat) : Int), (i : Int), d, d2, d3, d4, d5, c, loose[i], sure)
       else some (0, loose, ((loose.length : Nat) : Int), (i : Int), d, d2, d3, d4, d5, c, loose[i], sure)) = some (tornN c i, loose, ((loose.length : Nat) : Int), (i : Int), d, d2, d3, d4, d5, c, loose[i], sure) := by
     unfold tornN
     by_cases h1 : (i : Int) ∈ c.1
     · simp [h1]
     · by_cases h2 : c.2.1 = (i : Int)
       · simp [h1, h2, eqI]
       · simp [h1, h2, eqI]
   rw [hj]
   simp only [Option.bind_some]
   rw [inI_t (by omega), List.getElem?_eq_getElem hlt]
   simp only [Option.bind_some, cond_true]
   rw [show subOk 0 (tornN c i) 256 = true by simp [subOk, leI]; omega, zlu _ _ hw.2.2.symm]
   simp only [cond_true]
   have hcp : cpyL sure[loose[i].1.toNat] 0 (tornN c i).toNat loose[i].2 = loose[i].2.take (tornN c i).toNat ++ sure[loose[i].1.toNat].drop (tornN c i).toNat := by
     unfold cpyL
     rw [Nat.min_eq_right (by omega)]
     simp
   have hput : sure.set loose[i].1.toNat (loose[i].2.take (tornN c i).toNat ++ sure[loose[i].1.toNat].drop (tornN c i).toNat) = putS sure loose[i] (tornN c i).toNat := by
     unfold putS; rw [List.getElem?_eq_getElem hlt, Option.getD_some]
   rw [show Nat.ble (tornN c i).toNat sure[loose[i].1.toNat].length = true from Nat.ble_eq.mpr (by omega), hcp, hput, zww, beq_self]
   simp only [cond_true, Option.bind_some, Sum.elim_inl]
   rw [z1t (by omega), show ((i : Int) + 1) = ((i + 1 : Nat) : Int) by simp, z1i0 loose d2 d3 d4 d5 d c hl hc k (i + 1) _ (by omega)
     ⟨z1k3 ok.s hw.1 hw.2.1 hw.2.2 (by omega), fun w hm => by rw [zww]; exact ok.w w hm⟩, List.drop_eq_getElem_cons hi]
   rfl
abbrev DevT := List (Int × List Int) × Int × (List Int × Int × Int) × Int × Bool × List (List Int)
def whyS (off : Bool) (n : Nat) (i : Int) : Int := if off then 6 else if 0 ≤ i ∧ i < n then 0 else 2
theorem z1i6 (s : List (List Int)) (l : List (Int × List Int)) (d2 : Int) (d3 : List Int × Int × Int) (d4 : Int) (off : Bool) (i : Int) (hs : s.length < 1000000) : z9a (s, l, d2, d3, d4, off) i = some (whyS off s.length i) := by
 unfold z9a z7h whyS
 simp only [Option.bind_some]
 cases off with
 | true => rfl
 | false =>
   simp only [cond_false, Bool.false_eq_true, if_false]
   by_cases h0 : i < 0
   · rw [ltI_t h0, if_neg (by omega)]; rfl
   · rw [ltI_f h0, z0p (by omega)]
     by_cases h1 : i < s.length
     · rw [leI_f (by omega), if_pos (by omega)]; rfl
     · rw [leI_t (by omega), if_neg (by omega)]; rfl
def cutD (c : List Int × Int × Int) (x : DevT) : DevT := if x.2.2.2.2.1 then x else ([], -1, x.2.2.1, x.2.2.2.1, true, cutS c x.1 0 x.2.2.2.2.2)
theorem z14r (c : List Int × Int × Int) : ∀ (l : List (Int × List Int)) (k : Nat) (s : List (List Int)), (cutS c l k s).length = s.length
 | [], _, _ => rfl
 | w :: ws, k, s => by simp only [cutS]; rw [z14r c ws, zww]
theorem z1s7 (c : List Int × Int × Int) (l : List (Int × List Int)) (d2 : Int) (d3 : List Int × Int × Int) (d4 : Int) (off : Bool) (s : List (List Int)) (hl : l.length < 1000000) (hc : c.1.length < 1000000) (ok : OkD l s) :
   ze1 c l d2 d3 d4 off s = some (cutD c (l, d2, d3, d4, off, s)) := by
 unfold ze1 z7h cutD
 rw [zlu _ _ rfl]
 simp only [Option.bind_some, beq_self, cond_true]
 cases off with
 | true => rfl
 | false =>
   simp only [cond_false, Bool.false_eq_true, if_false]
   rw [z0p (by omega)]
   have := z1i0 l d2 d3 d4 false l c hl hc l.length 0 s (by omega) ok
   rw [show ((0 : Nat) : Int) = 0 from rfl] at this
   rw [this]
   simp only [Option.bind_some, beq_self, cond_true, List.drop_zero]
def z4m (x : DevT) : Int × DevT :=
 if x.2.1 < 0 then (0, x.1, x.2.1, x.2.2.1, x.2.2.2.1 + 1, x.2.2.2.2.1, x.2.2.2.2.2)
 else if x.2.1 = 0 then (6, cutD x.2.2.1 (x.1, -1, x.2.2.1, x.2.2.2.1 + 1, x.2.2.2.2.1, x.2.2.2.2.2))
 else (0, x.1, x.2.1 - 1, x.2.2.1, x.2.2.2.1 + 1, x.2.2.2.2.1, x.2.2.2.2.2)
structure OkDev (x : DevT) : Prop where
 d : OkD x.1 x.2.2.2.2.2
 l : x.1.length < 900000
 left : -1 ≤ x.2.1 ∧ x.2.1 ≤ 9223372036854775807
 c : x.2.2.1.1.length < 1000000
 n : 0 ≤ x.2.2.2.1 ∧ x.2.2.2.1 < 1000000000
 s : x.2.2.2.2.2.length < 1000000
theorem z17n (l : List (Int × List Int)) (d2 : Int) (d3 : List Int × Int × Int) (d4 : Int) (off : Bool) (s : List (List Int)) (hl : l.length < 1000000) (hc : d3.1.length < 1000000) (h2 : -1 ≤ d2 ∧ d2 ≤ 9223372036854775807) (h4 : 0 ≤ d4 ∧ d4 < 1000000000) (ok : OkD l s) :
   z6v l d2 d3 d4 off s = some (z4m (l, d2, d3, d4, off, s)) := by
 unfold z6v z4m
 simp only [beq_self, cond_true]
 rw [z1t (n := d4 + 1) (by omega)]
 by_cases h : d2 < 0
 · rw [ltI_t h, if_pos h]; rfl
 · rw [ltI_f h, if_neg h, z1t (n := d2 - 1) (by omega)]
   by_cases h0 : d2 = 0
   · subst h0
     rw [ltI_t (by omega), if_pos rfl]
     simp only [cond_true, cond_false]
     rw [show (0 : Int) - 1 = -1 from rfl, z1s7 _ _ _ _ _ _ _ hl hc ok]
     rfl
   · rw [ltI_f (by omega), if_neg h0]; rfl
def sureS : List (Int × List Int) → List (List Int) → List (List Int)
 | [], s => s
 | w :: ws, s => sureS ws (s.set w.1.toNat w.2)
theorem z15w : ∀ (l : List (Int × List Int)) (s : List (List Int)), (sureS l s).length = s.length
 | [], _ => rfl
 | w :: ws, s => by simp only [sureS]; rw [z15w ws, List.length_set]
theorem z1o6 {sure : List (List Int)} {w : Int × List Int} (hs : ∀ x, x ∈ sure → x.length = 256) (h2 : w.2.length = 256) : ∀ x, x ∈ sure.set w.1.toNat w.2 → x.length = 256 := fun x hx => by
 rcases List.mem_or_eq_of_mem_set hx with hx | rfl
 · exact hs x hx
 · exact h2
theorem z17j (loose d : List (Int × List Int)) (d2 : Int) (d3 : List Int × Int × Int) (d4 : Int) (d5 : Bool) (hl : loose.length < 1000000) :
   ∀ (k i : Nat) (sure : List (List Int)), i + k = loose.length → OkD loose sure →
     loopC z0v (loose, (loose.length : Nat), (i : Int), d, d2, d3, d4, d5, sure) = some (d, d2, d3, d4, d5, sureS (loose.drop i) sure)
 | 0, i, sure, h, ok => by
   rw [z2i, show z0v (loose, (loose.length : Nat), (i : Int), d, d2, d3, d4, d5, sure) = z2l loose (loose.length : Nat) (i : Int) d d2 d3 d4 d5 sure from rfl]
   unfold z2l
   rw [ltI_f (by simp; omega), List.drop_eq_nil_of_le (by omega)]
   simp only [beq_self, cond_true, cond_false, Option.bind_some, Sum.elim_inr, sureS]
 | k + 1, i, sure, h, ok => by
   have hi : i < loose.length := by omega
   have hw := ok.w _ (List.getElem_mem hi)
   have hlt : loose[i].1.toNat < sure.length := by omega
   rw [z2i, show z0v (loose, (loose.length : Nat), (i : Int), d, d2, d3, d4, d5, sure) = z2l loose (loose.length : Nat) (i : Int) d d2 d3 d4 d5 sure from rfl]
   unfold z2l
   rw [ltI_t (by omega), z11m, List.getElem?_eq_getElem hi]
   simp only [Option.bind_some, cond_true]
   rw [inI_t (by omega), List.getElem?_eq_getElem hlt, List.length_set, beq_self]
   simp only [cond_true, Option.bind_some, Sum.elim_inl]
   rw [z1t (by omega), show ((i : Int) + 1) = ((i + 1 : Nat) : Int) by simp, z17j loose d d2 d3 d4 d5 hl k (i + 1) _ (by omega)
     ⟨z1o6 ok.s hw.2.2, fun w hm => by rw [List.length_set]; exact ok.w w hm⟩, List.drop_eq_getElem_cons hi]
   rfl
theorem z1rb {x : DevT} {c : List Int × Int × Int} (h : OkDev x) : OkDev (cutD c x) := by
 unfold cutD
 split
 · exact h
 · have key : ∀ (l : List (Int × List Int)) (k : Nat) (s : List (List Int)), OkD l s → ∀ y, y ∈ cutS c l k s → y.length = 256 := by
     intro l
     induction l with
     | nil => intro k s ok; exact ok.s
     | cons w ws ih =>
       intro k s ok
       have hw := ok.w w (by simp)
       have ht := z13x c k
       exact ih (k + 1) _ ⟨z1k3 ok.s hw.1 hw.2.1 hw.2.2 (by omega), fun v hv => by rw [zww]; exact ok.w v (by simp [hv])⟩
   exact ⟨⟨key _ _ _ h.d, fun w hw => by cases hw⟩, by simp, by simp, h.c, h.n, by simp only [z14r]; exact h.s⟩
def z7g (x : DevT) : Int × DevT :=
 if x.2.2.2.2.1 then (6, x)
 else if (z4m x).1 ≠ 0 then z4m x
 else (0, [], (z4m x).2.2.1, (z4m x).2.2.2.1, (z4m x).2.2.2.2.1, (z4m x).2.2.2.2.2.1, sureS (z4m x).2.1 (z4m x).2.2.2.2.2.2)
theorem z1mh {x : DevT} (h : OkD x.1 x.2.2.2.2.2) (hl : x.1.length < 1000000) : (z4m x).1 = 0 → OkD (z4m x).2.1 (z4m x).2.2.2.2.2.2 ∧ (z4m x).2.1.length < 1000000 := fun h0 => by
 unfold z4m at h0 ⊢
 split at h0
 · rename_i h1; rw [if_pos h1]; exact ⟨h, hl⟩
 · rename_i h1
   rw [if_neg h1]
   split at h0
   · exact absurd h0 (by simp)
   · rename_i h2; rw [if_neg h2]; exact ⟨h, hl⟩
theorem z14i (l : List (Int × List Int)) (d2 : Int) (d3 : List Int × Int × Int) (d4 : Int) (off : Bool) (s : List (List Int)) (h : OkDev (l, d2, d3, d4, off, s)) :
   z5p l d2 d3 d4 off s = some (z7g (l, d2, d3, d4, off, s)) := by
 have hl := h.l
 have h2 := h.left
 have h4 := h.n
 simp only at hl h2 h4
 unfold z5p z7h z7g
 rw [zlu _ _ rfl]
 simp only [Option.bind_some, beq_self, cond_true]
 cases off with
 | true => rfl
 | false =>
   rw [z17n l d2 d3 d4 false s (by omega) h.c h2 h4 h.d]
   simp only [cond_false, Bool.false_eq_true, if_false, Option.bind_some, beq_self, cond_true]
   have hc := z1mh (x := (l, d2, d3, d4, false, s)) h.d (by simp only; omega)
   generalize z4m (l, d2, d3, d4, false, s) = r at hc
   by_cases h0 : r.1 = 0
   · rw [neI_f h0, if_neg (by simp [h0])]
     obtain ⟨c1, c2⟩ := hc h0
     simp only [cond_false]
     rw [z0p (by omega)]
     have := z17j r.2.1 r.2.1 r.2.2.1 r.2.2.2.1 r.2.2.2.2.1 r.2.2.2.2.2.1 c2 r.2.1.length 0 r.2.2.2.2.2.2 (by omega) c1
     rw [show ((0 : Nat) : Int) = 0 from rfl] at this
     rw [this]
     simp only [Option.bind_some, beq_self, cond_true, List.drop_zero]
   · rw [neI_t h0, if_pos h0]; rfl
theorem z1hw {α : Type} (l : List α) : subL l 0 (l.length : Int) = l := by
 simp [subL]
theorem z1k0 (l : List (Int × List Int)) (hl : l.length < 1000000) : znz l = some l := by
 unfold znz
 rw [z0p (by omega), z0p (by omega), z1jv, eqI_t rfl, z1hw]
 rfl
theorem z8f {R : Type} {n m nb : Nat} (h : (n + m) * nb ≤ 140737488355328) (k : Unit → Option R) : appG n m nb k = k () := by
 unfold appG; rw [Nat.ble_eq.mpr h]; rfl
def z2w (x : DevT) (i : Int) (b : List Int) : Int × DevT :=
 if whyS x.2.2.2.2.1 x.2.2.2.2.2.length i ≠ 0 then (whyS x.2.2.2.2.1 x.2.2.2.2.2.length i, x)
 else if b.length ≠ 256 then (1, x)
 else z4m (x.1 ++ [(i, b)], x.2)
theorem z1kb (b : List Int) (h : b.length = 256) : cpyL (List.replicate 256 (0 : Int)) 0 256 b = b := by
 have := z1e3 (List.replicate 256 (0 : Int)) b
 rw [List.length_replicate] at this
 rw [this, List.drop_replicate, h, List.take_of_length_le (by omega)]
 simp
theorem why0 {off : Bool} {n : Nat} {i : Int} (h : whyS off n i = 0) : 0 ≤ i ∧ i < n := by
 unfold whyS at h
 split at h
 · cases h
 · split at h
   · assumption
   · cases h
theorem OkDev.add {x : DevT} (h : OkDev x) {i : Int} {b : List Int} (hi : 0 ≤ i ∧ i < x.2.2.2.2.2.length) (hb : b.length = 256) : OkD (x.1 ++ [(i, b)]) x.2.2.2.2.2 :=
 ⟨h.d.s, fun w hw => by
   rcases List.mem_append.1 hw with hw | hw
   · exact h.d.w w hw
   · simp only [List.mem_singleton] at hw; subst hw; exact ⟨hi.1, hi.2, hb⟩⟩
theorem z1gy (i : Int) (b : List Int) (l : List (Int × List Int)) (d2 : Int) (d3 : List Int × Int × Int) (d4 : Int) (off : Bool) (s : List (List Int)) (h : OkDev (l, d2, d3, d4, off, s)) (hb : b.length < 1000000) :
   zac i b l d2 d3 d4 off s = some (z2w (l, d2, d3, d4, off, s) i b) := by
 have hl := h.l
 have h2 := h.left
 have h4 := h.n
 simp only at hl h2 h4
 unfold zac z2w
 rw [zlu _ _ rfl, z1i6 _ _ _ _ _ _ _ h.s]
 simp only [Option.bind_some, beq_self, cond_true]
 by_cases hw : whyS off s.length i = 0
 · rw [neI_f hw, if_neg (by simpa using hw), z0p (by omega)]
   by_cases hbl : b.length = 256
   · rw [neI_f (by omega), if_neg (by simpa using hbl), List.length_replicate, zri, z1k0 l (by omega)]
     simp only [cond_false, cond_true, Option.bind_some]
     rw [z8f (by simp only [List.length_singleton]; omega), z1kb b hbl, z17n (l ++ [(i, b)]) d2 d3 d4 off s (by simp; omega) h.c h2 h4 (h.add (why0 hw) hbl)]
     rfl
   · rw [neI_t (by omega), if_pos hbl]; rfl
 · rw [neI_t hw, if_pos hw]; rfl
theorem z1om (i : Int) (b : List Int) (l : List (Int × List Int)) (d2 : Int) (d3 : List Int × Int × Int) (d4 : Int) (off : Bool) (s : List (List Int)) (h : OkDev (l, d2, d3, d4, off, s)) (hb : b.length < 1000000) :
   zae i l d2 d3 d4 off b s = some ((fun r : Int × DevT => (r.1, r.2.1, r.2.2.1, r.2.2.2.1, r.2.2.2.2.1, r.2.2.2.2.2.1, b, r.2.2.2.2.2.2)) (z2w (l, d2, d3, d4, off, s) i b)) := by
 have hl := h.l
 have h2 := h.left
 have h4 := h.n
 simp only at hl h2 h4
 unfold zae z2w
 rw [zlu _ _ rfl, z1i6 _ _ _ _ _ _ _ h.s]
 simp only [Option.bind_some, beq_self, cond_true]
 by_cases hw : whyS off s.length i = 0
 · rw [neI_f hw, if_neg (by simpa using hw), z0p (by omega)]
   by_cases hbl : b.length = 256
   · rw [neI_f (by omega), if_neg (by simpa using hbl), zlu _ _ rfl, List.length_replicate, zri, z1k0 l (by omega)]
     simp only [cond_false, cond_true, Option.bind_some]
     rw [z8f (by simp only [List.length_singleton]; omega), z1kb b hbl, z17n (l ++ [(i, b)]) d2 d3 d4 off s (by simp; omega) h.c h2 h4 (h.add (why0 hw) hbl)]
     rfl
   · rw [neI_t (by omega), if_pos hbl]; rfl
 · rw [neI_t hw, if_pos hw]; rfl
def nowS : List (Int × List Int) → Int → List Int → List Int
 | [], _, x => x
 | w :: ws, i, x => nowS ws i (if w.1 = i then w.2 else x)
theorem z17k (i : Int) (loose d : List (Int × List Int)) (d2 : Int) (d3 : List Int × Int × Int) (d4 : Int) (d5 : Bool) (s : List (List Int)) (hl : loose.length < 1000000) :
   ∀ (k j : Nat) (x : List Int), j + k = loose.length →
     loopC z1b (i, loose, (loose.length : Nat), (j : Int), d, d2, d3, d4, d5, x, s) = some (d, d2, d3, d4, d5, nowS (loose.drop j) i x, s)
 | 0, j, x, h => by
   rw [z2i, show z1b (i, loose, (loose.length : Nat), (j : Int), d, d2, d3, d4, d5, x, s) = z3a i loose (loose.length : Nat) (j : Int) d d2 d3 d4 d5 x s from rfl]
   unfold z3a
   rw [ltI_f (by simp; omega), List.drop_eq_nil_of_le (by omega)]
   simp only [beq_self, cond_true, cond_false, Option.bind_some, Sum.elim_inr, nowS]
 | k + 1, j, x, h => by
   have hj : j < loose.length := by omega
   rw [z2i, show z1b (i, loose, (loose.length : Nat), (j : Int), d, d2, d3, d4, d5, x, s) = z3a i loose (loose.length : Nat) (j : Int) d d2 d3 d4 d5 x s from rfl]
   unfold z3a
   rw [ltI_t (by omega), z11m, List.getElem?_eq_getElem hj]
   simp only [Option.bind_some, cond_true, beq_self]
   rw [z1t (by omega), show ((j : Int) + 1) = ((j + 1 : Nat) : Int) by simp, List.drop_eq_getElem_cons hj]
   by_cases h1 : loose[j].1 = i
   · rw [eqI_t h1]
     simp only [cond_true, Option.bind_some, Sum.elim_inl]
     rw [z17k i loose d d2 d3 d4 d5 s hl k (j + 1) _ (by omega)]
     simp only [nowS, h1, if_true]
   · rw [eqI_f h1]
     simp only [cond_false, Option.bind_some, Sum.elim_inl]
     rw [z17k i loose d d2 d3 d4 d5 s hl k (j + 1) _ (by omega)]
     simp only [nowS, if_neg h1]
theorem z1aj : ∀ (l : List (Int × List Int)) (i : Int) (x : List Int), (∀ w, w ∈ l → w.2.length = 256) → x.length = 256 → (nowS l i x).length = 256
 | [], _, _, _, h => h
 | w :: ws, i, x, hw, h => by
   simp only [nowS]
   refine z1aj ws i _ (fun v hv => hw v (by simp [hv])) ?_
   split
   · exact hw w (by simp)
   · exact h
def readD (x : DevT) (i : Int) : Int × List Int :=
 if whyS x.2.2.2.2.1 x.2.2.2.2.2.length i ≠ 0 then (whyS x.2.2.2.2.1 x.2.2.2.2.2.length i, []) else (0, nowS x.1 i ((x.2.2.2.2.2[i.toNat]?).getD []))
theorem z1rt (i : Int) (l : List (Int × List Int)) (d2 : Int) (d3 : List Int × Int × Int) (d4 : Int) (off : Bool) (s : List (List Int)) (h : OkDev (l, d2, d3, d4, off, s)) :
   z8l i l d2 d3 d4 off s = some ((readD (l, d2, d3, d4, off, s) i).1, l, d2, d3, d4, off, (readD (l, d2, d3, d4, off, s) i).2, s) := by
 have hl := h.l
 simp only at hl
 unfold z8l readD
 rw [zlu _ _ rfl, z1i6 _ _ _ _ _ _ _ h.s]
 simp only [Option.bind_some, beq_self, cond_true]
 by_cases hw : whyS off s.length i = 0
 · obtain ⟨h0, h1⟩ := why0 hw
   have hlt : i.toNat < s.length := by omega
   have hx := h.d.s _ (List.getElem_mem hlt)
   rw [neI_f hw, if_neg (by simpa using hw), inI_t (by omega), List.getElem?_eq_getElem hlt]
   simp only [cond_false, cond_true, Option.bind_some, Option.getD_some]
   rw [z0p (by omega)]
   have := z17k i l l d2 d3 d4 off s (by omega) l.length 0 s[i.toNat] (by omega)
   rw [show ((0 : Nat) : Int) = 0 from rfl] at this
   rw [this]
   simp only [Option.bind_some, List.drop_zero]
   rw [z1aj l i _ (fun w hw => (h.d.w w hw).2.2) hx, beq_self]
   first | rfl | (simp only [beq_self, cond_true])
 · rw [neI_t hw, if_pos hw]; rfl
def newD (n : Nat) : DevT := ([], -1, ([], 0, 0), 0, false, List.replicate n (List.replicate 256 0))
theorem z1sk (n : Int) (h : 1 ≤ n ∧ n ≤ 4096) : zg7 n = some (.inr (0, newD n.toNat)) := by
 unfold zg7 newD makeG
 rw [ltI_f (by omega), ltI_f (by omega), leI_t (by omega), leI_t (by omega), List.length_replicate, beq_self]
 rfl
theorem z1rv (n : Nat) (hn : n < 1000000) : OkDev (newD n) where
 d := ⟨fun x hx => by
   have := List.eq_of_mem_replicate hx
   rw [this, List.length_replicate], fun w hw => by cases hw⟩
 l := Nat.zero_lt_succ _
 left := show -1 ≤ (-1 : Int) ∧ (-1 : Int) ≤ 9223372036854775807 from ⟨by decide, by decide⟩
 c := Nat.zero_lt_succ _
 n := show 0 ≤ (0 : Int) ∧ (0 : Int) < 1000000000 from ⟨by decide, by decide⟩
 s := by show (List.replicate n _).length < _; rw [List.length_replicate]; exact hn
end Go.Proofs.Ytpfjfldagldgnaa
set_option linter.unusedVariables false
set_option linter.unusedSimpArgs false
namespace Go.Proofs.Ytpfjfldagldgnaa
open Go.Tm Go.Ab
def numS (l : List Int) : Int := l.foldl (fun n c => n * 256 + c) 0
theorem or8 {a b : Int} (ha : 0 ≤ a ∧ a < 72057594037927936) (hb : 0 ≤ b ∧ b ≤ 255) : bitI .or .u64 (shI .shl .u64 a 8) (WU64 b) = a * 256 + b := by
 rw [z12j (by omega)]
 obtain ⟨a, rfl⟩ : ∃ k : Nat, a = k := ⟨a.toNat, by omega⟩
 obtain ⟨b, rfl⟩ : ∃ k : Nat, b = k := ⟨b.toNat, by omega⟩
 have e1 : shI .shl .u64 (a : Int) 8 = ((a * 256 : Nat) : Int) := by
   simp only [shI]
   rw [show min (8 : Int).toNat IntKind.u64.bits = 8 by rfl]
   rw [zrj .u64 (by constructor <;> simp [IntKind.min, IntKind.max, IntKind.bits, IntKind.signed] <;> omega)]
   omega
 rw [e1]
 simp only [bitI]
 have e2 : (BitVec.ofInt IntKind.u64.bits ((a * 256 : Nat) : Int) ||| BitVec.ofInt IntKind.u64.bits (b : Int)).toNat = a * 256 + b := by
   rw [BitVec.toNat_or, BitVec.ofInt_natCast, BitVec.ofInt_natCast, BitVec.toNat_ofNat, BitVec.toNat_ofNat]
   rw [show IntKind.u64.bits = 64 by rfl, Nat.mod_eq_of_lt (by omega), Nat.mod_eq_of_lt (by omega)]
   have := Nat.shiftLeft_add_eq_or_of_lt (show b < 2 ^ 8 by omega) a
   rw [Nat.shiftLeft_eq, show (2 : Nat) ^ 8 = 256 from rfl] at this
   omega
 rw [e2, zrj .u64 (by constructor <;> simp [IntKind.min, IntKind.max, IntKind.bits, IntKind.signed] <;> omega)]
 omega
def isB (l : List Int) : Prop := ∀ b, b ∈ l → 0 ≤ b ∧ b ≤ 255
theorem isB.take {l : List Int} (h : isB l) (n : Nat) : isB (l.take n) := fun b hb => h b (List.mem_of_mem_take hb)
theorem isB.drop {l : List Int} (h : isB l) (n : Nat) : isB (l.drop n) := fun b hb => h b (List.mem_of_mem_drop hb)
theorem isB.app {l m : List Int} (h : isB l) (g : isB m) : isB (l ++ m) := fun b hb => by
 rcases List.mem_append.1 hb with h1 | h1
 · exact h b h1
 · exact g b h1
theorem z1dq : isB [] := fun b hb => by cases hb
theorem z18w (n : Nat) : isB (List.replicate n (0 : Int)) := fun b hb => by rw [List.eq_of_mem_replicate hb]; omega
theorem isB.sub {l : List Int} (h : isB l) (a b : Int) : isB (subL l a b) := (h.drop _).take _
theorem z14j (l : List Int) (c : Int) : numS (l ++ [c]) = numS l * 256 + c := by simp [numS]
theorem z13p : ∀ (n : Nat) (l : List Int), l.length = n → isB l → 0 ≤ numS l ∧ numS l < 256 ^ n
 | 0, l, h, _ => by rw [List.eq_nil_of_length_eq_zero h]; simp [numS]
 | n + 1, l, h, hb => by
   obtain ⟨m, c, rfl⟩ : ∃ m c, l = m ++ [c] := ⟨l.dropLast, l.getLast (by intro e; rw [e] at h; cases h), (List.dropLast_concat_getLast _).symm⟩
   have hc := hb c (by simp)
   have := z13p n m (by simpa using h) (fun b hm => hb b (by simp [hm]))
   rw [z14j, Int.pow_succ]
   generalize (256 : Int) ^ n = q at *
   omega
theorem z1sl {i : Nat} (h : i ≤ 7) : (256 : Int) ^ i ≤ 72057594037927936 := by
 have : (256 : Nat) ^ i ≤ 256 ^ 7 := Nat.pow_le_pow_right (by omega) h
 have e : ((256 : Nat) ^ i : Nat) = (256 : Int) ^ i := by simp
 rw [← e]; have e2 : (256 : Nat) ^ 7 = 72057594037927936 := by decide
 omega
theorem z1rp {i : Nat} (h : i ≤ 8) : (256 : Int) ^ i ≤ 18446744073709551616 := by
 have : (256 : Nat) ^ i ≤ 256 ^ 8 := Nat.pow_le_pow_right (by omega) h
 have e : ((256 : Nat) ^ i : Nat) = (256 : Int) ^ i := by simp
 rw [← e]; have e2 : (256 : Nat) ^ 8 = 18446744073709551616 := by decide
 omega
theorem zzq {l : List Int} (hb : isB l) (hl : l.length ≤ 8) : zbe l = some (numS l) := by
 unfold zbe
 rw [z0p (by omega)]
 have := (ztk z4o l (fun i a => (a, l, ((l.length : Nat) : Int), (i : Int))) (fun a => a) (fun n c => n * 256 + c) (fun i a => a = numS (l.take i)) ?_ ?_ (a := 0) (by simp [numS])).1
 · rw [show (((0 : Nat) : Int)) = 0 from rfl] at this
   rw [this]; rfl
 · intro a _
   show z6s _ _ _ _ = _
   unfold z6s
   rw [ltI_f (Int.lt_irrefl _)]; rfl
 · intro i a hi ha
   subst ha
   refine ⟨?_, ?_⟩
   · show z6s (numS (l.take i)) l ((l.length : Nat) : Int) (i : Int) = _
     unfold z6s
     rw [ltI_t (by omega), zsu hi]
     simp only [cond_true, Option.bind_some]
     have h1 := z13p i (l.take i) (by rw [List.length_take]; omega) (hb.take i)
     have h2 := z1sl (i := i) (by omega)
     rw [or8 ⟨h1.1, by omega⟩ (hb _ (List.getElem_mem hi)), zbf (by omega)]
   · rw [show l.take (i + 1) = l.take i ++ [l[i]] from (List.take_append_getElem hi).symm, z14j]
def dig (n : Int) (i : Nat) : Int := n / 2 ^ (56 - 8 * i) % 256
def topB (n : Int) (k : Nat) : List Int := (List.range k).map (dig n)
def num8 (n : Int) : List Int := topB n 8
def strip (l : List Int) : List Int := l.dropWhile (fun c => decide (c = 0))
theorem z1sb (n : Int) (i : Nat) : 0 ≤ dig n i ∧ dig n i ≤ 255 := by unfold dig; omega
theorem z1q5 (n : Int) (k : Nat) : isB (topB n k) := fun b hb => by
 obtain ⟨i, _, rfl⟩ := List.mem_map.1 hb
 exact z1sb n i
theorem zs0 (n : Int) : isB (num8 n) := z1q5 n 8
theorem zk1 (n : Int) : (num8 n).length = 8 := by simp [num8, topB]
theorem z1f9 (n : Int) (k : Nat) : topB n (k + 1) = topB n k ++ [dig n k] := by simp [topB, List.range_succ]
theorem z1q3 (n : Int) (k : Nat) : (topB n k).length = k := by simp [topB]
theorem z1nc (l : List Int) (c : Int) : strip (l ++ [c]) = if c ≠ 0 ∨ 0 < (strip l).length then strip l ++ [c] else [] := by
 unfold strip
 rw [List.dropWhile_append]
 cases h : List.dropWhile (fun c => decide (c = 0)) l with
 | nil =>
   simp only [List.isEmpty_nil, if_true, List.length_nil, Nat.lt_irrefl, or_false, List.nil_append]
   by_cases hc : c = 0 <;> simp [hc]
 | cons x xs => simp
theorem z16m (l : List Int) : (strip l).length ≤ l.length := (List.dropWhile_sublist _).length_le
theorem z1fj : ∀ (l : List Int), List.replicate (l.length - (strip l).length) (0 : Int) ++ strip l = l
 | [] => rfl
 | c :: l => by
   unfold strip
   by_cases hc : c = 0
   · subst hc
     have := z1fj l
     have h2 := z16m l
     unfold strip at this h2
     simp only [List.dropWhile_cons, decide_true, if_true, List.length_cons]
     rw [Nat.succ_sub h2, List.replicate_succ, List.cons_append, this]
   · simp [List.dropWhile_cons, hc]
theorem z1rr {n : Int} (k : Nat) (hk : k < 8) : WU8 (shI .shr .u64 n (56 - 8 * (k : Int))) = dig n k := by
 have e : shI .shr .u64 n (56 - 8 * (k : Int)) = n / 2 ^ (56 - 8 * k) := by
   simp only [shI]
   rw [show min (56 - 8 * (k : Int)).toNat IntKind.u64.bits = 56 - 8 * k by rw [show IntKind.u64.bits = 64 by rfl]; omega]
   rw [Int.fdiv_eq_ediv_of_nonneg _ (by exact Int.le_of_lt (Int.pow_pos (by omega)))]
 rw [e]
 unfold dig
 show IntKind.u8.wrap _ = _
 simp [IntKind.wrap, IntKind.bits, IntKind.signed]
theorem z1se {n : Int} : zsd n = some (strip (num8 n)) := by
 unfold zsd
 rw [beq_self, cond_true]
 have := z1p1 z5q (fun k => (n, 56 - 8 * (k : Int), strip (topB n k))) (fun _ => strip (num8 n)) 8 ?_ ?_
 · rw [show (56 - 8 * ((0 : Nat) : Int)) = 56 from rfl, show strip (topB n 0) = [] from rfl] at this
   rw [this]
   simp only [Option.bind_some, beq_self, cond_true]
 · show z8s n (56 - 8 * ((8 : Nat) : Int)) (strip (topB n 8)) = _
   unfold z8s
   rw [leI_f (by omega)]
   simp only [cond_false, beq_self, cond_true]
   rfl
 · intro k hk
   refine .inl ⟨?_, rfl⟩
   show z8s n (56 - 8 * (k : Int)) (strip (topB n k)) = _
   unfold z8s
   rw [leI_t (by omega), ltI_f (by omega), z1rr k hk]
   simp only [cond_false, beq_self, cond_true]
   have h1 := z16m (topB n k)
   rw [z1q3] at h1
   rw [z0p (by omega)]
   have e : W64 (56 - 8 * (k : Int) - 8) = 56 - 8 * ((k + 1 : Nat) : Int) := by rw [z1t (by omega)]; omega
   rw [z1f9, z1nc]
   by_cases hd : dig n k = 0
   · rw [neI_f hd]
     simp only [cond_false, Option.bind_some]
     by_cases hl : 0 < (strip (topB n k)).length
     · rw [ltI_t (by omega), if_pos (.inr hl)]
       simp only [cond_true]
       rw [z8f (by simp; omega), e]
     · rw [ltI_f (by omega), if_neg (by rintro (h | h); exact h hd; exact hl h)]
       simp only [cond_false]
       rw [e, List.eq_nil_of_length_eq_zero (show (strip (topB n k)).length = 0 by omega)]
   · rw [neI_t hd, if_pos (.inl hd)]
     simp only [cond_true, Option.bind_some]
     rw [z8f (by simp; omega), e]
theorem z1bm (n : Int) : zcc n = some (num8 n) := by
 unfold zcc
 have h1 := z16m (num8 n)
 rw [zk1] at h1
 rw [z1se]
 simp only [Option.bind_some]
 rw [z0p (by omega), z1t (by omega), z1qp (by omega) (by omega), z2t, z8f (by simp only [List.length_replicate]; omega)]
 simp only [List.length_replicate, beq_self, cond_true]
 have := z1fj (num8 n)
 rw [zk1] at this
 rw [show ((8 : Int) - ((strip (num8 n)).length : Nat)).toNat = 8 - (strip (num8 n)).length by omega, this]
theorem z1q1 (n : Int) (i : Nat) (hi : i < 7) : n / 2 ^ (56 - 8 * (i + 1)) = n / 2 ^ (56 - 8 * i) * 256 + dig n (i + 1) := by
 unfold dig
 have e : (2 : Int) ^ (56 - 8 * i) = 2 ^ (56 - 8 * (i + 1)) * 256 := by
   rw [show 56 - 8 * i = (56 - 8 * (i + 1)) + 8 by omega, Int.pow_add]; rfl
 rw [e, ← Int.ediv_ediv_of_nonneg (Int.le_of_lt (Int.pow_pos (by omega)))]
 omega
theorem z1ff {n : Int} (h : 0 ≤ n ∧ n < 18446744073709551616) : ∀ k, k < 8 → numS (topB n (k + 1)) = n / 2 ^ (56 - 8 * k)
 | 0, _ => by
   have : numS (topB n 1) = dig n 0 := by simp [topB, numS]
   rw [this]
   unfold dig
   have e : (2 : Int) ^ (56 - 8 * 0) = 72057594037927936 := by decide
   rw [e]; omega
 | k + 1, hk => by rw [z1f9, z14j, z1ff h k (by omega), z1q1 n k (by omega)]
theorem zjz {n : Int} (h : 0 ≤ n ∧ n < 18446744073709551616) : numS (num8 n) = n := by
 have := z1ff h 7 (by omega)
 rw [show (2 : Int) ^ (56 - 8 * 7) = 1 from rfl, Int.ediv_one] at this
 exact this
theorem zst {α : Type} (l : List (List α)) (i : Nat) (h : i < l.length) : (l.take (i + 1)).flatten = (l.take i).flatten ++ l[i] := by
 rw [(List.take_append_getElem h).symm, List.flatten_append]; simp
theorem z1e4 {α : Type} (l : List (List α)) (i : Nat) : (l.take i).flatten.length ≤ l.flatten.length := by
 conv => rhs; rw [← List.take_append_drop i l, List.flatten_append, List.length_append]
 omega
theorem z1fo (l : List (List Int)) (hn : l.length ≤ 1000000) (hl : l.flatten.length ≤ 1000000000) : zi1 l = some l.flatten := by
 unfold zi1
 rw [z0p (by omega)]
 have h1 := (ztk z3m l (fun i (a : Int) => (l, a, l, ((l.length : Nat) : Int), (i : Int))) (fun a => (l, a)) (fun n x => n + (x.length : Nat)) (fun i a => a = ((l.take i).flatten.length : Nat)) ?_ ?_ (a := 0) (by simp))
 · obtain ⟨h1, h2⟩ := h1
   rw [List.take_length] at h2
   rw [show (((0 : Nat) : Int)) = 0 from rfl, h2] at h1
   rw [h1]
   simp only [Option.bind_some]
   unfold z13s
   rw [leI_t (by omega), leI_t (by omega)]
   simp only [Bool.and_self, cond_true, Option.bind_some, beq_self]
   rw [z0p (by omega)]
   have h3 := (ztk z2e l (fun i (a : List Int) => (l, ((l.length : Nat) : Int), (i : Int), a)) (fun a => a) (fun n x => n ++ x) (fun i a => a = (l.take i).flatten) ?_ ?_ (a := []) (by simp))
   · obtain ⟨h3, h4⟩ := h3
     rw [List.take_length] at h4
     rw [show (((0 : Nat) : Int)) = 0 from rfl, h4] at h3
     rw [h3]
     simp only [Option.bind_some, beq_self, cond_true]
   · intro a _
     show z5b l ((l.length : Nat) : Int) ((l.length : Nat) : Int) a = _
     unfold z5b
     rw [ltI_f (Int.lt_irrefl _), beq_self]; rfl
   · intro i a hi ha
     subst ha
     refine ⟨?_, (zst l i hi).symm⟩
     show z5b l ((l.length : Nat) : Int) (i : Int) _ = _
     unfold z5b
     have := z1e4 l (i + 1)
     rw [zst l i hi, List.length_append] at this
     rw [ltI_t (by omega), zsu hi]
     simp only [cond_true, Option.bind_some, beq_self]
     rw [z8f (by omega), zbf (by omega)]
 · intro a _
   show z7n l a l ((l.length : Nat) : Int) ((l.length : Nat) : Int) = _
   unfold z7n
   rw [ltI_f (Int.lt_irrefl _)]; rfl
 · intro i a hi ha
   subst ha
   have h5 := z1e4 l (i + 1)
   rw [zst l i hi, List.length_append] at h5
   refine ⟨?_, by rw [zst l i hi, List.length_append]; simp⟩
   show z7n l _ l ((l.length : Nat) : Int) (i : Int) = _
   unfold z7n
   rw [ltI_t (by omega), zsu hi]
   simp only [cond_true, Option.bind_some]
   rw [z0p (by omega), z1t (by omega), ltI_f (by omega), zbf (by omega)]; rfl
theorem z1lz (l : List (List Int)) (hn : l.length ≤ 1000000) (hl : l.flatten.length ≤ 1000000000) : zew l = some l.flatten := by
 have := z1fo l hn hl
 unfold zi1 at this
 unfold zew
 rw [z0p (by omega)] at this ⊢
 have e1 : z4c = z3m := rfl
 have e2 : z2r = z2e := rfl
 rw [e1, e2]
 simpa only [z2t, beq_self, cond_true] using this
def wardT : List Int := [119, 97, 114, 100, 115, 104, 105, 112]
def z2k (t : Int × Int × Int) : List Int := wardT ++ num8 t.1 ++ (num8 t.2.1 ++ num8 t.2.2) ++ wardT ++ (num8 t.2.1 ++ num8 t.2.2) ++ num8 t.1 ++ List.replicate 192 0
theorem z1ev : wardT.length = 8 := rfl
theorem zhj (t : Int × Int × Int) : (z2k t).length = 256 := by simp only [z2k, zk1, z1ev, List.length_append, List.length_replicate]
theorem z1es : isB wardT := by unfold isB wardT; decide
theorem zhh (t : Int × Int × Int) : isB (z2k t) :=
 (((((z1es.app (zs0 _)).app ((zs0 _).app (zs0 _))).app z1es).app ((zs0 _).app (zs0 _))).app (zs0 _)).app (z18w 192)
theorem z1hq {t : Int × Int × Int} (h1 : 0 ≤ t.2.1 ∧ t.2.1 ≤ 1000000000) (h2 : 0 ≤ t.2.2 ∧ t.2.2 ≤ 1000000000) : z2j t = some (z2k t) := by
 unfold z2j
 rw [z1bm, z12j (by omega), z12j (by omega), z1bm, z1bm]
 simp only [Option.bind_some, beq_self, cond_true, z2t]
 rw [z8f (by simp only [zk1]; omega)]
 have e : ([[119, 97, 114, 100, 115, 104, 105, 112], num8 t.1, num8 t.2.1 ++ num8 t.2.2, [119, 97, 114, 100, 115, 104, 105, 112], num8 t.2.1 ++ num8 t.2.2, num8 t.1] : List (List Int)).flatten.length = 64 := by simp [zk1]
 rw [z1fo _ (by simp) (by rw [e]; omega)]
 simp only [Option.bind_some, beq_self, cond_true]
 rw [z8f (by rw [e]; omega)]
 congr 1
def cut8 (b : List Int) (i : Nat) : List Int := (b.drop i).take 8
def tripS (b : List Int) : Int × Int × Int := (numS (cut8 b 8), numS (cut8 b 16), numS (cut8 b 24))
def saysS (b : List Int) (room : Int) : Prop := b.take 8 = wardT ∧ cut8 b 32 = wardT ∧ (b.drop 16).take 16 = (b.drop 40).take 16 ∧ numS (cut8 b 56) = numS (cut8 b 8) ∧ 1 ≤ numS (cut8 b 8) ∧ numS (cut8 b 8) ≤ 4611686018427387904 ∧ numS (cut8 b 16) ≤ 1 ∧ numS (cut8 b 24) ≤ room
instance (b : List Int) (room : Int) : Decidable (saysS b room) := by unfold saysS; infer_instance
def zb4 (b : List Int) (room : Int) : Int × Int × Int := if saysS b room then tripS b else (0, 0, 0)
theorem zzm {b : List Int} {room : Int} (h : saysS b room) : zb4 b room = tripS b := if_pos h
theorem zbt {b : List Int} {room : Int} (h : ¬ saysS b room) : zb4 b room = (0, 0, 0) := if_neg h
theorem sub8 {b : List Int} (hl : b.length = 256) (i : Nat) (hi : i + 8 ≤ 256) : subL b (i : Int) ((i + 8 : Nat) : Int) = cut8 b i := by
 simp only [subL, cut8]; congr 1; omega
theorem z1q2 {b : List Int} (hl : b.length = 256) (hb : isB b) {room : Int} (hr : 0 ≤ room ∧ room ≤ 1000000000) : zi7 b room = some (zb4 b room) := by
 have c8 : ∀ i, (cut8 b i).length ≤ 8 := fun i => by unfold cut8; rw [List.length_take]; omega
 have cb : ∀ i, isB (cut8 b i) := fun i => (hb.drop _).take _
 have k : ∀ i, 0 ≤ numS (cut8 b i) ∧ numS (cut8 b i) < 18446744073709551616 := fun i => by
   have h1 := z13p _ _ rfl (cb i)
   have h2 := z1rp (c8 i)
   omega
 unfold zi7
 rw [hl]
 have e8 : subL b 8 16 = cut8 b 8 := sub8 hl 8 (by omega)
 have e16 : subL b 16 24 = cut8 b 16 := sub8 hl 16 (by omega)
 have e24 : subL b 24 32 = cut8 b 24 := sub8 hl 24 (by omega)
 have e32 : subL b 32 40 = cut8 b 32 := sub8 hl 32 (by omega)
 have e56 : subL b 56 64 = cut8 b 56 := sub8 hl 56 (by omega)
 have e0 : subL b 0 8 = b.take 8 := by simp only [subL]; rfl
 have eA : subL b 16 32 = (b.drop 16).take 16 := by simp only [subL]; rfl
 have eB : subL b 40 56 = (b.drop 40).take 16 := by simp only [subL]; rfl
 rw [e8, e16, e24, e32, e56, e0, eA, eB]
 rw [zi4 (l := 8) (by omega), zi4 (l := 16) (h := 24) (by omega), zi4 (l := 24) (by omega), zi4 (l := 0) (by omega), zi4 (l := 32) (by omega), zi4 (l := 16) (h := 32) (by omega), zi4 (l := 40) (by omega), zi4 (l := 56) (by omega)]
 rw [zzq (cb 8) (c8 8), zzq (cb 16) (c8 16), zzq (cb 24) (c8 24), zzq (cb 56) (c8 56)]
 simp only [Option.bind_some, cond_true]
 have k8 := k 8; have k16 := k 16; have k24 := k 24
 have r := z12j (n := room) (by omega)
 have rn : WU64 room = room := r
 rw [show ([119, 97, 114, 100, 115, 104, 105, 112] : List Int) = wardT from rfl]
 by_cases h1 : b.take 8 = wardT
 · rw [eqS_t h1]
   by_cases h2 : cut8 b 32 = wardT
   · rw [eqS_t h2]
     by_cases h3 : (b.drop 16).take 16 = (b.drop 40).take 16
     · rw [eqS_t h3]
       by_cases h4 : numS (cut8 b 56) = numS (cut8 b 8)
       · rw [neI_f h4]
         by_cases h5 : numS (cut8 b 8) < 1
         · rw [ltI_t h5, zbt (fun h => by obtain ⟨_, _, _, _, q5, q6, q7, q8⟩ := h; omega)]; rfl
         · rw [ltI_f h5]
           by_cases h6 : 4611686018427387904 < numS (cut8 b 8)
           · rw [ltI_t h6, zbt (fun h => by obtain ⟨_, _, _, _, q5, q6, q7, q8⟩ := h; omega)]; rfl
           · rw [ltI_f h6]
             by_cases h7 : 1 < numS (cut8 b 16)
             · rw [ltI_t h7, zbt (fun h => by obtain ⟨_, _, _, _, q5, q6, q7, q8⟩ := h; omega)]; rfl
             · rw [ltI_f h7, rn]
               by_cases h8 : room < numS (cut8 b 24)
               · rw [ltI_t h8, zbt (fun h => by obtain ⟨_, _, _, _, q5, q6, q7, q8⟩ := h; omega)]; rfl
               · rw [ltI_f h8, zzm ⟨h1, h2, h3, h4, by omega, by omega, by omega, by omega⟩]
                 simp only [Bool.not_true, cond_false]
                 rw [z1t (by omega), z1t (by omega)]; rfl
       · rw [neI_t h4, zbt (fun h => h4 h.2.2.2.1)]; rfl
     · rw [eqS_f h3, zbt (fun h => h3 h.2.2.1)]; rfl
   · rw [eqS_f h2, zbt (fun h => h2 h.2.1)]; rfl
 · rw [eqS_f h1, zbt (fun h => h1 h.1)]; rfl
theorem z13a (t : Int × Int × Int) : (z2k t).take 8 = wardT ∧ cut8 (z2k t) 8 = num8 t.1 ∧ cut8 (z2k t) 16 = num8 t.2.1 ∧ cut8 (z2k t) 24 = num8 t.2.2 ∧ cut8 (z2k t) 32 = wardT ∧ ((z2k t).drop 16).take 16 = num8 t.2.1 ++ num8 t.2.2 ∧ ((z2k t).drop 40).take 16 = num8 t.2.1 ++ num8 t.2.2 ∧ cut8 (z2k t) 56 = num8 t.1 := by
 have h1 := zk1 t.1
 have h2 := zk1 t.2.1
 have h3 := zk1 t.2.2
 unfold z2k cut8
 generalize num8 t.1 = a at *
 generalize num8 t.2.1 = b at *
 generalize num8 t.2.2 = c at *
 generalize List.replicate 192 (0 : Int) = z at *
 simp [List.drop_append, List.take_append, h1, h2, h3, z1ev, List.take_of_length_le, List.drop_eq_nil_of_le]
 exact ⟨rfl, rfl, rfl, rfl⟩
def OkT (t : Int × Int × Int) (room : Int) : Prop := 1 ≤ t.1 ∧ t.1 ≤ 4611686018427387904 ∧ 0 ≤ t.2.1 ∧ t.2.1 ≤ 1 ∧ 0 ≤ t.2.2 ∧ t.2.2 ≤ room ∧ room ≤ 1000000000
theorem z10g {t : Int × Int × Int} {room : Int} (h : OkT t room) : zb4 (z2k t) room = t := by
 obtain ⟨h1, h2, h3, h4, h5, h6, h7⟩ := h
 obtain ⟨c0, c8, c16, c24, c32, cA, cB, c56⟩ := z13a t
 have e1 := zjz (n := t.1) (by omega)
 have e2 := zjz (n := t.2.1) (by omega)
 have e3 := zjz (n := t.2.2) (by omega)
 rw [zzm]
 · unfold tripS; rw [c8, c16, c24, e1, e2, e3]
 · unfold saysS; rw [c0, c8, c16, c24, c32, cA, cB, c56, e1, e2, e3]; exact ⟨rfl, rfl, rfl, rfl, h1, h2, h4, h6⟩
theorem z1lq {room : Int} : zb4 (List.replicate 256 0) room = (0, 0, 0) := by
 rw [zbt]
 intro h
 have := h.1
 rw [List.take_replicate] at this
 exact absurd this (by decide)
def mixB (t : Int × Int × Int) (o : List Int) (n : Nat) : List Int := (z2k t).take n ++ o.drop n
theorem z1rx {t : Int × Int × Int} {o : List Int} (ho : o.length = 256) (n : Nat) (hn : n ≤ 256) : (mixB t o n).length = 256 := by
 unfold mixB; rw [List.length_append, List.length_take, List.length_drop, zhj, ho]; omega
theorem z1bp {a o : List Int} {n i : Nat} (ha : a.length = 256) (hn : n ≤ 256) (h : i + 8 ≤ n) : cut8 (a.take n ++ o.drop n) i = cut8 a i := by
 unfold cut8
 rw [List.drop_append_of_le_length (by rw [List.length_take]; omega), List.take_append_of_le_length (by rw [List.length_drop, List.length_take]; omega), List.drop_take, List.take_take, Nat.min_eq_left (by omega)]
theorem z1bu {a o : List Int} {n i : Nat} (ha : a.length = 256) (hn : n ≤ 256) (h : n ≤ i) : cut8 (a.take n ++ o.drop n) i = cut8 o i := by
 unfold cut8
 rw [List.drop_append, List.drop_eq_nil_of_le (by rw [List.length_take]; omega), List.nil_append, List.length_take, List.drop_drop]
 congr 2
 omega
theorem z1me {t : Int × Int × Int} {o : List Int} {room : Int} (n : Nat) (hn : n ≤ 256) (h : OkT t room) (ho : o.length = 256) (hs : numS (cut8 o 56) = numS (cut8 o 8)) (hd : numS (cut8 o 8) ≠ t.1) :
   zb4 (mixB t o n) room = (0, 0, 0) ∨ zb4 (mixB t o n) room = t ∨ zb4 (mixB t o n) room = tripS o := by
 have ha := zhj t
 obtain ⟨c0, c8, c16, c24, c32, cA, cB, c56⟩ := z13a t
 obtain ⟨h1, h2, h3, h4, h5, h6, h7⟩ := h
 have e1 := zjz (n := t.1) (by omega)
 have e2 := zjz (n := t.2.1) (by omega)
 have e3 := zjz (n := t.2.2) (by omega)
 by_cases hq : saysS (mixB t o n) room
 · rw [zzm hq]
   have hnum := hq.2.2.2.1
   unfold mixB at hnum ⊢
   unfold tripS
   by_cases h56 : 56 ≤ n
   · refine .inr (.inl ?_)
     rw [z1bp ha hn (by omega), z1bp ha hn (by omega), z1bp ha hn (by omega), c8, c16, c24, e1, e2, e3]
   · by_cases h16 : 16 ≤ n
     · exfalso
       rw [z1bp (i := 8) ha hn (by omega), c8, e1] at hnum
       by_cases h56' : n ≤ 56
       · rw [z1bu ha hn h56', hs] at hnum
         exact hd hnum
       · omega
     · refine .inr (.inr ?_)
       rw [z1bu (i := 56) ha hn (by omega), hs] at hnum
       rw [z1bu (i := 16) ha hn (by omega), z1bu (i := 24) ha hn (by omega), ← hnum]
 · exact .inl (zbt hq)
end Go.Proofs.Ytpfjfldagldgnaa
set_option linter.unusedVariables false
set_option linter.unusedSimpArgs false
namespace Go.Proofs.Ytpfjfldagldgnaa
open Go.Tm Go.Ab
def sumF (a : Int × Int) (x : Int) : Int × Int := (Int.tmod ((WU32 (a.1 + (WU32 x)))) 65521, Int.tmod ((WU32 (a.2 + (Int.tmod ((WU32 (a.1 + (WU32 x)))) 65521)))) 65521)
def sumP (b : List Int) : Int × Int := b.foldl sumF (1, 0)
def sumV (b : List Int) : Int := bitI .or .u32 (shI .shl .u32 (sumP b).2 16) (sumP b).1
def sumB (b : List Int) : List Int := [WU8 (shI .shr .u32 (sumV b) 24), WU8 (shI .shr .u32 (sumV b) 16), WU8 (shI .shr .u32 (sumV b) 8), WU8 (sumV b)]
def sealS (b : List Int) : List Int := b ++ sumB b
theorem zf2 (b : List Int) : (sealS b).length = b.length + 4 := by simp [sealS, sumB]
theorem z1s8 (n : Int) : 0 ≤ WU8 n ∧ WU8 n ≤ 255 := by
 show 0 ≤ IntKind.u8.wrap n ∧ IntKind.u8.wrap n ≤ 255
 simp [IntKind.wrap, IntKind.bits, IntKind.signed]; omega
theorem z1mm {b : List Int} (h : isB b) : isB (sealS b) := h.app fun x hx => by
 simp only [sumB, List.mem_cons, List.not_mem_nil, or_false] at hx
 rcases hx with rfl | rfl | rfl | rfl <;> exact z1s8 _
theorem z1ni {b : List Int} (h : b.length ≤ 1000000) : z11c b = some (sumV b) := by
 unfold z11c
 rw [z0p (by omega)]
 have := (ztk z8z b (fun i (a : Int × Int) => (a.1, a.2, b, ((b.length : Nat) : Int), (i : Int))) (fun a => (a.1, a.2)) sumF (fun _ _ => True) ?_ ?_ (a := (1, 0)) trivial).1
 · rw [show (((0 : Nat) : Int)) = 0 from rfl] at this
   rw [this]; rfl
 · intro a _
   show zbb a.1 a.2 b ((b.length : Nat) : Int) ((b.length : Nat) : Int) = _
   unfold zbb
   rw [ltI_f (Int.lt_irrefl _)]; rfl
 · intro i a hi _
   refine ⟨?_, trivial⟩
   show zbb a.1 a.2 b ((b.length : Nat) : Int) (i : Int) = _
   unfold zbb
   rw [ltI_t (by omega), zsu hi]
   simp only [cond_true, Option.bind_some]
   rw [zbf (by omega)]; rfl
theorem z1rw {b : List Int} (h : b.length ≤ 1000000) : z14h b = some (sealS b) := by
 unfold z14h
 rw [z1ni h]
 simp only [Option.bind_some, beq_self, cond_true, z2t]
 rw [z8f (by simp; omega), z8f (by simp; omega)]; rfl
theorem z1os {b : List Int} (h : b.length ≤ 1000000) : zvp b = some (sealS b) := by
 unfold zvp
 rw [z1ni h]
 simp only [Option.bind_some, beq_self, cond_true]
 rw [z8f (by simp; omega), z8f (by simp; omega)]; rfl
theorem z1qt {b : List Int} (h : b.length ≤ 900000) : zw4 (sealS b) = some (0, b) := by
 unfold zw4
 have e : (sealS b).length = b.length + 4 := zf2 b
 rw [e, z0p (by omega), z1t (by omega), ltI_f (by omega), zi4 (by omega)]
 have e2 : subL (sealS b) 0 (((b.length + 4 : Nat) : Int) - 4) = b := by
   simp only [subL, sealS]
   rw [show (((b.length + 4 : Nat) : Int) - 4).toNat - (0 : Int).toNat = b.length by omega]
   simp
 rw [e2, z1rw (by omega)]
 simp only [Option.bind_some, cond_true, cond_false, beq_self]
 rw [eqS_t rfl, z8f (by simp; omega)]
 rfl
def packF (w : List Int) : List Int := (if w.length < 255 then [(w.length : Int)] else [255, (w.length : Int) / 256, (w.length : Int) % 256]) ++ w
def lieS (l : List (List Int)) : List Int := (l.map fun x => packF (sealS x)).flatten
theorem z1m7 {w : List Int} (h : isB w) (hl : w.length ≤ 65535) : isB (packF w) := by
 unfold packF
 refine isB.app (fun x hx => ?_) h
 split at hx
 · simp only [List.mem_cons, List.not_mem_nil, or_false] at hx; omega
 · simp only [List.mem_cons, List.not_mem_nil, or_false] at hx; omega
theorem zpd (w : List Int) : (packF w).length = w.length + (if w.length < 255 then 1 else 3) := by
 unfold packF; split <;> simp <;> omega
theorem shr8 {n : Nat} : shI .shr .i64 (n : Int) 8 = (n : Int) / 256 := by
 simp only [shI]
 rw [show min (8 : Int).toNat IntKind.i64.bits = 8 by rfl, Int.fdiv_eq_ediv_of_nonneg _ (by decide)]; rfl
theorem z1eb (n : Int) : WU8 n = n % 256 := by
 show IntKind.u8.wrap n = _
 simp [IntKind.wrap, IntKind.bits, IntKind.signed]
theorem z1s3 {w : List Int} (h : w.length ≤ 65535) : zvf [w] = some (packF w, 0) := by
 unfold zvf
 rw [z0p (by simp), beq_self, cond_true, z2i]
 show ((z9j [w] ((1 : Nat) : Int) 0 []).bind _).bind _ = _
 unfold z9j
 rw [ltI_t (by omega), z1hf]
 simp only [cond_true, Option.bind_some, beq_self]
 rw [z0p (by omega), ltI_f (by omega)]
 simp only [cond_false]
 have key : ∀ out : List Int, (((loopC z6y ([w], ((1 : Nat) : Int), W64 (0 + 1), out)).bind fun o => Sum.elim (fun y => winK y 0 (List.length y) fun w => some (w, 0)) (fun y2 => some (y2.1, y2.2)) o) : Option (List Int × Int)) = some (out, 0) := fun out => by
   rw [z2i]
   show ((z9j [w] ((1 : Nat) : Int) 1 out).bind _).bind _ = _
   unfold z9j
   rw [ltI_f (by omega)]
   simp only [cond_false, Option.bind_some, beq_self, cond_true, Sum.elim_inr, Sum.elim_inl, z2t]
 by_cases h1 : w.length < 255
 · rw [ltI_t (by omega)]
   simp only [cond_true, Option.bind_some, Sum.elim_inl]
   rw [z8f (by simp)]
   simp only [Option.bind_some, Sum.elim_inl]
   rw [z8f (by simp; omega)]
   simp only [Option.bind_some, Sum.elim_inl]
   rw [key]
   unfold packF
   rw [if_pos h1, z1eb]
   congr 3
   have : (w.length : Int) % 256 = w.length := by omega
   rw [this]; rfl
 · rw [ltI_f (by omega)]
   simp only [cond_false, Option.bind_some, Sum.elim_inl]
   rw [z8f (by simp)]
   simp only [Option.bind_some, Sum.elim_inl]
   rw [z8f (by simp; omega)]
   simp only [Option.bind_some, Sum.elim_inl]
   rw [key]
   unfold packF
   rw [if_neg h1, shr8, z1eb, z1eb]
   congr 3
   have : (w.length : Int) / 256 % 256 = w.length / 256 := by omega
   rw [this]; rfl
theorem z1ak (l : List (List Int)) (i : Nat) (h : i < l.length) : lieS (l.take (i + 1)) = lieS (l.take i) ++ packF (sealS l[i]) := by
 unfold lieS
 rw [List.map_take, List.map_take, zst _ i (by simpa using h)]; simp
theorem z1oe (l : List (List Int)) (i : Nat) : (lieS (l.take i)).length ≤ (lieS l).length := by
 unfold lieS
 rw [List.map_take]; exact z1e4 _ i
theorem z12x (x : List Int) (l : List (List Int)) : lieS (x :: l) = packF (sealS x) ++ lieS l := rfl
theorem z1k9 (l : List (List Int)) {room : Int} (hn : l.length ≤ 1000000) (hl : (lieS l).length ≤ 1000000000) (hr : 0 ≤ room ∧ room ≤ 1000000000) :
   Ok (zdr l room) fun r => ((∃ x, x ∈ l ∧ 65531 < x.length) → r = ([], 4)) ∧ ((∀ x, x ∈ l → x.length ≤ 65531) → r = (lieS l, 0) ∨ (r = ([], 5) ∧ room < (lieS l).length)) := by
 unfold zdr
 rw [z0p (by omega)]
 have h1 := z1fw z5h l (fun i => (l, room, l, ((l.length : Nat) : Int), (i : Int), ([] : List Int))) (fun x => decide (65531 < x.length)) (.inr ([], 4)) (.inl (l, room, [])) ?_ ?_
 · rw [show (((0 : Nat) : Int)) = 0 from rfl] at h1
   rw [show Nat.beq 0 (List.length ([] : List Int)) = true from rfl, cond_true, h1]
   simp only [Option.bind_some]
   by_cases ha : l.any (fun x => decide (65531 < x.length)) = true
   · rw [if_pos ha]
     refine z3v ⟨fun _ => rfl, fun hall => ?_⟩
     obtain ⟨x, hx, h⟩ := List.any_eq_true.1 ha
     have := hall x hx
     simp at h; omega
   · rw [if_neg ha]
     simp only [Sum.elim_inl]
     have hall : ∀ x, x ∈ l → x.length ≤ 65531 := fun x hx => by
       by_cases h : x.length ≤ 65531
       · exact h
       · exact absurd (List.any_eq_true.2 ⟨x, hx, by simp; omega⟩) ha
     refine qs ?_
     refine qb ?_
     refine z18t (z1c9 (Q := fun r => r = .inl (lieS l) ∨ (r = .inr ([], 5) ∧ room < (lieS l).length)) l.length (fun i (out : List Int) => (room, l, ((l.length : Nat) : Int), (i : Int), out)) (fun i out => out = lieS (l.take i)) [] rfl rfl ?_ ?_) ?_
     · intro a ha2
       show Ok (z6r room l ((l.length : Nat) : Int) ((l.length : Nat) : Int) a) _
       unfold z6r
       rw [ltI_f (Int.lt_irrefl _)]
       refine zbh (qb (z3v ?_))
       rw [List.take_length] at ha2
       exact zm0 (.inl (by rw [ha2]))
     · intro i a hi ha2
       subst ha2
       have hx := hall _ (List.getElem_mem hi)
       have h5 := z1oe l (i + 1)
       rw [z1ak l i hi, List.length_append] at h5
       have h6 := zf2 l[i]
       show Ok (z6r room l ((l.length : Nat) : Int) (i : Int) (lieS (l.take i))) _
       unfold z6r
       rw [ltI_t (by omega)]
       refine zrt (qx hi (qs ?_))
       refine ok_lt (fun hlt => ?_) fun hlt => ?_
       · exact z3v (zm0 (.inr ⟨rfl, by omega⟩))
       · rw [z1os (by omega)]
         simp only [Option.bind_some, z2t]
         rw [z1s3 (by omega)]
         simp only [Option.bind_some]
         rw [neI_f rfl]
         refine zbh (qb (qa (qb (z3v ?_)) (by omega)))
         refine z18o ⟨_, ?_, rfl⟩
         rw [zbf (by omega), z1ak l i hi]
     · intro r hr2
       refine z18k (Q := fun r => ((∃ x, x ∈ l ∧ 65531 < x.length) → r = ([], 4)) ∧ ((∀ x, x ∈ l → x.length ≤ 65531) → r = (lieS l, 0) ∨ (r = ([], 5) ∧ room < (lieS l).length))) (R := fun r => r = (lieS l, 0) ∨ (r = ([], 5) ∧ room < (lieS l).length)) ?_ fun a ha => ⟨fun ⟨x, hx, h⟩ => absurd (hall x hx) (by omega), fun _ => ha⟩
       rcases hr2 with rfl | ⟨rfl, h⟩
       · simp only [Sum.elim_inl, z2t]; exact z3v (.inl rfl)
       · exact z3v (.inr ⟨rfl, h⟩)
 · show z8a l room l ((l.length : Nat) : Int) ((l.length : Nat) : Int) [] = _
   unfold z8a
   rw [ltI_f (Int.lt_irrefl _)]; rfl
 · intro i hi
   show z8a l room l ((l.length : Nat) : Int) (i : Int) [] = _
   unfold z8a
   rw [ltI_t (by omega), zsu hi]
   simp only [cond_true, Option.bind_some, beq_self]
   by_cases h : 65531 < l[i].length
   · by_cases h2 : l[i].length ≤ 9223372036854775807
     · rw [z0p h2, ltI_t (by omega), if_pos (by simpa using h)]; rfl
     · exfalso
       have h5 := z1oe l (i + 1)
       rw [z1ak l i hi, List.length_append, zpd, zf2] at h5
       omega
   · rw [z0p (by omega), ltI_f (by omega), if_neg (by simpa using h), zbf (by omega)]; rfl
theorem z1mz {w rest : List Int} (h : w.length ≤ 65535) : headS (packF w ++ rest) = ((w.length : Int), (if w.length < 255 then 1 else 3), 0) := by
 unfold packF
 by_cases h1 : w.length < 255
 · rw [if_pos h1, if_pos h1]
   simp only [List.cons_append, List.nil_append, headS]
   rw [if_pos (by omega)]
 · rw [if_neg h1, if_neg h1]
   simp only [List.cons_append, List.nil_append, headS]
   rw [if_neg (by omega), if_neg (by omega)]
   congr 1
   omega
theorem z1nv {l : List Int} (h : isB l) (hl : l.length ≤ 1000000000) : okB l = true := zwf.2 ⟨h, by omega⟩
theorem zp6 : ∀ (l : List (List Int)), (∀ x, x ∈ l → isB x ∧ x.length ≤ 65531) → isB (lieS l)
 | [], _ => z1dq
 | x :: l, h => by
   rw [z12x]
   have hx := h x (by simp)
   exact (z1m7 (z1mm hx.1) (by rw [zf2]; omega)).app (zp6 l fun y hy => h y (by simp [hy]))
theorem z1cs : ∀ (l : List (List Int)), (∀ x, x ∈ l → isB x ∧ x.length ≤ 65531) → (lieS l).length ≤ 1000000000 → zoz (lieS l) = l.map (fun x => (sealS x, 0))
 | [], _, _ => rfl
 | x :: l, h, hl => by
   have hx := h x (by simp)
   have hs := zf2 x
   have hok := z1nv (zp6 (x :: l) h) hl
   rw [z1d0 hok]
   rw [z12x] at hl ⊢
   have hp := zpd (sealS x)
   have hd := z1mz (w := sealS x) (rest := lieS l) (by omega)
   have hne : packF (sealS x) ++ lieS l ≠ [] := fun e => by
     have := congrArg List.length e
     rw [List.length_append, List.length_nil] at this; omega
   have he : headE (packF (sealS x) ++ lieS l) = 0 := by
     unfold headE
     rw [hd, List.length_append]
     simp only
     rw [if_neg]
     rintro ⟨_, h2⟩
     split at hp <;> rename_i h3
     · rw [if_pos h3] at h2; omega
     · rw [if_neg h3] at h2; omega
   rw [if_neg hne, if_neg (by simp [he]), hd, List.map_cons]
   rw [List.length_append] at hl
   have hd2 : ∀ k, packF (sealS x) = k ++ sealS x → k.length = (if (sealS x).length < 255 then 1 else 3) →
       ((packF (sealS x) ++ lieS l).drop (if (sealS x).length < 255 then (1 : Int) else 3).toNat).take ((sealS x).length : Int).toNat = sealS x ∧
       (packF (sealS x) ++ lieS l).drop ((if (sealS x).length < 255 then (1 : Int) else 3) + ((sealS x).length : Int)).toNat = lieS l := fun k hk hkl => by
     rw [hk]
     have e1 : (if (sealS x).length < 255 then (1 : Int) else 3).toNat = k.length := by rw [hkl]; split <;> rfl
     have e2 : ((if (sealS x).length < 255 then (1 : Int) else 3) + ((sealS x).length : Int)).toNat = (k ++ sealS x).length := by
       rw [List.length_append, hkl]; split <;> omega
     rw [e1, e2]
     constructor
     · rw [List.append_assoc, List.drop_left]; simp
     · rw [List.drop_left]
   obtain ⟨g1, g2⟩ := hd2 (if (sealS x).length < 255 then [((sealS x).length : Int)] else [255, ((sealS x).length : Int) / 256, ((sealS x).length : Int) % 256]) rfl (by split <;> rfl)
   simp only
   rw [g1, g2, z1cs l (fun y hy => h y (by simp [hy])) (by omega)]
theorem z1cl (s : z6g) : ∀ (l : List (List Int)) (h2 : List Int) (h3 : Int) (h4 out : List (List Int)), (∀ x, x ∈ l → x.length ≤ 900000) → out.length + l.length ≤ 1000000 →
   ztf (z1l s) (h2, h3, h4, out) (l.map fun x => (sealS x, 0)) = some (.inl (h2, h3, h4, out ++ l))
 | [], h2, h3, h4, out, _, _ => by simp [ztf]
 | x :: l, h2, h3, h4, out, hx, hn => by
   rw [List.map_cons]
   simp only [ztf]
   have e : z1l s (h2, h3, h4, out) (sealS x, 0) = some (.inl (h2, h3, h4, out ++ [x])) := by
     show zcq _ _ _ _ _ h2 h3 h4 out (sealS x) 0 = _
     unfold zcq
     rw [neI_f rfl, z1qt (hx x (by simp))]
     simp only [cond_false, Option.bind_some, z2t, beq_self, cond_true]
     rw [neI_f rfl, z8f (by simp at hn ⊢; omega)]
     rfl
   rw [e]
   simp only [Option.bind_some]
   rw [z1cl s l h2 h3 h4 (out ++ [x]) (fun y hy => hx y (by simp [hy])) (by simp at hn ⊢; omega)]
   simp
theorem zz0 (l : List (List Int)) : l.length ≤ (lieS l).length := by
 induction l with
 | nil => simp
 | cons x l ih =>
   rw [z12x, List.length_append, zpd, zf2, List.length_cons]
   omega
theorem z1qn {l : List (List Int)} {data : List Int} {n : Nat} (hd : data.take n = lieS l) (hn : n ≤ data.length) (h : ∀ x, x ∈ l → isB x ∧ x.length ≤ 65531) (hl : (lieS l).length ≤ 900000) :
   zg5 (List.replicate n true) data = some (0, data, l) := by
 have hnn : n = (lieS l).length := by rw [← hd, List.length_take]; omega
 have hc := zz0 l
 unfold zg5 zs8
 simp only [z1pv]
 rw [z1o4 _ _ _ (by omega)]
 simp only [List.drop_zero, hd]
 rw [z8f (by simp; omega), z2t]
 simp only [Option.bind_some]
 rw [show Nat.beq 0 (List.length ([] : List (List Int))) = true from rfl]
 simp only [cond_true]
 have e : zcu (lieS l, data, 0, [], []) = some (.inl (data, 0, [], l)) := by
   unfold zcu zfm z5l
   simp only
   rw [z1nv (zp6 l h) (by omega), cond_true, z1cs l h (by omega)]
   have := z1lg (z1l (lieS l, data, 0, [], [])) (z4a (lieS l, data, 0, [], [])) (l.map fun x => (sealS x, 0))
   rw [this]
   exact z1cl (lieS l, data, 0, [], []) l data 0 [] [] (fun x hx => by have := (h x hx).2; omega) (by simp; omega)
 rw [e]
 simp only [Option.bind_some, Sum.elim_inl, beq_self, cond_true]
end Go.Proofs.Ytpfjfldagldgnaa
set_option linter.unusedVariables false
set_option linter.unusedSimpArgs false
namespace Go.Proofs.Ytpfjfldagldgnaa
open Go.Tm Go.Ab
structure Dv (k : Nat) (x : DevT) : Prop where
 ok : OkDev x
 l : x.1.length ≤ k
 n : x.2.2.2.1 ≤ k
 k : k ≤ 100000
 bs : ∀ y, y ∈ x.2.2.2.2.2 → isB y
 bw : ∀ w, w ∈ x.1 → isB w.2
theorem z1q7 {sure : List (List Int)} {w : Int × List Int} {n : Nat} (hs : ∀ y, y ∈ sure → isB y) (hw : isB w.2) : ∀ y, y ∈ putS sure w n → isB y := fun y hy => by
 unfold putS at hy
 rcases List.mem_or_eq_of_mem_set hy with h | h
 · exact hs y h
 · rw [h]
   refine (hw.take _).app ?_
   cases hg : sure[w.1.toNat]? with
   | none => rw [Option.getD_none, List.drop_nil]; exact z1dq
   | some z => rw [Option.getD_some]; exact (hs z (List.mem_of_getElem? hg)).drop _
theorem z1h6 (c : List Int × Int × Int) : ∀ (l : List (Int × List Int)) (k : Nat) (s : List (List Int)), (∀ w, w ∈ l → isB w.2) → (∀ y, y ∈ s → isB y) → ∀ y, y ∈ cutS c l k s → isB y
 | [], _, s, _, h => h
 | w :: ws, k, s, hw, h => by
   simp only [cutS]
   exact z1h6 c ws (k + 1) _ (fun v hv => hw v (by simp [hv])) (z1q7 h (hw w (by simp)))
theorem z1fx : ∀ (l : List (Int × List Int)) (s : List (List Int)), (∀ w, w ∈ l → isB w.2) → (∀ y, y ∈ s → isB y) → ∀ y, y ∈ sureS l s → isB y
 | [], s, _, h => h
 | w :: ws, s, hw, h => by
   simp only [sureS]
   refine z1fx ws _ (fun v hv => hw v (by simp [hv])) fun y hy => ?_
   rcases List.mem_or_eq_of_mem_set hy with h2 | h2
   · exact h y h2
   · rw [h2]; exact hw w (by simp)
theorem z1h7 : ∀ (l : List (Int × List Int)) (s : List (List Int)), OkD l s → ∀ y, y ∈ sureS l s → y.length = 256
 | [], s, h => h.s
 | w :: ws, s, h => by
   simp only [sureS]
   have hw := h.w w (by simp)
   exact z1h7 ws _ ⟨z1o6 h.s hw.2.2, fun v hv => by rw [List.length_set]; exact h.w v (by simp [hv])⟩
theorem Dv.mono {k m : Nat} {x : DevT} (h : Dv k x) (hm : k ≤ m) (h2 : m ≤ 100000) : Dv m x := ⟨h.ok, by have := h.l; omega, by have := h.n; omega, h2, h.bs, h.bw⟩
theorem Dv.cut {k : Nat} {x : DevT} (h : Dv k x) (c : List Int × Int × Int) : Dv k (cutD c x) := by
 refine ⟨z1rb h.ok, ?_, ?_, h.k, ?_, ?_⟩ <;> unfold cutD <;> split
 · exact h.l
 · exact Nat.zero_le _
 · exact h.n
 · exact h.n
 · exact h.bs
 · exact z1h6 c _ _ _ h.bw h.bs
 · exact h.bw
 · exact fun w hw => by cases hw
theorem Dv.change {k : Nat} {x : DevT} (h : Dv k x) (hk : k + 1 ≤ 100000) : Dv (k + 1) (z4m x).2 := by
 have h4 := h.n
 have h5 := h.ok.n
 have hl := h.ok.left
 have hkl := h.l
 unfold z4m
 split
 · exact ⟨⟨h.ok.d, h.ok.l, h.ok.left, h.ok.c, by simp only; omega, h.ok.s⟩, by simp only; omega, by simp only; omega, hk, h.bs, h.bw⟩
 · split
   · refine Dv.cut (k := k + 1) (x := (x.1, -1, x.2.2.1, x.2.2.2.1 + 1, x.2.2.2.2.1, x.2.2.2.2.2)) ?_ _
     exact ⟨⟨h.ok.d, h.ok.l, by simp, h.ok.c, by simp only; omega, h.ok.s⟩, by simp only; omega, by simp only; omega, hk, h.bs, h.bw⟩
   · exact ⟨⟨h.ok.d, h.ok.l, by simp only; omega, h.ok.c, by simp only; omega, h.ok.s⟩, by simp only; omega, by simp only; omega, hk, h.bs, h.bw⟩
theorem Dv.write {k : Nat} {x : DevT} (h : Dv k x) (hk : k + 1 ≤ 100000) (i : Int) {b : List Int} (hb : isB b) : Dv (k + 1) (z2w x i b).2 := by
 unfold z2w
 split
 · exact h.mono (by omega) hk
 · rename_i h1
   split
   · exact h.mono (by omega) hk
   · rename_i h2
     have hw : whyS x.2.2.2.2.1 x.2.2.2.2.2.length i = 0 := by omega
     have ok := h.ok.add (why0 hw) (show b.length = 256 by omega)
     have h4 := h.n
     have h5 := h.ok.n
     have hl := h.ok.left
     have hkl := h.l
     have hlen : (x.1 ++ [(i, b)]).length ≤ k + 1 := by simp; omega
     have hbw : ∀ w, w ∈ x.1 ++ [(i, b)] → isB w.2 := fun w hw => by
       rcases List.mem_append.1 hw with hw | hw
       · exact h.bw w hw
       · simp only [List.mem_singleton] at hw; subst hw; exact hb
     unfold z4m
     split
     · exact ⟨⟨ok, by simp only; omega, h.ok.left, h.ok.c, by simp only; omega, h.ok.s⟩, hlen, by simp only; omega, hk, h.bs, hbw⟩
     · split
       · refine Dv.cut (k := k + 1) (x := (x.1 ++ [(i, b)], -1, x.2.2.1, x.2.2.2.1 + 1, x.2.2.2.2.1, x.2.2.2.2.2)) ?_ _
         exact ⟨⟨ok, by simp only; omega, by simp, h.ok.c, by simp only; omega, h.ok.s⟩, hlen, by simp only; omega, hk, h.bs, hbw⟩
       · exact ⟨⟨ok, by simp only; omega, by simp only at *; omega, h.ok.c, by simp only; omega, h.ok.s⟩, hlen, by simp only; omega, hk, h.bs, hbw⟩
theorem Dv.barrier {k : Nat} {x : DevT} (h : Dv k x) (hk : k + 1 ≤ 100000) : Dv (k + 1) (z7g x).2 := by
 have hc := h.change hk
 unfold z7g
 split
 · exact h.mono (by omega) hk
 · split
   · exact hc
   · exact ⟨⟨⟨z1h7 _ _ hc.ok.d, fun w hw => by cases hw⟩, by simp, hc.ok.left, hc.ok.c, hc.ok.n, by simp only [z15w]; exact hc.ok.s⟩, Nat.zero_le _, hc.n, hk, z1fx _ _ hc.bw hc.bs, fun w hw => by cases hw⟩
abbrev JT := (Int × Int × Int) × List Int × Int × Bool
def tellD (x : DevT) (t : Int × Int × Int) : Int × DevT :=
 if (z2w x (t.1 % 2) (z2k t)).1 = 0 then z7g (z2w x (t.1 % 2) (z2k t)).2 else z2w x (t.1 % 2) (z2k t)
def toldJ (j : JT) (t : Int × Int × Int) (e : Int) : JT := if e = 0 then (t, j.2.1, j.2.2.1, j.2.2.2) else (j.1, j.2.1, j.2.2.1, true)
theorem Dv.tell {k : Nat} {x : DevT} (h : Dv k x) (hk : k + 2 ≤ 100000) (t : Int × Int × Int) : Dv (k + 2) (tellD x t).2 := by
 unfold tellD
 split
 · exact (h.write (by omega) _ (zhh t)).barrier (by omega)
 · exact (h.write (by omega) _ (zhh t)).mono (by omega) hk
theorem z1ql {k : Nat} {x : DevT} (h : Dv k x) (hk : k + 2 ≤ 100000) {t : Int × Int × Int} (ht : 0 ≤ t.1 ∧ t.1 ≤ 9223372036854775807) (h1 : 0 ≤ t.2.1 ∧ t.2.1 ≤ 1000000000) (h2 : 0 ≤ t.2.2 ∧ t.2.2 ≤ 1000000000) (j : JT) :
   zbk t j.1 j.2.1 j.2.2.1 j.2.2.2 x.1 x.2.1 x.2.2.1 x.2.2.2.1 x.2.2.2.2.1 x.2.2.2.2.2 =
     some ((tellD x t).1, (toldJ j t (tellD x t).1).1, (toldJ j t (tellD x t).1).2.1, (toldJ j t (tellD x t).1).2.2.1, (toldJ j t (tellD x t).1).2.2.2, (tellD x t).2) := by
 unfold zbk
 rw [z1hq h1 h2]
 simp only [Option.bind_some, beq_self, cond_true]
 have e1 : W64 (Int.tmod t.1 2) = t.1 % 2 := by rw [Int.tmod_eq_emod_of_nonneg ht.1, z1t (by omega)]
 rw [e1, z1gy _ _ _ _ _ _ _ _ h.ok (by rw [zhj]; omega)]
 simp only [Option.bind_some]
 have hw := h.write (by omega) (t.1 % 2) (zhh t)
 unfold tellD
 rw [show ((x.1, x.2.1, x.2.2.1, x.2.2.2.1, x.2.2.2.2.1, x.2.2.2.2.2) : DevT) = x from rfl]
 generalize z2w x (t.1 % 2) (z2k t) = r at *
 obtain ⟨e, y⟩ := r
 simp only at hw ⊢
 by_cases he : e = 0
 · subst he
   rw [eqI_t rfl, if_pos rfl]
   simp only [cond_true]
   rw [z14i _ _ _ _ _ _ hw.ok]
   simp only [Option.bind_some]
   rw [show ((y.1, y.2.1, y.2.2.1, y.2.2.2.1, y.2.2.2.2.1, y.2.2.2.2.2) : DevT) = y from rfl]
   generalize z7g y = r
   obtain ⟨e, z⟩ := r
   simp only
   unfold toldJ
   by_cases he : e = 0
   · subst he
     rw [neI_f rfl, if_pos rfl]; rfl
   · rw [neI_t he, if_neg he]; rfl
 · rw [eqI_f he, if_neg he]
   simp only [cond_false, Option.bind_some]
   unfold toldJ
   rw [neI_t he, if_neg he]; rfl
theorem z1oy {k : Nat} {x : DevT} (h : Dv k x) (hk : k + 2 ≤ 100000) {t : Int × Int × Int} (ht : 0 ≤ t.1 ∧ t.1 ≤ 9223372036854775807) (h1 : 0 ≤ t.2.1 ∧ t.2.1 ≤ 1000000000) (h2 : 0 ≤ t.2.2 ∧ t.2.2 ≤ 1000000000) (j : JT) :
   zbq t j.1 j.2.2.1 j.2.2.2 x.1 x.2.1 x.2.2.1 x.2.2.2.1 x.2.2.2.2.1 j.2.1 x.2.2.2.2.2 =
     some ((tellD x t).1, (toldJ j t (tellD x t).1).1, (toldJ j t (tellD x t).1).2.1, (toldJ j t (tellD x t).1).2.2.1, (toldJ j t (tellD x t).1).2.2.2, (tellD x t).2) := by
 unfold zbq
 rw [z1hq h1 h2]
 simp only [Option.bind_some, beq_self, cond_true]
 have e1 : W64 (Int.tmod t.1 2) = t.1 % 2 := by rw [Int.tmod_eq_emod_of_nonneg ht.1, z1t (by omega)]
 rw [e1, z1gy _ _ _ _ _ _ _ _ h.ok (by rw [zhj]; omega)]
 simp only [Option.bind_some]
 have hw := h.write (by omega) (t.1 % 2) (zhh t)
 unfold tellD
 rw [show ((x.1, x.2.1, x.2.2.1, x.2.2.2.1, x.2.2.2.2.1, x.2.2.2.2.2) : DevT) = x from rfl]
 generalize z2w x (t.1 % 2) (z2k t) = r at *
 obtain ⟨e, y⟩ := r
 simp only at hw ⊢
 by_cases he : e = 0
 · subst he
   rw [eqI_t rfl, if_pos rfl]
   simp only [cond_true]
   rw [z14i _ _ _ _ _ _ hw.ok]
   simp only [Option.bind_some]
   rw [show ((y.1, y.2.1, y.2.2.1, y.2.2.2.1, y.2.2.2.2.1, y.2.2.2.2.2) : DevT) = y from rfl]
   generalize z7g y = r
   obtain ⟨e, z⟩ := r
   simp only
   unfold toldJ
   by_cases he : e = 0
   · subst he
     rw [neI_f rfl, if_pos rfl]; simp only [z2t, cond_false]
   · rw [neI_t he, if_neg he]; simp only [z2t, cond_true]
 · rw [eqI_f he, if_neg he]
   simp only [cond_false, Option.bind_some]
   unfold toldJ
   rw [neI_t he, if_neg he]; simp only [z2t, cond_true]
end Go.Proofs.Ytpfjfldagldgnaa
set_option linter.unusedVariables false
set_option linter.unusedSimpArgs false
namespace Go.Proofs.Ytpfjfldagldgnaa
open Go.Tm Go.Ab
theorem z1lm (x : DevT) (i : Int) (b : List Int) : (z2w x i b).2.2.2.2.2.2.length = x.2.2.2.2.2.length := by
 unfold z2w z4m cutD
 split
 · rfl
 · split
   · rfl
   · split
     · rfl
     · split
       · split
         · rfl
         · simp only [z14r]
       · rfl
def secS (n : Nat) : Int := (((n - 2) / 2 : Nat) : Int)
def roomS (n : Nat) : Int := secS n * 256
def baseS (n : Nat) (side : Int) : Int := 2 + side * secS n
theorem zhu (s : List (List Int)) (d : List (Int × List Int)) (d2 : Int) (d3 : List Int × Int × Int) (d4 : Int) (d5 : Bool) (h : 2 ≤ s.length ∧ s.length ≤ 5000) : z5e (s, d, d2, d3, d4, d5) = some (secS s.length) := by
 unfold z5e z8h secS
 simp only
 rw [z0p (by omega)]
 simp only [Option.bind_some]
 rw [z1t (n := ((s.length : Nat) : Int) - 2) (by omega), Int.tdiv_eq_ediv_of_nonneg (by omega), z1t (by omega)]
 congr 1
 omega
theorem at_is (s : List (List Int)) (d : List (Int × List Int)) (d2 : Int) (d3 : List Int × Int × Int) (d4 : Int) (d5 : Bool) (t : Int × Int × Int) (dt : List Int) (n : Int) (br : Bool) (side i : Int) (h : 2 ≤ s.length ∧ s.length ≤ 5000) (hs : 0 ≤ side ∧ side ≤ 1) (hi : 0 ≤ i ∧ i ≤ 1000000000) :
   zat (s, d, d2, d3, d4, d5) t dt n br side i = some (baseS s.length side + i) := by
 unfold zat baseS
 rw [zhu _ _ _ _ _ _ h]
 have hsec : 0 ≤ secS s.length ∧ secS s.length ≤ 5000 := by unfold secS; omega
 have hm : 0 ≤ side * secS s.length ∧ side * secS s.length ≤ 5000 := by
   rcases (show side = 0 ∨ side = 1 by omega) with rfl | rfl
   · rw [Int.zero_mul]; omega
   · rw [Int.one_mul]; exact hsec
 simp only [Option.bind_some]
 rw [z1t (n := side * secS s.length) (by omega), z1t (n := 2 + _) (by omega), z1t (by omega)]
def blkS (all : List Int) (i : Nat) : List Int := (all.drop (i * 256)).take 256 ++ (List.replicate 256 (0 : Int)).drop (all.drop (i * 256)).length
theorem zrd (all : List Int) (i : Nat) : (blkS all i).length = 256 := by
 unfold blkS
 simp only [List.length_append, List.length_take, List.length_drop, List.length_replicate]; omega
theorem z1ah {all : List Int} (h : isB all) (i : Nat) : isB (blkS all i) := ((h.drop _).take _).app ((z18w 256).drop _)
def layW (base : Int) (all : List Int) : Nat → Nat → DevT → Int × DevT
 | 0, _, x => (0, x)
 | n + 1, i, x => if (z2w x (base + (i : Int)) (blkS all i)).1 = 0 then layW base all n (i + 1) (z2w x (base + (i : Int)) (blkS all i)).2 else z2w x (base + (i : Int)) (blkS all i)
theorem z1jy {base : Int} {all : List Int} {n i : Nat} {x : DevT} (h : (z2w x (base + (i : Int)) (blkS all i)).1 = 0) : layW base all (n + 1) i x = layW base all n (i + 1) (z2w x (base + (i : Int)) (blkS all i)).2 := if_pos h
theorem z1jx {base : Int} {all : List Int} {n i : Nat} {x : DevT} (h : ¬ (z2w x (base + (i : Int)) (blkS all i)).1 = 0) : layW base all (n + 1) i x = z2w x (base + (i : Int)) (blkS all i) := if_neg h
theorem Dv.lay {base : Int} {all : List Int} (hb : isB all) : ∀ (n i : Nat) {k : Nat} {x : DevT}, Dv k x → k + n ≤ 100000 → Dv (k + n) (layW base all n i x).2
 | 0, _, _, _, h, _ => h
 | n + 1, i, k, x, h, hk => by
   simp only [layW]
   have hw := h.write (by omega) (base + (i : Int)) (z1ah hb i)
   split
   · have := Dv.lay (base := base) hb n (i + 1) hw (by omega)
     rw [show k + (n + 1) = k + 1 + n by omega]; exact this
   · exact hw.mono (by omega) hk
def clS (n : Nat) : Nat := (n + 255) / 256
theorem z1l4 {k : Nat} {x : DevT} (h : Dv k x) (i : Int) (b : List Int) (hb : b.length < 1000000) :
   zae i x.1 x.2.1 x.2.2.1 x.2.2.2.1 x.2.2.2.2.1 b x.2.2.2.2.2 = some ((z2w x i b).1, (z2w x i b).2.1, (z2w x i b).2.2.1, (z2w x i b).2.2.2.1, (z2w x i b).2.2.2.2.1, (z2w x i b).2.2.2.2.2.1, b, (z2w x i b).2.2.2.2.2.2) :=
 z1om i b x.1 x.2.1 x.2.2.1 x.2.2.2.1 x.2.2.2.2.1 x.2.2.2.2.2 h.ok hb
theorem z1iu {side : Int} {all : List Int} {count : Int} {t : Int × Int × Int} {dt : List Int} {cn : Int} {br : Bool} (hs : 0 ≤ side ∧ side ≤ 1) (hb : isB all) (hall : all.length ≤ 10000000) :
   ∀ (n i : Nat) {k : Nat} {x : DevT}, i + n = clS all.length → Dv k x → k + n ≤ 100000 → 2 ≤ x.2.2.2.2.2.length ∧ x.2.2.2.2.2.length ≤ 5000 →
     loopC z2f (side, all, count, (i : Int), t, dt, cn, br, x) =
       some (if (layW (baseS x.2.2.2.2.2.length side) all n i x).1 = 0 then .inl (side, all, count, t, dt, cn, br, (layW (baseS x.2.2.2.2.2.length side) all n i x).2)
         else .inr ((layW (baseS x.2.2.2.2.2.length side) all n i x).1, t, dt, cn, true, (layW (baseS x.2.2.2.2.2.length side) all n i x).2))
 | 0, i, k, x, hn, h, hk, hx => by
   rw [z2i]
   show (z3s side all count (i : Int) t dt cn br x.1 x.2.1 x.2.2.1 x.2.2.2.1 x.2.2.2.2.1 x.2.2.2.2.2).bind _ = _
   unfold z3s
   unfold clS at hn
   rw [z0p (by omega), z1t (by omega), ltI_f (by omega)]
   simp only [cond_false, beq_self, cond_true, Option.bind_some, Sum.elim_inr, layW, if_true]
 | n + 1, i, k, x, hn, h, hk, hx => by
   have hn' := hn
   unfold clS at hn'
   rw [z2i]
   show (z3s side all count (i : Int) t dt cn br x.1 x.2.1 x.2.2.1 x.2.2.2.1 x.2.2.2.2.1 x.2.2.2.2.2).bind _ = _
   unfold z3s
   rw [z0p (by omega), z1t (by omega), ltI_t (by omega), zi4 (by omega), List.length_replicate, zri]
   simp only [cond_true, z2t]
   rw [at_is _ _ _ _ _ _ _ _ _ _ _ _ hx hs (by omega)]
   have e1 : subL all ((i : Int) * 256) ((all.length : Nat) : Int) = all.drop (i * 256) := by
     simp only [subL]
     rw [show ((i : Int) * 256).toNat = i * 256 by omega, List.take_of_length_le (by rw [List.length_drop]; omega)]
   have e2 : cpyL (List.replicate 256 (0 : Int)) 0 256 (all.drop (i * 256)) = blkS all i := by
     have := z1e3 (List.replicate 256 (0 : Int)) (all.drop (i * 256))
     rw [List.length_replicate] at this
     rw [this]; rfl
   rw [e1, e2, zrd]
   simp only [Option.bind_some, beq_self, cond_true]
   rw [z1l4 h _ _ (by rw [zrd]; omega)]
   simp only [Option.bind_some]
   have hw := h.write (by omega) (baseS x.2.2.2.2.2.length side + (i : Int)) (z1ah hb i)
   have hl := z1lm x (baseS x.2.2.2.2.2.length side + (i : Int)) (blkS all i)
   by_cases he : (z2w x (baseS x.2.2.2.2.2.length side + (i : Int)) (blkS all i)).1 = 0
   · rw [neI_f he, z1jy he]
     simp only [cond_false, beq_self, cond_true, Option.bind_some, Sum.elim_inl]
     have := z1iu (count := count) (t := t) (dt := dt) (cn := cn) (br := br) hs hb hall n (i + 1) (by omega) hw (by omega) (by omega)
     rw [hl] at this
     rw [zbf (by omega)]
     exact this
   · rw [neI_t he, z1jx he, if_neg he]
     simp only [cond_true, beq_self, Option.bind_some, Sum.elim_inr]
def layJ (x : DevT) (j : JT) (side : Int) (there : Nat) (all : List Int) (count : Int) : Int × JT × DevT :=
 if j.1.1 = 4611686018427387904 ∨ roomS x.2.2.2.2.2.length < all.length then (5, j, x) else
 if (layW (baseS x.2.2.2.2.2.length side) all (clS all.length - there / 256) (there / 256) x).1 ≠ 0 then
   ((layW (baseS x.2.2.2.2.2.length side) all (clS all.length - there / 256) (there / 256) x).1, (j.1, j.2.1, j.2.2.1, true), (layW (baseS x.2.2.2.2.2.length side) all (clS all.length - there / 256) (there / 256) x).2) else
 if (z7g (layW (baseS x.2.2.2.2.2.length side) all (clS all.length - there / 256) (there / 256) x).2).1 ≠ 0 then
   ((z7g (layW (baseS x.2.2.2.2.2.length side) all (clS all.length - there / 256) (there / 256) x).2).1, (j.1, j.2.1, j.2.2.1, true), (z7g (layW (baseS x.2.2.2.2.2.length side) all (clS all.length - there / 256) (there / 256) x).2).2) else
 if (tellD (z7g (layW (baseS x.2.2.2.2.2.length side) all (clS all.length - there / 256) (there / 256) x).2).2 (j.1.1 + 1, side, all.length)).1 ≠ 0 then
   ((tellD (z7g (layW (baseS x.2.2.2.2.2.length side) all (clS all.length - there / 256) (there / 256) x).2).2 (j.1.1 + 1, side, all.length)).1, (j.1, j.2.1, j.2.2.1, true), (tellD (z7g (layW (baseS x.2.2.2.2.2.length side) all (clS all.length - there / 256) (there / 256) x).2).2 (j.1.1 + 1, side, all.length)).2) else
 (0, ((j.1.1 + 1, side, all.length), all, count, j.2.2.2), (tellD (z7g (layW (baseS x.2.2.2.2.2.length side) all (clS all.length - there / 256) (there / 256) x).2).2 (j.1.1 + 1, side, all.length)).2)
def flatJ (r : Int × JT × DevT) : Int × (Int × Int × Int) × List Int × Int × Bool × DevT := (r.1, r.2.1.1, r.2.1.2.1, r.2.1.2.2.1, r.2.1.2.2.2, r.2.2)
structure OkJ (j : JT) : Prop where
 n : 0 ≤ j.1.1 ∧ j.1.1 ≤ 4611686018427387904
 s : 0 ≤ j.1.2.1 ∧ j.1.2.1 ≤ 1
theorem z1n9 {k : Nat} {x : DevT} (h : Dv k x) (hk : k ≤ 90000) (hx : 2 ≤ x.2.2.2.2.2.length ∧ x.2.2.2.2.2.length ≤ 5000) {j : JT} (hj : OkJ j) {side : Int} (hs : 0 ≤ side ∧ side ≤ 1) {there : Nat} {all : List Int} (hb : isB all) (hall : all.length ≤ 10000000) (hth : there ≤ all.length) (count : Int) :
   za9 side (there : Int) all count j.1 j.2.1 j.2.2.1 j.2.2.2 x.1 x.2.1 x.2.2.1 x.2.2.2.1 x.2.2.2.2.1 x.2.2.2.2.2 = some (flatJ (layJ x j side there all count)) := by
 unfold za9 layJ
 by_cases h1 : j.1.1 = 4611686018427387904
 · rw [eqI_t h1, if_pos (.inl h1)]
   simp only [cond_true, beq_self]; rfl
 · rw [eqI_f h1, z0p (by omega)]
   simp only [cond_false, z2t]
   rw [zhu _ _ _ _ _ _ hx]
   simp only [Option.bind_some]
   have hsec : 0 ≤ secS x.2.2.2.2.2.length ∧ secS x.2.2.2.2.2.length ≤ 2500 := by unfold secS; omega
   rw [z1t (n := secS x.2.2.2.2.2.length * 256) (by omega)]
   by_cases h2 : roomS x.2.2.2.2.2.length < all.length
   · have h2' := h2
     unfold roomS at h2'
     rw [ltI_t h2', if_pos (.inr h2)]
     simp only [cond_true, beq_self]; rfl
   · have h2' := h2
     unfold roomS at h2'
     rw [ltI_f h2', if_neg (by rintro (h | h); exact h1 h; exact h2 h)]
     simp only [cond_false, cond_true, beq_self]
     have e1 : W64 (Int.tdiv (there : Int) 256) = ((there / 256 : Nat) : Int) := by
       rw [Int.tdiv_eq_ediv_of_nonneg (by omega), z1t (by omega)]; omega
     have hcl : clS all.length ≤ 2501 := by unfold clS; omega
     have hle : there / 256 ≤ clS all.length := by unfold clS; omega
     have hL := z1iu (count := count) (t := j.1) (dt := j.2.1) (cn := j.2.2.1) (br := j.2.2.2) hs hb hall (clS all.length - there / 256) (there / 256) (by omega) h (by omega) hx
     rw [e1]
     rw [show ((x.1, x.2.1, x.2.2.1, x.2.2.2.1, x.2.2.2.2.1, x.2.2.2.2.2) : DevT) = x from rfl, hL]
     simp only [Option.bind_some]
     have hd := Dv.lay (base := baseS x.2.2.2.2.2.length side) hb (clS all.length - there / 256) (there / 256) h (by omega)
     generalize layW (baseS x.2.2.2.2.2.length side) all (clS all.length - there / 256) (there / 256) x = r at *
     by_cases he : r.1 = 0
     · rw [if_pos he, if_neg (by simpa using he)]
       simp only [Sum.elim_inl, beq_self, cond_true]
       rw [z14i _ _ _ _ _ _ hd.ok]
       simp only [Option.bind_some]
       rw [show ((r.2.1, r.2.2.1, r.2.2.2.1, r.2.2.2.2.1, r.2.2.2.2.2.1, r.2.2.2.2.2.2) : DevT) = r.2 from rfl]
       have hd2 := hd.barrier (by omega)
       generalize z7g r.2 = q at *
       by_cases he2 : q.1 = 0
       · rw [neI_f he2, if_neg (by simpa using he2), z0p (by omega)]
         simp only [cond_false, beq_self, cond_true]
         rw [z12j (by have := hj.n; omega)]
         have := z1ql hd2 (by omega) (t := (j.1.1 + 1, side, (all.length : Int))) (by have := hj.n; simp only; omega) (by simp only; omega) (by simp only; omega) j
         rw [this]
         simp only [Option.bind_some]
         generalize tellD q.2 (j.1.1 + 1, side, (all.length : Int)) = p
         unfold toldJ
         by_cases he3 : p.1 = 0
         · rw [neI_f he3, if_pos he3, if_neg (by simpa using he3)]; rfl
         · rw [neI_t he3, if_neg he3, if_pos he3]; rfl
       · rw [neI_t he2, if_pos he2]
         simp only [cond_true, beq_self]; rfl
     · rw [if_neg he, if_pos he]
       simp only [Sum.elim_inr, beq_self, cond_true]; rfl
def longL (l : List (List Int)) : Prop := ∃ x, x ∈ l ∧ 65531 < x.length
open Classical in
noncomputable def addJ (x : DevT) (j : JT) (l : List (List Int)) : Int × JT × DevT :=
 if j.2.2.2 = true then (3, j, x) else if longL l then (4, j, x) else if l = [] then (0, j, x) else
   layJ x j j.1.2.1 j.2.1.length (j.2.1 ++ lieS l) (j.2.2.1 + (l.length : Int))
open Classical in
noncomputable def z1aq (x : DevT) (j : JT) (l : List (List Int)) : Int × JT × DevT :=
 if j.2.2.2 = true then (3, j, x) else if longL l then (4, j, x) else layJ x j (1 - j.1.2.1) 0 (lieS l) (l.length : Int)
structure OkL (l : List (List Int)) : Prop where
 n : l.length ≤ 1000000
 b : ∀ x, x ∈ l → isB x
 s : (lieS l).length ≤ 5000000
theorem z1he : ∀ {l : List (List Int)}, (∀ x, x ∈ l → isB x) → ¬ longL l → isB (lieS l) := fun {l} h hl => zp6 l fun x hx => ⟨h x hx, by
 by_cases h2 : x.length ≤ 65531
 · exact h2
 · exact absurd ⟨x, hx, by omega⟩ hl⟩
theorem z1ob {k : Nat} {x : DevT} (h : Dv k x) (hk : k ≤ 90000) (hx : 2 ≤ x.2.2.2.2.2.length ∧ x.2.2.2.2.2.length ≤ 5000) {j : JT} (hj : OkJ j) (hd : isB j.2.1) (hdl : j.2.1.length ≤ 1000000) (hc : 0 ≤ j.2.2.1 ∧ j.2.2.1 ≤ 1000000000) {l : List (List Int)} (hl : OkL l) :
   z5i l j.1 j.2.1 j.2.2.1 j.2.2.2 x.1 x.2.1 x.2.2.1 x.2.2.2.1 x.2.2.2.2.1 x.2.2.2.2.2 = some (flatJ (addJ x j l)) := by
 unfold z5i z7z addJ
 simp only [z2t, Option.bind_some]
 by_cases hb : j.2.2.2 = true
 · rw [hb, if_pos rfl]
   simp only [cond_true, beq_self, flatJ, hb]
 · rw [if_neg hb, Bool.eq_false_iff.2 hb]
   simp only [cond_false]
   rw [zhu _ _ _ _ _ _ hx]
   simp only [Option.bind_some]
   have hsec : 0 ≤ secS x.2.2.2.2.2.length ∧ secS x.2.2.2.2.2.length ≤ 2500 := by unfold secS; omega
   rw [z1t (n := secS x.2.2.2.2.2.length * 256) (by omega)]
   obtain ⟨p, hp, h1, h2⟩ := z1k9 l (room := secS x.2.2.2.2.2.length * 256) hl.n (by have := hl.s; omega) (by omega)
   rw [hp]
   simp only [Option.bind_some]
   by_cases hlong : longL l
   · rw [if_pos hlong, h1 hlong, neI_t (by decide)]
     simp only [cond_true, beq_self, flatJ, Bool.eq_false_iff.2 hb]
   · rw [if_neg hlong]
     have hshort : ∀ y, y ∈ l → y.length ≤ 65531 := fun y hy => by
       by_cases h3 : y.length ≤ 65531
       · exact h3
       · exact absurd ⟨y, hy, by omega⟩ hlong
     have hn := hl.n
     have hls := hl.s
     by_cases hnil : l = []
     · subst hnil
       rw [if_pos rfl]
       rcases h2 hshort with rfl | ⟨rfl, h3⟩
       · rw [neI_f rfl]
         simp only [cond_false, List.length_nil]
         rw [z0p (by omega), eqI_t (by rfl)]
         simp only [cond_true, beq_self, flatJ, Bool.eq_false_iff.2 hb]
       · exact absurd h3 (by simp [lieS]; omega)
     · rw [if_neg hnil]
       have hpos := List.length_pos_iff.2 hnil
       have hib := hd.app (z1he hl.b hlong)
       rcases h2 hshort with rfl | ⟨rfl, h3⟩
       · rw [neI_f rfl]
         simp only [cond_false]
         rw [z0p (by omega), eqI_f (by omega), z0p (by omega), z1lz _ (by simp) (by simp; omega)]
         simp only [cond_false, Option.bind_some, List.flatten_cons, List.flatten_nil, List.append_nil, beq_self, cond_true]
         rw [z0p (by omega), z1t (by omega)]
         have := z1n9 h hk hx hj hj.s (there := j.2.1.length) hib (by simp; omega) (by simp) (j.2.2.1 + (l.length : Int))
         rw [Bool.eq_false_iff.2 hb] at this
         rw [this]
         simp only [Option.bind_some, beq_self, cond_true, flatJ]
       · rw [neI_t (by decide)]
         simp only [cond_true, beq_self]
         unfold layJ
         rw [if_pos (.inr (by unfold roomS; rw [List.length_append]; omega))]
         simp only [flatJ, Bool.eq_false_iff.2 hb]
theorem z1ln {k : Nat} {x : DevT} (h : Dv k x) (hk : k ≤ 90000) (hx : 2 ≤ x.2.2.2.2.2.length ∧ x.2.2.2.2.2.length ≤ 5000) {j : JT} (hj : OkJ j) {l : List (List Int)} (hl : OkL l) :
   z7k l j.1 j.2.1 j.2.2.1 j.2.2.2 x.1 x.2.1 x.2.2.1 x.2.2.2.1 x.2.2.2.2.1 x.2.2.2.2.2 = some (flatJ (z1aq x j l)) := by
 unfold z7k z7z z1aq
 simp only [z2t, Option.bind_some]
 by_cases hb : j.2.2.2 = true
 · rw [hb, if_pos rfl]
   simp only [cond_true, beq_self, flatJ, hb]
 · rw [if_neg hb, Bool.eq_false_iff.2 hb]
   simp only [cond_false]
   rw [zhu _ _ _ _ _ _ hx]
   simp only [Option.bind_some]
   have hsec : 0 ≤ secS x.2.2.2.2.2.length ∧ secS x.2.2.2.2.2.length ≤ 2500 := by unfold secS; omega
   rw [z1t (n := secS x.2.2.2.2.2.length * 256) (by omega)]
   obtain ⟨p, hp, h1, h2⟩ := z1k9 l (room := secS x.2.2.2.2.2.length * 256) hl.n (by have := hl.s; omega) (by omega)
   rw [hp]
   simp only [Option.bind_some]
   by_cases hlong : longL l
   · rw [if_pos hlong, h1 hlong, neI_t (by decide)]
     simp only [cond_true, beq_self, flatJ, Bool.eq_false_iff.2 hb]
   · rw [if_neg hlong]
     have hshort : ∀ y, y ∈ l → y.length ≤ 65531 := fun y hy => by
       by_cases h3 : y.length ≤ 65531
       · exact h3
       · exact absurd ⟨y, hy, by omega⟩ hlong
     have hn := hl.n
     have hls := hl.s
     have hib := z1he hl.b hlong
     have hjs := hj.s
     rcases h2 hshort with rfl | ⟨rfl, h3⟩
     · rw [neI_f rfl]
       simp only [cond_false]
       rw [z0p (by omega), z1t (by omega)]
       have := z1n9 h hk hx hj (side := 1 - j.1.2.1) (by omega) (there := 0) hib (by omega) (by omega) (l.length : Int)
       rw [Bool.eq_false_iff.2 hb] at this
       simp only [beq_self, cond_true]
       rw [show (((0 : Nat) : Int)) = 0 from rfl] at this
       rw [this]
       simp only [Option.bind_some, beq_self, cond_true, flatJ]
     · rw [neI_t (by decide)]
       simp only [cond_true, beq_self]
       unfold layJ
       rw [if_pos (.inr (by unfold roomS; omega))]
       simp only [flatJ, Bool.eq_false_iff.2 hb]
theorem z1p8 {x : DevT} (hx : 2 ≤ x.2.2.2.2.2.length ∧ x.2.2.2.2.2.length ≤ 5000) {j : JT} (hdl : j.2.1.length ≤ 1000000) (w : List (List Int)) (hw : w = x.2.2.2.2.2) :
   zbl (w, x.1, x.2.1, x.2.2.1, x.2.2.2.1, x.2.2.2.2.1) j.1 j.2.1 j.2.2.1 j.2.2.2 = some (roomS x.2.2.2.2.2.length - (j.2.1.length : Int)) := by
 subst hw
 unfold zbl
 rw [zhu _ _ _ _ _ _ hx]
 have hsec : 0 ≤ secS x.2.2.2.2.2.length ∧ secS x.2.2.2.2.2.length ≤ 2500 := by unfold secS; omega
 simp only [Option.bind_some]
 rw [z0p (by omega), z1t (n := secS x.2.2.2.2.2.length * 256) (by omega), z1t (by omega)]; rfl
end Go.Proofs.Ytpfjfldagldgnaa