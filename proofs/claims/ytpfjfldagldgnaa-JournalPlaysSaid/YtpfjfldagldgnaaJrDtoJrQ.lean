import Derived.Test.YtpfjfldagldgnaaJrItoJrA
import Derived.Test.YtpfjfldagldgnaaTm19to26
open Option renaming bind_some → kA, getD_some → kL
open List renaming getElem?_eq_getElem → kB, length_take → kC, drop_eq_nil_of_le → kD, length_append → kE, take_of_length_le → kF, length_replicate → kG, replicate → kH, mem_or_eq_of_mem_set → kI, nil_append → kJ, length_drop → kK, getElem_mem → kM, drop_append_of_le_length → kP, take_append_of_le_length → kQ, length_set → kR, take_take → kS, eq_nil_of_length_eq_zero → kT, drop_zero → kU, append_nil → kV, take_append_drop → kW, drop_eq_getElem_cons → kY, length → k0, dropLast_concat_getLast → k9, drop_drop → ka, mem_of_getElem? → kb, append_assoc → kh, getElem?_set_self → ki, drop_append → kj, take_append → km, take_length → ko, drop_replicate → kq, mem_cons → kr, cons_append → ks, not_mem_nil → kt, length_nil → ku, mem_append → kv, drop_left → kx, drop_take → ky, take_zero → kz, map_take → lC
open Bool renaming eq_false_iff → kN, false_eq_true → ke
open Nat renaming min_eq_left → kO, min_eq_right → kZ, le_refl → kw, ble_eq → lB, beq → lD
open Int renaming lt_irrefl → kc, tmod → lA
set_option linter.unusedSimpArgs false
set_option linter.unusedVariables false
namespace Go.Proofs.Ytpfjfldagldgnaa
open Go.Tm Go.Ab
theorem zlf (n : Nat) : Nat.ble n n = true := lB.mpr (kw n)
theorem beq_self (n : Nat) : lD n n = true := Nat.beq_refl n
theorem z4h {R α : Type} (l : List α) (n : Nat) (h : n = l.length) (k : List α -> Option R) : yf l 0 n k = k l := by
 subst h;unfold yf;have : zc6 0 (k0 l) = k0 l := rfl;rw [this, zlf];simp [zxe]
theorem ylr {α : Type} (l m : List α) : z1y l 0 l.length m = m.take l.length ++ l.drop m.length := by
 unfold z1y;rw [kz, kJ, Nat.zero_add];rcases Nat.le_total m.length l.length with h | h
 ·rw [kO h, ko, kF h]
 ·rw [kZ h, List.drop_length, kD h]
variable {n : Nat}
theorem zi {R : Type} (h : n <= 9223372036854775807) (k : Option R) : zk n k = k := by
 unfold zk; rw [lB.mpr h]; rfl
variable {i : Nat}
theorem zy0 {α : Type} {l : List α} : yn l (i : Int) = l[i]? := by
 unfold yn; rw [z3g (Int.natCast_nonneg i)]; simp
theorem ywg (n : Nat) : zV 0 (n : Int) n = true := by
 simp [zV, leI]
theorem yba (l : List Int) (v : Int) (hl : l.length < 1000000) :
  ∀ (k i : Nat), i + k = l.length -> zb xG (l, v, (l.length : Nat), (i : Int)) = some (match (l.drop i).findIdx? (fun x => decide (v = x)) with | some j => .inr ((i + j : Nat) : Int) | none => .inl ())
 | 0, i, h => by
  rw [zL];unfold xG z3h;rw [zP (by simp; omega), kD (by omega)]
  rfl
 | k + 1, i, h => by
  have hi : i < l.length := by omega
  rw [zL, show xG (l, v, (l.length : Nat), (i : Int)) = z3h l v (l.length : Nat) (i : Int) from rfl]
  unfold z3h;rw [zY (by omega), zy0, kB hi, kY hi]
  simp only [kA, cond_true, List.findIdx?_cons]
  by_cases hx : v = l[i]
  ·rw [ql hx];simp [hx]
  ·rw [z00 hx];simp only [hx, decide_false, cond_false, kA, Sum.elim_inl, ke, if_false];have ih := yba l v hl k (i + 1) (by omega)
   rw [zo (by omega), show ((i : Int) + 1) = ((i + 1 : Nat) : Int) by simp, ih]
   cases hf : (l.drop (i + 1)).findIdx? (fun x => decide (v = x)) with
   | none => simp
   | some j => simp; omega
theorem ykt (l : List Int) (v : Int) (hl : l.length < 1000000) : zbz l v = some (decide (v ∈ l)) := by
 unfold zbz zu0;rw [zi (by omega)]
 have := yba l v hl l.length 0 (by omega)
 rw [show ((0 : Nat) : Int) = 0 from rfl] at this
 rw [this];simp only [kU, kA];cases hf : l.findIdx? (fun x => decide (v = x)) with
 | none =>
  have hn : v ∉ l := fun hm => by
   rw [List.findIdx?_eq_none_iff] at hf;have := hf v hm;simp at this
  simp [hn, leI]
 | some j =>
  have hm : v ∈ l := by
   rw [List.findIdx?_eq_some_iff_getElem] at hf;obtain ⟨h1, h2, _⟩ := hf;simp at h2;rw [h2]; exact kM h1
  simp [hm, leI]
def vA (c : List Int × Int × Int) (k : Nat) : Int := if (k : Int) ∈ c.1 then 256 else if c.2.1 = (k : Int) then zdp 0 (y4w c.2.2 256) else 0
theorem zu5 (c : List Int × Int × Int) (k : Nat) : 0 <= vA c k /\ vA c k <= 256 := by
 unfold vA;split
 ·omega
 ·split
  ·simp only [zdp, y4w]; split <;> split <;> omega
  ·omega
def zm8 (sure : List (List Int)) (w : Int × List Int) (n : Nat) : List (List Int) := sure.set w.1.toNat (w.2.take n ++ ((sure[w.1.toNat]?).getD []).drop n)
def z7m (c : List Int × Int × Int) : List (Int × List Int) -> Nat -> List (List Int) -> List (List Int)
 | [], _, s => s
 | w :: ws, k, s => z7m c ws (k + 1) (zm8 s w (vA c k).toNat)
theorem zhf (sure : List (List Int)) (w : Int × List Int) (n : Nat) : (zm8 sure w n).length = sure.length := by simp [zm8]
structure OkD (loose : List (Int × List Int)) (sure : List (List Int)) : Prop where
 s : ∀ x, x ∈ sure -> x.length = 256
 w : ∀ w, w ∈ loose -> 0 <= w.1 /\ w.1 < sure.length /\ w.2.length = 256
theorem ydt {sure : List (List Int)} {w : Int × List Int} (hs : ∀ x, x ∈ sure -> x.length = 256) (h0 : 0 <= w.1) (h1 : w.1 < sure.length) (h2 : w.2.length = 256) (hn : n <= 256) : ∀ x, x ∈ zm8 sure w n -> x.length = 256 := fun x hx => by
 unfold zm8 at hx;rcases kI hx with hx | rfl
 ·exact hs x hx
 ·have hlt : w.1.toNat < sure.length := by omega
  have := hs _ (kM hlt);rw [kB hlt, kL, kE, kC, kK, this];omega
theorem yi9 (loose : List (Int × List Int)) (d2 : Int) (d3 : List Int × Int × Int) (d4 : Int) (d5 : Bool) (d : List (Int × List Int)) (c : List Int × Int × Int) (hl : loose.length < 1000000) (hc : c.1.length < 1000000) :
  ∀ (k i : Nat) (sure : List (List Int)), i + k = loose.length -> OkD loose sure ->
   zb yg (loose, (loose.length : Nat), (i : Int), d, d2, d3, d4, d5, c, sure) = some (d, d2, d3, d4, d5, z7m c (loose.drop i) i sure)
 | 0, i, sure, h, ok => by
  rw [zL, show yg (loose, (loose.length : Nat), (i : Int), d, d2, d3, d4, d5, c, sure) = xW loose (loose.length : Nat) (i : Int) d d2 d3 d4 d5 c sure from rfl]
  unfold xW;rw [zP (by simp; omega), kD (by omega)]
  simp only [beq_self, cond_true, cond_false, kA, Sum.elim_inr, z7m]
 | k + 1, i, sure, h, ok => by
  have hi : i < loose.length := by omega
  have hw := ok.w _ (kM hi);have hlt : loose[i].1.toNat < sure.length := by omega
  have hsl := ok.s _ (kM hlt);have ht := zu5 c i;rw [zL, show yg (loose, (loose.length : Nat), (i : Int), d, d2, d3, d4, d5, c, sure) = xW loose (loose.length : Nat) (i : Int) d d2 d3 d4 d5 c sure from rfl]
  unfold xW;rw [zY (by omega), zy0, kB hi, ykt _ _ hc]
  simp only [kA, cond_true, beq_self];have hj : (bif decide ((i : Int) ∈ c.1) then some ((256 : Int), loose, ((loose.length : Nat) : Int), (i : Int), d, d2, d3, d4, d5, c, loose[i], sure)
    else bif eqI c.2.1 i then some (zdp 0 (y4w c.2.2 256), loose, ((loose.length : Nat) : Int), (i : Int), d, d2, d3, d4, d5, c, loose[i], sure)
    else some (0, loose, ((loose.length : Nat) : Int), (i : Int), d, d2, d3, d4, d5, c, loose[i], sure)) = some (vA c i, loose, ((loose.length : Nat) : Int), (i : Int), d, d2, d3, d4, d5, c, loose[i], sure) := by
   unfold vA
   by_cases h1 : (i : Int) ∈ c.1
   ·simp [h1]
   ·by_cases h2 : c.2.1 = (i : Int)
    ·simp [h1, h2, eqI]
    ·simp [h1, h2, eqI]
  rw [hj];simp only [kA];rw [yhb (by omega), kB hlt]
  simp only [kA, cond_true];rw [show zV 0 (vA c i) 256 = true by simp [zV, leI]; omega, z4h _ _ hw.2.2.symm]
  simp only [cond_true];have hcp : z1y sure[loose[i].1.toNat] 0 (vA c i).toNat loose[i].2 = loose[i].2.take (vA c i).toNat ++ sure[loose[i].1.toNat].drop (vA c i).toNat := by
   unfold z1y;rw [kZ (by omega)]
   simp
  have hput : sure.set loose[i].1.toNat (loose[i].2.take (vA c i).toNat ++ sure[loose[i].1.toNat].drop (vA c i).toNat) = zm8 sure loose[i] (vA c i).toNat := by
   unfold zm8; rw [kB hlt, kL]
  rw [show Nat.ble (vA c i).toNat sure[loose[i].1.toNat].length = true from lB.mpr (by omega), hcp, hput, zhf, beq_self]
  simp only [cond_true, kA, Sum.elim_inl];rw [zo (by omega), show ((i : Int) + 1) = ((i + 1 : Nat) : Int) by simp, yi9 loose d2 d3 d4 d5 d c hl hc k (i + 1) _ (by omega)
   ⟨ydt ok.s hw.1 hw.2.1 hw.2.2 (by omega), fun w hm => by rw [zhf]; exact ok.w w hm⟩, kY hi]
  rfl
abbrev zC := List (Int × List Int) × Int × (List Int × Int × Int) × Int × Bool × List (List Int)
def z9b (off : Bool) (n : Nat) (i : Int) : Int := if off then 6 else if 0 <= i /\ i < n then 0 else 2
theorem yiz (s : List (List Int)) (l : List (Int × List Int)) (d2 : Int) (d3 : List Int × Int × Int) (d4 : Int) (off : Bool) (i : Int) (hs : s.length < 1000000) : z03 (s, l, d2, d3, d4, off) i = some (z9b off s.length i) := by
 unfold z03 jJ z9b;simp only [kA];cases off with
 | true => rfl
 | false =>
  simp only [cond_false, ke, if_false]
  by_cases h0 : i < 0
  ·rw [zY h0, if_neg (by omega)]; rfl
  ·rw [zP h0, zi (by omega)]
   by_cases h1 : i < s.length
   ·rw [yhc (by omega), if_pos (by omega)]; rfl
   ·rw [z3g (by omega), if_neg (by omega)]; rfl
def zzt (c : List Int × Int × Int) (x : zC) : zC := if x.2.2.2.2.1 then x else ([], -1, x.2.2.1, x.2.2.2.1, true, z7m c x.1 0 x.2.2.2.2.2)
theorem zzu (c : List Int × Int × Int) : ∀ (l : List (Int × List Int)) (k : Nat) (s : List (List Int)), (z7m c l k s).length = s.length
 | [], _, _ => rfl
 | w :: ws, k, s => by simp only [z7m]; rw [zzu c ws, zhf]
theorem ypt (c : List Int × Int × Int) (l : List (Int × List Int)) (d2 : Int) (d3 : List Int × Int × Int) (d4 : Int) (off : Bool) (s : List (List Int)) (hl : l.length < 1000000) (hc : c.1.length < 1000000) (ok : OkD l s) :
  qH c l d2 d3 d4 off s = some (zzt c (l, d2, d3, d4, off, s)) := by
 unfold qH jJ zzt;rw [z4h _ _ rfl];simp only [kA, beq_self, cond_true];cases off with
 | true => rfl
 | false =>
  simp only [cond_false, ke, if_false];rw [zi (by omega)]
  have := yi9 l d2 d3 d4 false l c hl hc l.length 0 s (by omega) ok
  rw [show ((0 : Nat) : Int) = 0 from rfl] at this
  rw [this];simp only [kA, beq_self, cond_true, kU]
def yy (x : zC) : Int × zC :=
 if x.2.1 < 0 then (0, x.1, x.2.1, x.2.2.1, x.2.2.2.1 + 1, x.2.2.2.2.1, x.2.2.2.2.2)
 else if x.2.1 = 0 then (6, zzt x.2.2.1 (x.1, -1, x.2.2.1, x.2.2.2.1 + 1, x.2.2.2.2.1, x.2.2.2.2.2))
 else (0, x.1, x.2.1 - 1, x.2.2.1, x.2.2.2.1 + 1, x.2.2.2.2.1, x.2.2.2.2.2)
structure OkDev (x : zC) : Prop where
 d : OkD x.1 x.2.2.2.2.2
 l : x.1.length < 900000
 left : -1 <= x.2.1 /\ x.2.1 <= 9223372036854775807
 c : x.2.2.1.1.length < 1000000
 n : 0 <= x.2.2.2.1 /\ x.2.2.2.1 < 1000000000
 s : x.2.2.2.2.2.length < 1000000
theorem y3x (l : List (Int × List Int)) (d2 : Int) (d3 : List Int × Int × Int) (d4 : Int) (off : Bool) (s : List (List Int)) (hl : l.length < 1000000) (hc : d3.1.length < 1000000) (h2 : -1 <= d2 /\ d2 <= 9223372036854775807) (h4 : 0 <= d4 /\ d4 < 1000000000) (ok : OkD l s) :
  jE l d2 d3 d4 off s = some (yy (l, d2, d3, d4, off, s)) := by
 unfold jE yy;simp only [beq_self, cond_true];rw [zo (n := d4 + 1) (by omega)]
 by_cases h : d2 < 0
 ·rw [zY h, if_pos h]; rfl
 ·rw [zP h, if_neg h, zo (n := d2 - 1) (by omega)]
  by_cases h0 : d2 = 0
  ·subst h0;rw [zY (by omega), if_pos rfl]
   simp only [cond_true, cond_false];rw [show (0 : Int) - 1 = -1 from rfl, ypt _ _ _ _ _ _ _ hl hc ok]
   rfl
  ·rw [zP (by omega), if_neg h0]; rfl
def jk : List (Int × List Int) -> List (List Int) -> List (List Int)
 | [], s => s
 | w :: ws, s => jk ws (s.set w.1.toNat w.2)
theorem zwb : ∀ (l : List (Int × List Int)) (s : List (List Int)), (jk l s).length = s.length
 | [], _ => rfl
 | w :: ws, s => by simp only [jk]; rw [zwb ws, kR]
theorem yrp {sure : List (List Int)} {w : Int × List Int} (hs : ∀ x, x ∈ sure -> x.length = 256) (h2 : w.2.length = 256) : ∀ x, x ∈ sure.set w.1.toNat w.2 -> x.length = 256 := fun x hx => by
 rcases kI hx with hx | rfl
 ·exact hs x hx
 ·exact h2
theorem y3r (loose d : List (Int × List Int)) (d2 : Int) (d3 : List Int × Int × Int) (d4 : Int) (d5 : Bool) (hl : loose.length < 1000000) :
  ∀ (k i : Nat) (sure : List (List Int)), i + k = loose.length -> OkD loose sure ->
   zb zU (loose, (loose.length : Nat), (i : Int), d, d2, d3, d4, d5, sure) = some (d, d2, d3, d4, d5, jk (loose.drop i) sure)
 | 0, i, sure, h, ok => by
  rw [zL, show zU (loose, (loose.length : Nat), (i : Int), d, d2, d3, d4, d5, sure) = yP loose (loose.length : Nat) (i : Int) d d2 d3 d4 d5 sure from rfl]
  unfold yP;rw [zP (by simp; omega), kD (by omega)]
  simp only [beq_self, cond_true, cond_false, kA, Sum.elim_inr, jk]
 | k + 1, i, sure, h, ok => by
  have hi : i < loose.length := by omega
  have hw := ok.w _ (kM hi);have hlt : loose[i].1.toNat < sure.length := by omega
  rw [zL, show zU (loose, (loose.length : Nat), (i : Int), d, d2, d3, d4, d5, sure) = yP loose (loose.length : Nat) (i : Int) d d2 d3 d4 d5 sure from rfl]
  unfold yP;rw [zY (by omega), zy0, kB hi]
  simp only [kA, cond_true];rw [yhb (by omega), kB hlt, kR, beq_self]
  simp only [cond_true, kA, Sum.elim_inl];rw [zo (by omega), show ((i : Int) + 1) = ((i + 1 : Nat) : Int) by simp, y3r loose d d2 d3 d4 d5 hl k (i + 1) _ (by omega)
   ⟨yrp ok.s hw.2.2, fun w hm => by rw [kR]; exact ok.w w hm⟩, kY hi]
  rfl
variable {x : zC}
theorem yv1 {c : List Int × Int × Int} (h : OkDev x) : OkDev (zzt c x) := by
 unfold zzt;split
 ·exact h
 ·have key : ∀ (l : List (Int × List Int)) (k : Nat) (s : List (List Int)), OkD l s -> ∀ y, y ∈ z7m c l k s -> y.length = 256 := by
   intro l
   induction l with
   | nil => intro k s ok; exact ok.s
   | cons w ws ih =>
    intro k s ok;have hw := ok.w w (by simp)
    have ht := zu5 c k;exact ih (k + 1) _ ⟨ydt ok.s hw.1 hw.2.1 hw.2.2 (by omega), fun v hv => by rw [zhf]; exact ok.w v (by simp [hv])⟩
  exact ⟨⟨key _ _ _ h.d, fun w hw => by cases hw⟩, by simp, by simp, h.c, h.n, by simp only [zzu]; exact h.s⟩
def yJ (x : zC) : Int × zC :=
 if x.2.2.2.2.1 then (6, x)
 else if (yy x).1 ≠ 0 then yy x
 else (0, [], (yy x).2.2.1, (yy x).2.2.2.1, (yy x).2.2.2.2.1, (yy x).2.2.2.2.2.1, jk (yy x).2.1 (yy x).2.2.2.2.2.2)
theorem yex (h : OkD x.1 x.2.2.2.2.2) (hl : x.1.length < 1000000) : (yy x).1 = 0 -> OkD (yy x).2.1 (yy x).2.2.2.2.2.2 /\ (yy x).2.1.length < 1000000 := fun h0 => by
 unfold yy at h0 ⊢;split at h0
 ·rename_i h1; rw [if_pos h1]; exact ⟨h, hl⟩
 ·rename_i h1;rw [if_neg h1];split at h0
  ·exact absurd h0 (by simp)
  ·rename_i h2; rw [if_neg h2]; exact ⟨h, hl⟩
theorem zzo (l : List (Int × List Int)) (d2 : Int) (d3 : List Int × Int × Int) (d4 : Int) (off : Bool) (s : List (List Int)) (h : OkDev (l, d2, d3, d4, off, s)) :
  je l d2 d3 d4 off s = some (yJ (l, d2, d3, d4, off, s)) := by
 have hl := h.l;have h2 := h.left;have h4 := h.n;simp only at hl h2 h4;unfold je jJ yJ;rw [z4h _ _ rfl];simp only [kA, beq_self, cond_true];cases off with
 | true => rfl
 | false =>
  rw [y3x l d2 d3 d4 false s (by omega) h.c h2 h4 h.d]
  simp only [cond_false, ke, if_false, kA, beq_self, cond_true];have hc := yex (x := (l, d2, d3, d4, false, s)) h.d (by simp only; omega)
  generalize yy (l, d2, d3, d4, false, s) = r at hc
  by_cases h0 : r.1 = 0
  ·rw [xj h0, if_neg (by simp [h0])]
   obtain ⟨c1, c2⟩ := hc h0;simp only [cond_false];rw [zi (by omega)]
   have := y3r r.2.1 r.2.1 r.2.2.1 r.2.2.2.1 r.2.2.2.2.1 r.2.2.2.2.2.1 c2 r.2.1.length 0 r.2.2.2.2.2.2 (by omega) c1
   rw [show ((0 : Nat) : Int) = 0 from rfl] at this
   rw [this];simp only [kA, beq_self, cond_true, kU]
  ·rw [qX h0, if_pos h0]; rfl
theorem yu6 {α : Type} (l : List α) : zA l 0 (l.length : Int) = l := by
 simp [zA]
theorem ylq (l : List (Int × List Int)) (hl : l.length < 1000000) : zgm l = some l := by
 unfold zgm;rw [zi (by omega), zi (by omega), ywg, ql rfl, yu6]
 rfl
theorem xS {R : Type} {n m nb : Nat} (h : (n + m) * nb <= 140737488355328) (k : Unit -> Option R) : qL n m nb k = k () := by
 unfold qL; rw [lB.mpr h]; rfl
def yA (x : zC) (i : Int) (b : List Int) : Int × zC :=
 if z9b x.2.2.2.2.1 x.2.2.2.2.2.length i ≠ 0 then (z9b x.2.2.2.2.1 x.2.2.2.2.2.length i, x)
 else if b.length ≠ 256 then (1, x)
 else yy (x.1 ++ [(i, b)], x.2)
theorem ymh (b : List Int) (h : b.length = 256) : z1y (kH 256 (0 : Int)) 0 256 b = b := by
 have := ylr (kH 256 (0 : Int)) b;rw [kG] at this;rw [this, kq, h, kF (by omega)]
 simp
theorem ykk {off : Bool} {i : Int} (h : z9b off n i = 0) : 0 <= i /\ i < n := by
 unfold z9b at h;split at h
 ·cases h
 ·split at h
  ·assumption
  ·cases h
theorem OkDev.add (h : OkDev x) {i : Int} {b : List Int} (hi : 0 <= i /\ i < x.2.2.2.2.2.length) (hb : b.length = 256) : OkD (x.1 ++ [(i, b)]) x.2.2.2.2.2 :=
 ⟨h.d.s, fun w hw => by
  rcases kv.1 hw with hw | hw
  ·exact h.d.w w hw
  ·simp only [List.mem_singleton] at hw; subst hw; exact ⟨hi.1, hi.2, hb⟩⟩
theorem ykm (i : Int) (b : List Int) (l : List (Int × List Int)) (d2 : Int) (d3 : List Int × Int × Int) (d4 : Int) (off : Bool) (s : List (List Int)) (h : OkDev (l, d2, d3, d4, off, s)) (hb : b.length < 1000000) :
  z0y i b l d2 d3 d4 off s = some (yA (l, d2, d3, d4, off, s) i b) := by
 have hl := h.l;have h2 := h.left;have h4 := h.n;simp only at hl h2 h4;unfold z0y yA;rw [z4h _ _ rfl, yiz _ _ _ _ _ _ _ h.s];simp only [kA, beq_self, cond_true]
 by_cases hw : z9b off s.length i = 0
 ·rw [xj hw, if_neg (by simpa using hw), zi (by omega)]
  by_cases hbl : b.length = 256
  ·rw [xj (by omega), if_neg (by simpa using hbl), kG, zlf, ylq l (by omega)]
   simp only [cond_false, cond_true, kA];rw [xS (by simp only [List.length_singleton]; omega), ymh b hbl, y3x (l ++ [(i, b)]) d2 d3 d4 off s (by simp; omega) h.c h2 h4 (h.add (ykk hw) hbl)]
   rfl
  ·rw [qX (by omega), if_pos hbl]; rfl
 ·rw [qX hw, if_pos hw]; rfl
theorem ys1 (i : Int) (b : List Int) (l : List (Int × List Int)) (d2 : Int) (d3 : List Int × Int × Int) (d4 : Int) (off : Bool) (s : List (List Int)) (h : OkDev (l, d2, d3, d4, off, s)) (hb : b.length < 1000000) :
  z0z i l d2 d3 d4 off b s = some ((fun r : Int × zC => (r.1, r.2.1, r.2.2.1, r.2.2.2.1, r.2.2.2.2.1, r.2.2.2.2.2.1, b, r.2.2.2.2.2.2)) (yA (l, d2, d3, d4, off, s) i b)) := by
 have hl := h.l;have h2 := h.left;have h4 := h.n;simp only at hl h2 h4;unfold z0z yA;rw [z4h _ _ rfl, yiz _ _ _ _ _ _ _ h.s];simp only [kA, beq_self, cond_true]
 by_cases hw : z9b off s.length i = 0
 ·rw [xj hw, if_neg (by simpa using hw), zi (by omega)]
  by_cases hbl : b.length = 256
  ·rw [xj (by omega), if_neg (by simpa using hbl), z4h _ _ rfl, kG, zlf, ylq l (by omega)]
   simp only [cond_false, cond_true, kA];rw [xS (by simp only [List.length_singleton]; omega), ymh b hbl, y3x (l ++ [(i, b)]) d2 d3 d4 off s (by simp; omega) h.c h2 h4 (h.add (ykk hw) hbl)]
   rfl
  ·rw [qX (by omega), if_pos hbl]; rfl
 ·rw [qX hw, if_pos hw]; rfl
def z28 : List (Int × List Int) -> Int -> List Int -> List Int
 | [], _, x => x
 | w :: ws, i, x => z28 ws i (if w.1 = i then w.2 else x)
theorem y56 (i : Int) (loose d : List (Int × List Int)) (d2 : Int) (d3 : List Int × Int × Int) (d4 : Int) (d5 : Bool) (s : List (List Int)) (hl : loose.length < 1000000) :
  ∀ (k j : Nat) (x : List Int), j + k = loose.length ->
   zb zX (i, loose, (loose.length : Nat), (j : Int), d, d2, d3, d4, d5, x, s) = some (d, d2, d3, d4, d5, z28 (loose.drop j) i x, s)
 | 0, j, x, h => by
  rw [zL, show zX (i, loose, (loose.length : Nat), (j : Int), d, d2, d3, d4, d5, x, s) = xn i loose (loose.length : Nat) (j : Int) d d2 d3 d4 d5 x s from rfl]
  unfold xn;rw [zP (by simp; omega), kD (by omega)]
  simp only [beq_self, cond_true, cond_false, kA, Sum.elim_inr, z28]
 | k + 1, j, x, h => by
  have hj : j < loose.length := by omega
  rw [zL, show zX (i, loose, (loose.length : Nat), (j : Int), d, d2, d3, d4, d5, x, s) = xn i loose (loose.length : Nat) (j : Int) d d2 d3 d4 d5 x s from rfl]
  unfold xn;rw [zY (by omega), zy0, kB hj]
  simp only [kA, cond_true, beq_self];rw [zo (by omega), show ((j : Int) + 1) = ((j + 1 : Nat) : Int) by simp, kY hj]
  by_cases h1 : loose[j].1 = i
  ·rw [ql h1];simp only [cond_true, kA, Sum.elim_inl];rw [y56 i loose d d2 d3 d4 d5 s hl k (j + 1) _ (by omega)]
   simp only [z28, h1, if_true]
  ·rw [z00 h1];simp only [cond_false, kA, Sum.elim_inl];rw [y56 i loose d d2 d3 d4 d5 s hl k (j + 1) _ (by omega)]
   simp only [z28, if_neg h1]
theorem y9r : ∀ (l : List (Int × List Int)) (i : Int) (x : List Int), (∀ w, w ∈ l -> w.2.length = 256) -> x.length = 256 -> (z28 l i x).length = 256
 | [], _, _, _, h => h
 | w :: ws, i, x, hw, h => by
  simp only [z28];refine y9r ws i _ (fun v hv => hw v (by simp [hv])) ?_
  split
  ·exact hw w (by simp)
  ·exact h
def yc2 (x : zC) (i : Int) : Int × List Int :=
 if z9b x.2.2.2.2.1 x.2.2.2.2.2.length i ≠ 0 then (z9b x.2.2.2.2.1 x.2.2.2.2.2.length i, []) else (0, z28 x.1 i ((x.2.2.2.2.2[i.toNat]?).getD []))
theorem yw1 (i : Int) (l : List (Int × List Int)) (d2 : Int) (d3 : List Int × Int × Int) (d4 : Int) (off : Bool) (s : List (List Int)) (h : OkDev (l, d2, d3, d4, off, s)) :
  qk i l d2 d3 d4 off s = some ((yc2 (l, d2, d3, d4, off, s) i).1, l, d2, d3, d4, off, (yc2 (l, d2, d3, d4, off, s) i).2, s) := by
 have hl := h.l;simp only at hl;unfold qk yc2;rw [z4h _ _ rfl, yiz _ _ _ _ _ _ _ h.s];simp only [kA, beq_self, cond_true]
 by_cases hw : z9b off s.length i = 0
 ·obtain ⟨h0, h1⟩ := ykk hw;have hlt : i.toNat < s.length := by omega
  have hx := h.d.s _ (kM hlt);rw [xj hw, if_neg (by simpa using hw), yhb (by omega), kB hlt]
  simp only [cond_false, cond_true, kA, kL];rw [zi (by omega)]
  have := y56 i l l d2 d3 d4 off s (by omega) l.length 0 s[i.toNat] (by omega)
  rw [show ((0 : Nat) : Int) = 0 from rfl] at this
  rw [this];simp only [kA, kU];rw [y9r l i _ (fun w hw => (h.d.w w hw).2.2) hx, beq_self]
  first | rfl | (simp only [beq_self, cond_true])
 ·rw [qX hw, if_pos hw]; rfl
def z32 (n : Nat) : zC := ([], -1, ([], 0, 0), 0, false, kH n (kH 256 0))
theorem yvh (n : Nat) (hn : n < 1000000) : OkDev (z32 n) where
 d := ⟨fun x hx => by
  have := List.eq_of_mem_replicate hx;rw [this, kG], fun w hw => by cases hw⟩
 l := Nat.zero_lt_succ _
 left := show -1 <= (-1 : Int) /\ (-1 : Int) <= 9223372036854775807 from ⟨by decide, by decide⟩
 c := Nat.zero_lt_succ _
 n := show 0 <= (0 : Int) /\ (0 : Int) < 1000000000 from ⟨by decide, by decide⟩
 s := by show (kH n _).length < _; rw [kG]; exact hn
def xt (l : List Int) : Int := l.foldl (fun n c => n * 256 + c) 0
theorem or8 {a b : Int} (ha : 0 <= a /\ a < 72057594037927936) (hb : 0 <= b /\ b <= 255) : zh0 .or .u64 (shI .shl .u64 a 8) (xJ b) = a * 256 + b := by
 rw [z5k (by omega)]
 obtain ⟨a, rfl⟩ : ∃ k : Nat, a = k := ⟨a.toNat, by omega⟩
 obtain ⟨b, rfl⟩ : ∃ k : Nat, b = k := ⟨b.toNat, by omega⟩
 have e1 : shI .shl .u64 (a : Int) 8 = ((a * 256 : Nat) : Int) := by
  simp only [shI];rw [show min (8 : Int).toNat IntKind.u64.bits = 8 by rfl]
  rw [zaz .u64 (by constructor <;> simp [IntKind.min, IntKind.max, IntKind.bits, IntKind.signed] <;> omega)]
  omega
 rw [e1];simp only [zh0];have e2 : (BitVec.ofInt IntKind.u64.bits ((a * 256 : Nat) : Int) ||| BitVec.ofInt IntKind.u64.bits (b : Int)).toNat = a * 256 + b := by
  rw [BitVec.toNat_or, BitVec.ofInt_natCast, BitVec.ofInt_natCast, BitVec.toNat_ofNat, BitVec.toNat_ofNat];rw [show IntKind.u64.bits = 64 by rfl, Nat.mod_eq_of_lt (by omega), Nat.mod_eq_of_lt (by omega)]
  have := Nat.shiftLeft_add_eq_or_of_lt (show b < 2 ^ 8 by omega) a
  rw [Nat.shiftLeft_eq, show (2 : Nat) ^ 8 = 256 from rfl] at this
  omega
 rw [e2, zaz .u64 (by constructor <;> simp [IntKind.min, IntKind.max, IntKind.bits, IntKind.signed] <;> omega)]
 omega
def isB (l : List Int) : Prop := ∀ b, b ∈ l -> 0 <= b /\ b <= 255
theorem isB.take {l : List Int} (h : isB l) (n : Nat) : isB (l.take n) := fun b hb => h b (List.mem_of_mem_take hb)
theorem isB.drop {l : List Int} (h : isB l) (n : Nat) : isB (l.drop n) := fun b hb => h b (List.mem_of_mem_drop hb)
theorem isB.app {l m : List Int} (h : isB l) (g : isB m) : isB (l ++ m) := fun b hb => by
 rcases kv.1 hb with h1 | h1
 ·exact h b h1
 ·exact g b h1
theorem zrk : isB [] := fun b hb => by cases hb
theorem zlq (n : Nat) : isB (kH n (0 : Int)) := fun b hb => by rw [List.eq_of_mem_replicate hb]; omega
theorem zhe (l : List Int) (c : Int) : xt (l ++ [c]) = xt l * 256 + c := by simp [xt]
theorem zjn : ∀ (n : Nat) (l : List Int), l.length = n -> isB l -> 0 <= xt l /\ xt l < 256 ^ n
 | 0, l, h, _ => by rw [kT h]; simp [xt]
 | n + 1, l, h, hb => by
  obtain ⟨m, c, rfl⟩ : ∃ m c, l = m ++ [c] := ⟨l.dropLast, l.getLast (by intro e; rw [e] at h; cases h), (k9 _).symm⟩
  have hc := hb c (by simp)
  have := zjn n m (by simpa using h) (fun b hm => hb b (by simp [hm]))
  rw [zhe, Int.pow_succ];generalize (256 : Int) ^ n = q at *;omega
theorem yqt (h : i <= 7) : (256 : Int) ^ i <= 72057594037927936 := by
 have : (256 : Nat) ^ i <= 256 ^ 7 := Nat.pow_le_pow_right (by omega) h
 have e : ((256 : Nat) ^ i : Nat) = (256 : Int) ^ i := by simp
 rw [<- e]; have e2 : (256 : Nat) ^ 7 = 72057594037927936 := by decide
 omega
theorem yds (h : i <= 8) : (256 : Int) ^ i <= 18446744073709551616 := by
 have : (256 : Nat) ^ i <= 256 ^ 8 := Nat.pow_le_pow_right (by omega) h
 have e : ((256 : Nat) ^ i : Nat) = (256 : Int) ^ i := by simp
 rw [<- e]; have e2 : (256 : Nat) ^ 8 = 18446744073709551616 := by decide
 omega
theorem zvi {l : List Int} (hb : isB l) (hl : l.length <= 8) : z30 l = some (xt l) := by
 unfold z30;rw [zi (by omega)]
 have := (z9m qg l (fun i a => (a, l, ((l.length : Nat) : Int), (i : Int))) (fun a => a) (fun n c => n * 256 + c) (fun i a => a = xt (l.take i)) ?_ ?_ (a := 0) (by simp [xt])).1
 ·rw [show (((0 : Nat) : Int)) = 0 from rfl] at this
  rw [this]; rfl
 ·intro a _;show jq _ _ _ _ = _;unfold jq;rw [zP (kc _)]; rfl
 ·intro i a hi ha;subst ha;refine ⟨?_, ?_⟩
  ·show jq (xt (l.take i)) l ((l.length : Nat) : Int) (i : Int) = _;unfold jq;rw [zY (by omega), z3l hi]
   simp only [cond_true, kA];have h1 := zjn i (l.take i) (by rw [kC]; omega) (hb.take i)
   have h2 := yqt (i := i) (by omega)
   rw [or8 ⟨h1.1, by omega⟩ (hb _ (kM hi)), jh (by omega)]
  ·rw [show l.take (i + 1) = l.take i ++ [l[i]] from (List.take_append_getElem hi).symm, zhe]
def dig (n : Int) (i : Nat) : Int := n / 2 ^ (56 - 8 * i) % 256
def zac (n : Int) (k : Nat) : List Int := (List.range k).map (dig n)
def xA (n : Int) : List Int := zac n 8
def z5b (l : List Int) : List Int := l.dropWhile (fun c => decide (c = 0))
theorem ywy (n : Int) (i : Nat) : 0 <= dig n i /\ dig n i <= 255 := by unfold dig; omega
theorem yua (n : Int) (k : Nat) : isB (zac n k) := fun b hb => by
 obtain ⟨i, _, rfl⟩ := List.mem_map.1 hb;exact ywy n i
theorem zds (n : Int) : isB (xA n) := yua n 8
theorem vX (n : Int) : (xA n).length = 8 := by simp [xA, zac]
theorem yg4 (n : Int) (k : Nat) : zac n (k + 1) = zac n k ++ [dig n k] := by simp [zac, List.range_succ]
theorem yub (n : Int) (k : Nat) : (zac n k).length = k := by simp [zac]
theorem yrr (l : List Int) (c : Int) : z5b (l ++ [c]) = if c ≠ 0 \/ 0 < (z5b l).length then z5b l ++ [c] else [] := by
 unfold z5b;rw [List.dropWhile_append];cases h : List.dropWhile (fun c => decide (c = 0)) l with
 | nil =>
  simp only [List.isEmpty_nil, if_true, ku, Nat.lt_irrefl, or_false, kJ]
  by_cases hc : c = 0 <;> simp [hc]
 | cons x xs => simp
theorem y5v (l : List Int) : (z5b l).length <= l.length := (List.dropWhile_sublist _).length_le
theorem yfd : ∀ (l : List Int), kH (l.length - (z5b l).length) (0 : Int) ++ z5b l = l
 | [] => rfl
 | c :: l => by
  unfold z5b
  by_cases hc : c = 0
  ·subst hc;have := yfd l;have h2 := y5v l;unfold z5b at this h2;simp only [List.dropWhile_cons, decide_true, if_true, List.length_cons];rw [Nat.succ_sub h2, List.replicate_succ, ks, this]
  ·simp [List.dropWhile_cons, hc]
theorem ywc {n : Int} (k : Nat) (hk : k < 8) : WU8 (shI .shr .u64 n (56 - 8 * (k : Int))) = dig n k := by
 have e : shI .shr .u64 n (56 - 8 * (k : Int)) = n / 2 ^ (56 - 8 * k) := by
  simp only [shI];rw [show min (56 - 8 * (k : Int)).toNat IntKind.u64.bits = 56 - 8 * k by rw [show IntKind.u64.bits = 64 by rfl]; omega]
  rw [Int.fdiv_eq_ediv_of_nonneg _ (by exact Int.le_of_lt (Int.pow_pos (by omega)))]
 rw [e];unfold dig;show IntKind.u8.wrap _ = _;simp [IntKind.wrap, IntKind.bits, IntKind.signed]
theorem ywn {n : Int} : zmq n = some (z5b (xA n)) := by
 unfold zmq;rw [beq_self, cond_true];have := y0g jd (fun k => (n, 56 - 8 * (k : Int), z5b (zac n k))) (fun _ => z5b (xA n)) 8 ?_ ?_
 ·rw [show (56 - 8 * ((0 : Nat) : Int)) = 56 from rfl, show z5b (zac n 0) = [] from rfl] at this
  rw [this];simp only [kA, beq_self, cond_true]
 ·show vD n (56 - 8 * ((8 : Nat) : Int)) (z5b (zac n 8)) = _;unfold vD;rw [yhc (by omega)]
  simp only [cond_false, beq_self, cond_true];rfl
 ·intro k hk;refine .inl ⟨?_, rfl⟩;show vD n (56 - 8 * (k : Int)) (z5b (zac n k)) = _;unfold vD;rw [z3g (by omega), zP (by omega), ywc k hk]
  simp only [cond_false, beq_self, cond_true];have h1 := y5v (zac n k);rw [yub] at h1;rw [zi (by omega)]
  have e : W64 (56 - 8 * (k : Int) - 8) = 56 - 8 * ((k + 1 : Nat) : Int) := by rw [zo (by omega)]; omega
  rw [yg4, yrr]
  by_cases hd : dig n k = 0
  ·rw [xj hd];simp only [cond_false, kA]
   by_cases hl : 0 < (z5b (zac n k)).length
   ·rw [zY (by omega), if_pos (.inr hl)]
    simp only [cond_true];rw [xS (by simp; omega), e]
   ·rw [zP (by omega), if_neg (by rintro (h | h); exact h hd; exact hl h)]
    simp only [cond_false];rw [e, kT (show (z5b (zac n k)).length = 0 by omega)]
  ·rw [qX hd, if_pos (.inl hd)];simp only [cond_true, kA];rw [xS (by simp; omega), e]
theorem y95 (n : Int) : z4e n = some (xA n) := by
 unfold z4e;have h1 := y5v (xA n);rw [vX] at h1;rw [ywn];simp only [kA];rw [zi (by omega), zo (by omega), yvf (by omega) (by omega), yx, xS (by simp only [kG]; omega)]
 simp only [kG, beq_self, cond_true];have := yfd (xA n);rw [vX] at this;rw [show ((8 : Int) - ((z5b (xA n)).length : Nat)).toNat = 8 - (z5b (xA n)).length by omega, this]
theorem ysj (n : Int) (i : Nat) (hi : i < 7) : n / 2 ^ (56 - 8 * (i + 1)) = n / 2 ^ (56 - 8 * i) * 256 + dig n (i + 1) := by
 unfold dig;have e : (2 : Int) ^ (56 - 8 * i) = 2 ^ (56 - 8 * (i + 1)) * 256 := by
  rw [show 56 - 8 * i = (56 - 8 * (i + 1)) + 8 by omega, Int.pow_add]; rfl
 rw [e, <- Int.ediv_ediv_of_nonneg (Int.le_of_lt (Int.pow_pos (by omega)))]
 omega
theorem yfa {n : Int} (h : 0 <= n /\ n < 18446744073709551616) : ∀ k, k < 8 -> xt (zac n (k + 1)) = n / 2 ^ (56 - 8 * k)
 | 0, _ => by
  have : xt (zac n 1) = dig n 0 := by simp [zac, xt]
  rw [this];unfold dig;have e : (2 : Int) ^ (56 - 8 * 0) = 72057594037927936 := by decide
  rw [e]; omega
 | k + 1, hk => by rw [yg4, zhe, yfa h k (by omega), ysj n k (by omega)]
theorem znt {n : Int} (h : 0 <= n /\ n < 18446744073709551616) : xt (xA n) = n := by
 have := yfa h 7 (by omega)
 rw [show (2 : Int) ^ (56 - 8 * 7) = 1 from rfl, Int.ediv_one] at this
 exact this
theorem zna {α : Type} (l : List (List α)) (i : Nat) (h : i < l.length) : (l.take (i + 1)).flatten = (l.take i).flatten ++ l[i] := by
 rw [(List.take_append_getElem h).symm, List.flatten_append]; simp
theorem ydh {α : Type} (l : List (List α)) (i : Nat) : (l.take i).flatten.length <= l.flatten.length := by
 conv => rhs; rw [<- kW i l, List.flatten_append, kE]
 omega
theorem yey (l : List (List Int)) (hn : l.length <= 1000000) (hl : l.flatten.length <= 1000000000) : zav l = some l.flatten := by
 unfold zav;rw [zi (by omega)]
 have h1 := (z9m xC l (fun i (a : Int) => (l, a, l, ((l.length : Nat) : Int), (i : Int))) (fun a => (l, a)) (fun n x => n + (x.length : Nat)) (fun i a => a = ((l.take i).flatten.length : Nat)) ?_ ?_ (a := 0) (by simp))
 ·obtain ⟨h1, h2⟩ := h1;rw [ko] at h2;rw [show (((0 : Nat) : Int)) = 0 from rfl, h2] at h1
  rw [h1];simp only [kA];unfold y0d;rw [z3g (by omega), z3g (by omega)]
  simp only [Bool.and_self, cond_true, kA, beq_self];rw [zi (by omega)]
  have h3 := (z9m yK l (fun i (a : List Int) => (l, ((l.length : Nat) : Int), (i : Int), a)) (fun a => a) (fun n x => n ++ x) (fun i a => a = (l.take i).flatten) ?_ ?_ (a := []) (by simp))
  ·obtain ⟨h3, h4⟩ := h3;rw [ko] at h4;rw [show (((0 : Nat) : Int)) = 0 from rfl, h4] at h3
   rw [h3];simp only [kA, beq_self, cond_true]
  ·intro a _;show qF l ((l.length : Nat) : Int) ((l.length : Nat) : Int) a = _;unfold qF;rw [zP (kc _), beq_self]; rfl
  ·intro i a hi ha;subst ha;refine ⟨?_, (zna l i hi).symm⟩;show qF l ((l.length : Nat) : Int) (i : Int) _ = _;unfold qF;have := ydh l (i + 1);rw [zna l i hi, kE] at this;rw [zY (by omega), z3l hi]
   simp only [cond_true, kA, beq_self];rw [xS (by omega), jh (by omega)]
 ·intro a _;show jY l a l ((l.length : Nat) : Int) ((l.length : Nat) : Int) = _;unfold jY;rw [zP (kc _)]; rfl
 ·intro i a hi ha;subst ha;have h5 := ydh l (i + 1);rw [zna l i hi, kE] at h5;refine ⟨?_, by rw [zna l i hi, kE]; simp⟩
  show jY l _ l ((l.length : Nat) : Int) (i : Int) = _;unfold jY;rw [zY (by omega), z3l hi]
  simp only [cond_true, kA];rw [zi (by omega), zo (by omega), zP (by omega), jh (by omega)]; rfl
theorem yna (l : List (List Int)) (hn : l.length <= 1000000) (hl : l.flatten.length <= 1000000000) : zbx l = some l.flatten := by
 have := yey l hn hl;unfold zav at this;unfold zbx;rw [zi (by omega)] at this ⊢
 have e1 : xQ = xC := rfl;have e2 : yT = yK := rfl;rw [e1, e2];simpa only [yx, beq_self, cond_true] using this
def z7h : List Int := [119, 97, 114, 100, 115, 104, 105, 112]
def yr (t : Int × Int × Int) : List Int := z7h ++ xA t.1 ++ (xA t.2.1 ++ xA t.2.2) ++ z7h ++ (xA t.2.1 ++ xA t.2.2) ++ xA t.1 ++ kH 192 0
theorem y64 : z7h.length = 8 := rfl
theorem z2e (t : Int × Int × Int) : (yr t).length = 256 := by simp only [yr, vX, y64, kE, kG]
theorem yg7 : isB z7h := by unfold isB z7h; decide
theorem z3i (t : Int × Int × Int) : isB (yr t) :=
 (((((yg7.app (zds _)).app ((zds _).app (zds _))).app yg7).app ((zds _).app (zds _))).app (zds _)).app (zlq 192)
theorem yhx {t : Int × Int × Int} (h1 : 0 <= t.2.1 /\ t.2.1 <= 1000000000) (h2 : 0 <= t.2.2 /\ t.2.2 <= 1000000000) : qV t = some (yr t) := by
 unfold qV;rw [y95, z5k (by omega), z5k (by omega), y95, y95]
 simp only [kA, beq_self, cond_true, yx];rw [xS (by simp only [vX]; omega)]
 have e : ([[119, 97, 114, 100, 115, 104, 105, 112], xA t.1, xA t.2.1 ++ xA t.2.2, [119, 97, 114, 100, 115, 104, 105, 112], xA t.2.1 ++ xA t.2.2, xA t.1] : List (List Int)).flatten.length = 64 := by simp [vX]
 rw [yey _ (by simp) (by rw [e]; omega)]
 simp only [kA, beq_self, cond_true];rw [xS (by rw [e]; omega)]
 congr 1
def ya (b : List Int) (i : Nat) : List Int := (b.drop i).take 8
def yp4 (b : List Int) : Int × Int × Int := (xt (ya b 8), xt (ya b 16), xt (ya b 24))
def y1d (b : List Int) (room : Int) : Prop := b.take 8 = z7h /\ ya b 32 = z7h /\ (b.drop 16).take 16 = (b.drop 40).take 16 /\ xt (ya b 56) = xt (ya b 8) /\ 1 <= xt (ya b 8) /\ xt (ya b 8) <= 4611686018427387904 /\ xt (ya b 16) <= 1 /\ xt (ya b 24) <= room
instance (b : List Int) (room : Int) : Decidable (y1d b room) := by unfold y1d; infer_instance
def z0n (b : List Int) (room : Int) : Int × Int × Int := if y1d b room then yp4 b else (0, 0, 0)
theorem zw2 {b : List Int} {room : Int} (h : y1d b room) : z0n b room = yp4 b := if_pos h
theorem qI {b : List Int} {room : Int} (h : ¬ y1d b room) : z0n b room = (0, 0, 0) := if_neg h
theorem zxd {b : List Int} (hl : b.length = 256) (i : Nat) (hi : i + 8 <= 256) : zA b (i : Int) ((i + 8 : Nat) : Int) = ya b i := by
 simp only [zA, ya]; congr 1; omega
theorem ytv {b : List Int} (hl : b.length = 256) (hb : isB b) {room : Int} (hr : 0 <= room /\ room <= 1000000000) : zgt b room = some (z0n b room) := by
 have c8 : ∀ i, (ya b i).length <= 8 := fun i => by unfold ya; rw [kC]; omega
 have cb : ∀ i, isB (ya b i) := fun i => (hb.drop _).take _
 have k : ∀ i, 0 <= xt (ya b i) /\ xt (ya b i) < 18446744073709551616 := fun i => by
  have h1 := zjn _ _ rfl (cb i);have h2 := yds (c8 i);omega
 unfold zgt;rw [hl];have e8 : zA b 8 16 = ya b 8 := zxd hl 8 (by omega)
 have e16 : zA b 16 24 = ya b 16 := zxd hl 16 (by omega)
 have e24 : zA b 24 32 = ya b 24 := zxd hl 24 (by omega)
 have e32 : zA b 32 40 = ya b 32 := zxd hl 32 (by omega)
 have e56 : zA b 56 64 = ya b 56 := zxd hl 56 (by omega)
 have e0 : zA b 0 8 = b.take 8 := by simp only [zA]; rfl
 have eA : zA b 16 32 = (b.drop 16).take 16 := by simp only [zA]; rfl
 have eB : zA b 40 56 = (b.drop 40).take 16 := by simp only [zA]; rfl
 rw [e8, e16, e24, e32, e56, e0, eA, eB];rw [qG (l := 8) (by omega), qG (l := 16) (h := 24) (by omega), qG (l := 24) (by omega), qG (l := 0) (by omega), qG (l := 32) (by omega), qG (l := 16) (h := 32) (by omega), qG (l := 40) (by omega), qG (l := 56) (by omega)]
 rw [zvi (cb 8) (c8 8), zvi (cb 16) (c8 16), zvi (cb 24) (c8 24), zvi (cb 56) (c8 56)];simp only [kA, cond_true];have k8 := k 8; have k16 := k 16; have k24 := k 24;have r := z5k (n := room) (by omega)
 have rn : xJ room = room := r;rw [show ([119, 97, 114, 100, 115, 104, 105, 112] : List Int) = z7h from rfl]
 by_cases h1 : b.take 8 = z7h
 ·rw [ze8 h1]
  by_cases h2 : ya b 32 = z7h
  ·rw [ze8 h2]
   by_cases h3 : (b.drop 16).take 16 = (b.drop 40).take 16
   ·rw [ze8 h3]
    by_cases h4 : xt (ya b 56) = xt (ya b 8)
    ·rw [xj h4]
     by_cases h5 : xt (ya b 8) < 1
     ·rw [zY h5, qI (fun h => by obtain ⟨_, _, _, _, q5, q6, q7, q8⟩ := h; omega)]; rfl
     ·rw [zP h5]
      by_cases h6 : 4611686018427387904 < xt (ya b 8)
      ·rw [zY h6, qI (fun h => by obtain ⟨_, _, _, _, q5, q6, q7, q8⟩ := h; omega)]; rfl
      ·rw [zP h6]
       by_cases h7 : 1 < xt (ya b 16)
       ·rw [zY h7, qI (fun h => by obtain ⟨_, _, _, _, q5, q6, q7, q8⟩ := h; omega)]; rfl
       ·rw [zP h7, rn]
        by_cases h8 : room < xt (ya b 24)
        ·rw [zY h8, qI (fun h => by obtain ⟨_, _, _, _, q5, q6, q7, q8⟩ := h; omega)]; rfl
        ·rw [zP h8, zw2 ⟨h1, h2, h3, h4, by omega, by omega, by omega, by omega⟩]
         simp only [Bool.not_true, cond_false];rw [zo (by omega), zo (by omega)]; rfl
    ·rw [qX h4, qI (fun h => h4 h.2.2.2.1)]; rfl
   ·rw [zv2 h3, qI (fun h => h3 h.2.2.1)]; rfl
  ·rw [zv2 h2, qI (fun h => h2 h.2.1)]; rfl
 ·rw [zv2 h1, qI (fun h => h1 h.1)]; rfl
theorem zrg (t : Int × Int × Int) : (yr t).take 8 = z7h /\ ya (yr t) 8 = xA t.1 /\ ya (yr t) 16 = xA t.2.1 /\ ya (yr t) 24 = xA t.2.2 /\ ya (yr t) 32 = z7h /\ ((yr t).drop 16).take 16 = xA t.2.1 ++ xA t.2.2 /\ ((yr t).drop 40).take 16 = xA t.2.1 ++ xA t.2.2 /\ ya (yr t) 56 = xA t.1 := by
 have h1 := vX t.1;have h2 := vX t.2.1;have h3 := vX t.2.2;unfold yr ya;generalize xA t.1 = a at *;generalize xA t.2.1 = b at *;generalize xA t.2.2 = c at *;generalize kH 192 (0 : Int) = z at *;simp [kj, km, h1, h2, h3, y64, kF, kD];exact ⟨rfl, rfl, rfl, rfl⟩
def OkT (t : Int × Int × Int) (room : Int) : Prop := 1 <= t.1 /\ t.1 <= 4611686018427387904 /\ 0 <= t.2.1 /\ t.2.1 <= 1 /\ 0 <= t.2.2 /\ t.2.2 <= room /\ room <= 1000000000
theorem yle {t : Int × Int × Int} {room : Int} (h : OkT t room) : z0n (yr t) room = t := by
 obtain ⟨h1, h2, h3, h4, h5, h6, h7⟩ := h;obtain ⟨c0, c8, c16, c24, c32, cA, cB, c56⟩ := zrg t;have e1 := znt (n := t.1) (by omega)
 have e2 := znt (n := t.2.1) (by omega)
 have e3 := znt (n := t.2.2) (by omega)
 rw [zw2]
 ·unfold yp4; rw [c8, c16, c24, e1, e2, e3]
 ·unfold y1d; rw [c0, c8, c16, c24, c32, cA, cB, c56, e1, e2, e3]; exact ⟨rfl, rfl, rfl, rfl, h1, h2, h4, h6⟩
theorem ych {room : Int} : z0n (kH 256 0) room = (0, 0, 0) := by
 rw [qI];intro h;have := h.1;rw [List.take_replicate] at this;exact absurd this (by decide)
def zb2 (t : Int × Int × Int) (o : List Int) (n : Nat) : List Int := (yr t).take n ++ o.drop n
theorem ym1 {t : Int × Int × Int} {o : List Int} (ho : o.length = 256) (n : Nat) (hn : n <= 256) : (zb2 t o n).length = 256 := by
 unfold zb2; rw [kE, kC, kK, z2e, ho]; omega
theorem ywx {a o : List Int} {n i : Nat} (ha : a.length = 256) (hn : n <= 256) (h : i + 8 <= n) : ya (a.take n ++ o.drop n) i = ya a i := by
 unfold ya;rw [kP (by rw [kC]; omega), kQ (by rw [kK, kC]; omega), ky, kS, kO (by omega)]
theorem yww {a o : List Int} {n i : Nat} (ha : a.length = 256) (hn : n <= 256) (h : n <= i) : ya (a.take n ++ o.drop n) i = ya o i := by
 unfold ya;rw [kj, kD (by rw [kC]; omega), kJ, kC, ka]
 congr 2;omega
def y5w (a : Int × Int) (x : Int) : Int × Int := (lA ((z7j (a.1 + (z7j x)))) 65521, lA ((z7j (a.2 + (lA ((z7j (a.1 + (z7j x)))) 65521)))) 65521)
def zka (b : List Int) : Int × Int := b.foldl y5w (1, 0)
def zxf (b : List Int) : Int := zh0 .or .u32 (shI .shl .u32 (zka b).2 16) (zka b).1
def yoz (b : List Int) : List Int := [WU8 (shI .shr .u32 (zxf b) 24), WU8 (shI .shr .u32 (zxf b) 16), WU8 (shI .shr .u32 (zxf b) 8), WU8 (zxf b)]
def zZ (b : List Int) : List Int := b ++ yoz b
theorem z2i (b : List Int) : (zZ b).length = b.length + 4 := by simp [zZ, yoz]
theorem yxk (n : Int) : 0 <= WU8 n /\ WU8 n <= 255 := by
 show 0 <= IntKind.u8.wrap n /\ IntKind.u8.wrap n <= 255;simp [IntKind.wrap, IntKind.bits, IntKind.signed]; omega
theorem yfu {b : List Int} (h : isB b) : isB (zZ b) := h.app fun x hx => by
 simp only [yoz, kr, kt, or_false] at hx;rcases hx with rfl | rfl | rfl | rfl <;> exact yxk _
theorem yrt {b : List Int} (h : b.length <= 1000000) : zzf b = some (zxf b) := by
 unfold zzf;rw [zi (by omega)]
 have := (z9m z05 b (fun i (a : Int × Int) => (a.1, a.2, b, ((b.length : Nat) : Int), (i : Int))) (fun a => (a.1, a.2)) y5w (fun _ _ => True) ?_ ?_ (a := (1, 0)) trivial).1
 ·rw [show (((0 : Nat) : Int)) = 0 from rfl] at this
  rw [this]; rfl
 ·intro a _;show z2y a.1 a.2 b ((b.length : Nat) : Int) ((b.length : Nat) : Int) = _;unfold z2y;rw [zP (kc _)]; rfl
 ·intro i a hi _;refine ⟨?_, trivial⟩;show z2y a.1 a.2 b ((b.length : Nat) : Int) (i : Int) = _;unfold z2y;rw [zY (by omega), z3l hi]
  simp only [cond_true, kA];rw [jh (by omega)]; rfl
theorem ywa {b : List Int} (h : b.length <= 1000000) : y1k b = some (zZ b) := by
 unfold y1k;rw [yrt h];simp only [kA, beq_self, cond_true, yx];rw [xS (by simp; omega), xS (by simp; omega)]; rfl
theorem yu0 {b : List Int} (h : b.length <= 1000000) : zrf b = some (zZ b) := by
 unfold zrf;rw [yrt h];simp only [kA, beq_self, cond_true];rw [xS (by simp; omega), xS (by simp; omega)]; rfl
theorem yvo {b : List Int} (h : b.length <= 900000) : zre (zZ b) = some (0, b) := by
 unfold zre;have e : (zZ b).length = b.length + 4 := z2i b;rw [e, zi (by omega), zo (by omega), zP (by omega), qG (by omega)]
 have e2 : zA (zZ b) 0 (((b.length + 4 : Nat) : Int) - 4) = b := by
  simp only [zA, zZ];rw [show (((b.length + 4 : Nat) : Int) - 4).toNat - (0 : Int).toNat = b.length by omega]
  simp
 rw [e2, ywa (by omega)]
 simp only [kA, cond_true, cond_false, beq_self];rw [ze8 rfl, xS (by simp; omega)]
 rfl
def vy (w : List Int) : List Int := (if w.length < 255 then [(w.length : Int)] else [255, (w.length : Int) / 256, (w.length : Int) % 256]) ++ w
def zq (l : List (List Int)) : List Int := (l.map fun x => vy (zZ x)).flatten
theorem yqo {w : List Int} (h : isB w) (hl : w.length <= 65535) : isB (vy w) := by
 unfold vy;refine isB.app (fun x hx => ?_) h
 split at hx
 ·simp only [kr, kt, or_false] at hx; omega
 ·simp only [kr, kt, or_false] at hx; omega
theorem z77 (w : List Int) : (vy w).length = w.length + (if w.length < 255 then 1 else 3) := by
 unfold vy; split <;> simp <;> omega
theorem yyf : shI .shr .i64 (n : Int) 8 = (n : Int) / 256 := by
 simp only [shI];rw [show min (8 : Int).toNat IntKind.i64.bits = 8 by rfl, Int.fdiv_eq_ediv_of_nonneg _ (by decide)]; rfl
theorem zrt (n : Int) : WU8 n = n % 256 := by
 show IntKind.u8.wrap n = _;simp [IntKind.wrap, IntKind.bits, IntKind.signed]
theorem yuv {w : List Int} (h : w.length <= 65535) : zqe [w] = some (vy w, 0) := by
 unfold zqe;rw [zi (by simp), beq_self, cond_true, zL]
 show ((z09 [w] ((1 : Nat) : Int) 0 []).bind _).bind _ = _;unfold z09;rw [zY (by omega), yin]
 simp only [cond_true, kA, beq_self];rw [zi (by omega), zP (by omega)]
 simp only [cond_false];have key : ∀ out : List Int, (((zb jD ([w], ((1 : Nat) : Int), W64 (0 + 1), out)).bind fun o => Sum.elim (fun y => yf y 0 (k0 y) fun w => some (w, 0)) (fun y2 => some (y2.1, y2.2)) o) : Option (List Int × Int)) = some (out, 0) := fun out => by
  rw [zL];show ((z09 [w] ((1 : Nat) : Int) 1 out).bind _).bind _ = _;unfold z09;rw [zP (by omega)]
  simp only [cond_false, kA, beq_self, cond_true, Sum.elim_inr, Sum.elim_inl, yx]
 by_cases h1 : w.length < 255
 ·rw [zY (by omega)]
  simp only [cond_true, kA, Sum.elim_inl];rw [xS (by simp)]
  simp only [kA, Sum.elim_inl];rw [xS (by simp; omega)]
  simp only [kA, Sum.elim_inl];rw [key];unfold vy;rw [if_pos h1, zrt];congr 3;have : (w.length : Int) % 256 = w.length := by omega
  rw [this]; rfl
 ·rw [zP (by omega)]
  simp only [cond_false, kA, Sum.elim_inl];rw [xS (by simp)]
  simp only [kA, Sum.elim_inl];rw [xS (by simp; omega)]
  simp only [kA, Sum.elim_inl];rw [key];unfold vy;rw [if_neg h1, yyf, zrt, zrt];congr 3;have : (w.length : Int) / 256 % 256 = w.length / 256 := by omega
  rw [this]; rfl
theorem zm1 (l : List (List Int)) (i : Nat) (h : i < l.length) : zq (l.take (i + 1)) = zq (l.take i) ++ vy (zZ l[i]) := by
 unfold zq;rw [lC, lC, zna _ i (by simpa using h)]; simp
theorem ybk (l : List (List Int)) (i : Nat) : (zq (l.take i)).length <= (zq l).length := by
 unfold zq;rw [lC]; exact ydh _ i
theorem zsz (x : List Int) (l : List (List Int)) : zq (x :: l) = vy (zZ x) ++ zq l := rfl
theorem ymc (l : List (List Int)) {room : Int} (hn : l.length <= 1000000) (hl : (zq l).length <= 1000000000) (hr : 0 <= room /\ room <= 1000000000) :
  Ok (zd7 l room) fun r => ((∃ x, x ∈ l /\ 65531 < x.length) -> r = ([], 4)) /\ ((∀ x, x ∈ l -> x.length <= 65531) -> r = (zq l, 0) \/ (r = ([], 5) /\ room < (zq l).length)) := by
 unfold zd7;rw [zi (by omega)]
 have h1 := y4t qN l (fun i => (l, room, l, ((l.length : Nat) : Int), (i : Int), ([] : List Int))) (fun x => decide (65531 < x.length)) (.inr ([], 4)) (.inl (l, room, [])) ?_ ?_
 ·rw [show (((0 : Nat) : Int)) = 0 from rfl] at h1
  rw [show lD 0 (k0 ([] : List Int)) = true from rfl, cond_true, h1]
  simp only [kA]
  by_cases ha : l.any (fun x => decide (65531 < x.length)) = true
  ·rw [if_pos ha];refine qQ ⟨fun _ => rfl, fun hall => ?_⟩
   obtain ⟨x, hx, h⟩ := List.any_eq_true.1 ha;have := hall x hx;simp at h; omega
  ·rw [if_neg ha];simp only [Sum.elim_inl];have hall : ∀ x, x ∈ l -> x.length <= 65531 := fun x hx => by
    by_cases h : x.length <= 65531
    ·exact h
    ·exact absurd (List.any_eq_true.2 ⟨x, hx, by simp; omega⟩) ha
   refine qs ?_;refine qb ?_;refine y6l (ybt (Q := fun r => r = .inl (zq l) \/ (r = .inr ([], 5) /\ room < (zq l).length)) l.length (fun i (out : List Int) => (room, l, ((l.length : Nat) : Int), (i : Int), out)) (fun i out => out = zq (l.take i)) [] rfl rfl ?_ ?_) ?_
   ·intro a ha2;show Ok (jv room l ((l.length : Nat) : Int) ((l.length : Nat) : Int) a) _;unfold jv;rw [zP (kc _)];refine zm5 (qb (qQ ?_));rw [ko] at ha2;exact zeo (.inl (by rw [ha2]))
   ·intro i a hi ha2;subst ha2;have hx := hall _ (kM hi);have h5 := ybk l (i + 1);rw [zm1 l i hi, kE] at h5;have h6 := z2i l[i];show Ok (jv room l ((l.length : Nat) : Int) (i : Int) (zq (l.take i))) _;unfold jv;rw [zY (by omega)]
    refine y6n (qx hi (qs ?_));refine y0l (fun hlt => ?_) fun hlt => ?_
    ·exact qQ (zeo (.inr ⟨rfl, by omega⟩))
    ·rw [yu0 (by omega)]
     simp only [kA, yx];rw [yuv (by omega)]
     simp only [kA];rw [xj rfl];refine zm5 (qb (qa (qb (qQ ?_)) (by omega)))
     refine y6t ⟨_, ?_, rfl⟩;rw [jh (by omega), zm1 l i hi]
   ·intro r hr2;refine y6m (Q := fun r => ((∃ x, x ∈ l /\ 65531 < x.length) -> r = ([], 4)) /\ ((∀ x, x ∈ l -> x.length <= 65531) -> r = (zq l, 0) \/ (r = ([], 5) /\ room < (zq l).length))) (R := fun r => r = (zq l, 0) \/ (r = ([], 5) /\ room < (zq l).length)) ?_ fun a ha => ⟨fun ⟨x, hx, h⟩ => absurd (hall x hx) (by omega), fun _ => ha⟩
    rcases hr2 with rfl | ⟨rfl, h⟩
    ·simp only [Sum.elim_inl, yx]; exact qQ (.inl rfl)
    ·exact qQ (.inr ⟨rfl, h⟩)
 ·show vi l room l ((l.length : Nat) : Int) ((l.length : Nat) : Int) [] = _;unfold vi;rw [zP (kc _)]; rfl
 ·intro i hi;show vi l room l ((l.length : Nat) : Int) (i : Int) [] = _;unfold vi;rw [zY (by omega), z3l hi]
  simp only [cond_true, kA, beq_self]
  by_cases h : 65531 < l[i].length
  ·by_cases h2 : l[i].length <= 9223372036854775807
   ·rw [zi h2, zY (by omega), if_pos (by simpa using h)]; rfl
   ·exfalso;have h5 := ybk l (i + 1);rw [zm1 l i hi, kE, z77, z2i] at h5;omega
  ·rw [zi (by omega), zP (by omega), if_neg (by simpa using h), jh (by omega)]; rfl
theorem yq4 {w rest : List Int} (h : w.length <= 65535) : zF (vy w ++ rest) = ((w.length : Int), (if w.length < 255 then 1 else 3), 0) := by
 unfold vy
 by_cases h1 : w.length < 255
 ·rw [if_pos h1, if_pos h1];simp only [ks, kJ, zF];rw [if_pos (by omega)]
 ·rw [if_neg h1, if_neg h1];simp only [ks, kJ, zF];rw [if_neg (by omega), if_neg (by omega)]
  congr 1;omega
theorem yqg {l : List Int} (h : isB l) (hl : l.length <= 1000000000) : okB l = true := zrm.2 ⟨h, by omega⟩
theorem zef : ∀ (l : List (List Int)), (∀ x, x ∈ l -> isB x /\ x.length <= 65531) -> isB (zq l)
 | [], _ => zrk
 | x :: l, h => by
  rw [zsz];have hx := h x (by simp)
  exact (yqo (yfu hx.1) (by rw [z2i]; omega)).app (zef l fun y hy => h y (by simp [hy]))
theorem yb5 : ∀ (l : List (List Int)), (∀ x, x ∈ l -> isB x /\ x.length <= 65531) -> (zq l).length <= 1000000000 -> zhw (zq l) = l.map (fun x => (zZ x, 0))
 | [], _, _ => rfl
 | x :: l, h, hl => by
  have hx := h x (by simp)
  have hs := z2i x;have hok := yqg (zef (x :: l) h) hl;rw [yb4 hok];rw [zsz] at hl ⊢;have hp := z77 (zZ x);have hd := yq4 (w := zZ x) (rest := zq l) (by omega)
  have hne : vy (zZ x) ++ zq l ≠ [] := fun e => by
   have := congrArg k0 e;rw [kE, ku] at this; omega
  have he : zec (vy (zZ x) ++ zq l) = 0 := by
   unfold zec;rw [hd, kE];simp only;rw [if_neg];rintro ⟨_, h2⟩;split at hp <;> rename_i h3
   ·rw [if_pos h3] at h2; omega
   ·rw [if_neg h3] at h2; omega
  rw [if_neg hne, if_neg (by simp [he]), hd, List.map_cons]
  rw [kE] at hl;have hd2 : ∀ k, vy (zZ x) = k ++ zZ x -> k.length = (if (zZ x).length < 255 then 1 else 3) ->
    ((vy (zZ x) ++ zq l).drop (if (zZ x).length < 255 then (1 : Int) else 3).toNat).take ((zZ x).length : Int).toNat = zZ x /\
    (vy (zZ x) ++ zq l).drop ((if (zZ x).length < 255 then (1 : Int) else 3) + ((zZ x).length : Int)).toNat = zq l := fun k hk hkl => by
   rw [hk];have e1 : (if (zZ x).length < 255 then (1 : Int) else 3).toNat = k.length := by rw [hkl]; split <;> rfl
   have e2 : ((if (zZ x).length < 255 then (1 : Int) else 3) + ((zZ x).length : Int)).toNat = (k ++ zZ x).length := by
    rw [kE, hkl]; split <;> omega
   rw [e1, e2];constructor
   ·rw [kh, kx]; simp
   ·rw [kx]
  obtain ⟨g1, g2⟩ := hd2 (if (zZ x).length < 255 then [((zZ x).length : Int)] else [255, ((zZ x).length : Int) / 256, ((zZ x).length : Int) % 256]) rfl (by split <;> rfl)
  simp only;rw [g1, g2, yb5 l (fun y hy => h y (by simp [hy])) (by omega)]
theorem yc4 (s : jB) : ∀ (l : List (List Int)) (h2 : List Int) (h3 : Int) (h4 out : List (List Int)), (∀ x, x ∈ l -> x.length <= 900000) -> out.length + l.length <= 1000000 ->
  zoi (yu s) (h2, h3, h4, out) (l.map fun x => (zZ x, 0)) = some (.inl (h2, h3, h4, out ++ l))
 | [], h2, h3, h4, out, _, _ => by simp [zoi]
 | x :: l, h2, h3, h4, out, hx, hn => by
  rw [List.map_cons];simp only [zoi];have e : yu s (h2, h3, h4, out) (zZ x, 0) = some (.inl (h2, h3, h4, out ++ [x])) := by
   show z4n _ _ _ _ _ h2 h3 h4 out (zZ x) 0 = _;unfold z4n;rw [xj rfl, yvo (hx x (by simp))]
   simp only [cond_false, kA, yx, beq_self, cond_true];rw [xj rfl, xS (by simp at hn ⊢; omega)]
   rfl
  rw [e];simp only [kA];rw [yc4 s l h2 h3 h4 (out ++ [x]) (fun y hy => hx y (by simp [hy])) (by simp at hn ⊢; omega)]
  simp
theorem z9l (l : List (List Int)) : l.length <= (zq l).length := by
 induction l with
 | nil => simp
 | cons x l ih =>
  rw [zsz, kE, z77, z2i, List.length_cons];omega
theorem ytp {l : List (List Int)} {data : List Int} (hd : data.take n = zq l) (hn : n <= data.length) (h : ∀ x, x ∈ l -> isB x /\ x.length <= 65531) (hl : (zq l).length <= 900000) :
  zee (kH n true) data = some (0, data, l) := by
 have hnn : n = (zq l).length := by rw [<- hd, kC]; omega
 have hc := z9l l;unfold zee zli;simp only [ysz];rw [ys0 _ _ _ (by omega)]
 simp only [kU, hd];rw [xS (by simp; omega), yx]
 simp only [kA];rw [show lD 0 (k0 ([] : List (List Int))) = true from rfl]
 simp only [cond_true];have e : z4o (zq l, data, 0, [], []) = some (.inl (data, 0, [], l)) := by
  unfold z4o z89 qY;simp only;rw [yqg (zef l h) (by omega), cond_true, yb5 l h (by omega)]
  have := yos (yu (zq l, data, 0, [], [])) (xO (zq l, data, 0, [], [])) (l.map fun x => (zZ x, 0))
  rw [this];exact yc4 (zq l, data, 0, [], []) l data 0 [] [] (fun x hx => by have := (h x hx).2; omega) (by simp; omega)
 rw [e];simp only [kA, Sum.elim_inl, beq_self, cond_true]
structure Dv (k : Nat) (x : zC) : Prop where
 ok : OkDev x
 l : x.1.length <= k
 n : x.2.2.2.1 <= k
 k : k <= 100000
 bs : ∀ y, y ∈ x.2.2.2.2.2 -> isB y
 bw : ∀ w, w ∈ x.1 -> isB w.2
theorem ytg {sure : List (List Int)} {w : Int × List Int} (hs : ∀ y, y ∈ sure -> isB y) (hw : isB w.2) : ∀ y, y ∈ zm8 sure w n -> isB y := fun y hy => by
 unfold zm8 at hy;rcases kI hy with h | h
 ·exact hs y h
 ·rw [h];refine (hw.take _).app ?_;cases hg : sure[w.1.toNat]? with
  | none => rw [Option.getD_none, List.drop_nil]; exact zrk
  | some z => rw [kL]; exact (hs z (kb hg)).drop _
theorem yi8 (c : List Int × Int × Int) : ∀ (l : List (Int × List Int)) (k : Nat) (s : List (List Int)), (∀ w, w ∈ l -> isB w.2) -> (∀ y, y ∈ s -> isB y) -> ∀ y, y ∈ z7m c l k s -> isB y
 | [], _, s, _, h => h
 | w :: ws, k, s, hw, h => by
  simp only [z7m];exact yi8 c ws (k + 1) _ (fun v hv => hw v (by simp [hv])) (ytg h (hw w (by simp)))
theorem yg1 : ∀ (l : List (Int × List Int)) (s : List (List Int)), (∀ w, w ∈ l -> isB w.2) -> (∀ y, y ∈ s -> isB y) -> ∀ y, y ∈ jk l s -> isB y
 | [], s, _, h => h
 | w :: ws, s, hw, h => by
  simp only [jk];refine yg1 ws _ (fun v hv => hw v (by simp [hv])) fun y hy => ?_
  rcases kI hy with h2 | h2
  ·exact h y h2
  ·rw [h2]; exact hw w (by simp)
theorem ykb : ∀ (l : List (Int × List Int)) (s : List (List Int)), OkD l s -> ∀ y, y ∈ jk l s -> y.length = 256
 | [], s, h => h.s
 | w :: ws, s, h => by
  simp only [jk];have hw := h.w w (by simp)
  exact ykb ws _ ⟨yrp h.s hw.2.2, fun v hv => by rw [kR]; exact h.w v (by simp [hv])⟩
theorem Dv.mono {k m : Nat} (h : Dv k x) (hm : k <= m) (h2 : m <= 100000) : Dv m x := ⟨h.ok, by have := h.l; omega, by have := h.n; omega, h2, h.bs, h.bw⟩
variable {k : Nat}
theorem Dv.cut (h : Dv k x) (c : List Int × Int × Int) : Dv k (zzt c x) := by
 refine ⟨yv1 h.ok, ?_, ?_, h.k, ?_, ?_⟩ <;> unfold zzt <;> split
 ·exact h.l
 ·exact Nat.zero_le _
 ·exact h.n
 ·exact h.n
 ·exact h.bs
 ·exact yi8 c _ _ _ h.bw h.bs
 ·exact h.bw
 ·exact fun w hw => by cases hw
theorem Dv.change (h : Dv k x) (hk : k + 1 <= 100000) : Dv (k + 1) (yy x).2 := by
 have h4 := h.n;have h5 := h.ok.n;have hl := h.ok.left;have hkl := h.l;unfold yy;split
 ·exact ⟨⟨h.ok.d, h.ok.l, h.ok.left, h.ok.c, by simp only; omega, h.ok.s⟩, by simp only; omega, by simp only; omega, hk, h.bs, h.bw⟩
 ·split
  ·refine Dv.cut (k := k + 1) (x := (x.1, -1, x.2.2.1, x.2.2.2.1 + 1, x.2.2.2.2.1, x.2.2.2.2.2)) ?_ _;exact ⟨⟨h.ok.d, h.ok.l, by simp, h.ok.c, by simp only; omega, h.ok.s⟩, by simp only; omega, by simp only; omega, hk, h.bs, h.bw⟩
  ·exact ⟨⟨h.ok.d, h.ok.l, by simp only; omega, h.ok.c, by simp only; omega, h.ok.s⟩, by simp only; omega, by simp only; omega, hk, h.bs, h.bw⟩
theorem Dv.write (h : Dv k x) (hk : k + 1 <= 100000) (i : Int) {b : List Int} (hb : isB b) : Dv (k + 1) (yA x i b).2 := by
 unfold yA;split
 ·exact h.mono (by omega) hk
 ·rename_i h1;split
  ·exact h.mono (by omega) hk
  ·rename_i h2;have hw : z9b x.2.2.2.2.1 x.2.2.2.2.2.length i = 0 := by omega
   have ok := h.ok.add (ykk hw) (show b.length = 256 by omega)
   have h4 := h.n;have h5 := h.ok.n;have hl := h.ok.left;have hkl := h.l;have hlen : (x.1 ++ [(i, b)]).length <= k + 1 := by simp; omega
   have hbw : ∀ w, w ∈ x.1 ++ [(i, b)] -> isB w.2 := fun w hw => by
    rcases kv.1 hw with hw | hw
    ·exact h.bw w hw
    ·simp only [List.mem_singleton] at hw; subst hw; exact hb
   unfold yy;split
   ·exact ⟨⟨ok, by simp only; omega, h.ok.left, h.ok.c, by simp only; omega, h.ok.s⟩, hlen, by simp only; omega, hk, h.bs, hbw⟩
   ·split
    ·refine Dv.cut (k := k + 1) (x := (x.1 ++ [(i, b)], -1, x.2.2.1, x.2.2.2.1 + 1, x.2.2.2.2.1, x.2.2.2.2.2)) ?_ _;exact ⟨⟨ok, by simp only; omega, by simp, h.ok.c, by simp only; omega, h.ok.s⟩, hlen, by simp only; omega, hk, h.bs, hbw⟩
    ·exact ⟨⟨ok, by simp only; omega, by simp only at *; omega, h.ok.c, by simp only; omega, h.ok.s⟩, hlen, by simp only; omega, hk, h.bs, hbw⟩
theorem Dv.barrier (h : Dv k x) (hk : k + 1 <= 100000) : Dv (k + 1) (yJ x).2 := by
 have hc := h.change hk;unfold yJ;split
 ·exact h.mono (by omega) hk
 ·split
  ·exact hc
  ·exact ⟨⟨⟨ykb _ _ hc.ok.d, fun w hw => by cases hw⟩, by simp, hc.ok.left, hc.ok.c, hc.ok.n, by simp only [zwb]; exact hc.ok.s⟩, Nat.zero_le _, hc.n, hk, yg1 _ _ hc.bw hc.bs, fun w hw => by cases hw⟩
abbrev JT := (Int × Int × Int) × List Int × Int × Bool
def xk (x : zC) (t : Int × Int × Int) : Int × zC :=
 if (yA x (t.1 % 2) (yr t)).1 = 0 then yJ (yA x (t.1 % 2) (yr t)).2 else yA x (t.1 % 2) (yr t)
def zc0 (j : JT) (t : Int × Int × Int) (e : Int) : JT := if e = 0 then (t, j.2.1, j.2.2.1, j.2.2.2) else (j.1, j.2.1, j.2.2.1, true)
theorem Dv.tell (h : Dv k x) (hk : k + 2 <= 100000) (t : Int × Int × Int) : Dv (k + 2) (xk x t).2 := by
 unfold xk;split
 ·exact (h.write (by omega) _ (z3i t)).barrier (by omega)
 ·exact (h.write (by omega) _ (z3i t)).mono (by omega) hk
theorem yu8 (h : Dv k x) (hk : k + 2 <= 100000) {t : Int × Int × Int} (ht : 0 <= t.1 /\ t.1 <= 9223372036854775807) (h1 : 0 <= t.2.1 /\ t.2.1 <= 1000000000) (h2 : 0 <= t.2.2 /\ t.2.2 <= 1000000000) (j : JT) :
  z3e t j.1 j.2.1 j.2.2.1 j.2.2.2 x.1 x.2.1 x.2.2.1 x.2.2.2.1 x.2.2.2.2.1 x.2.2.2.2.2 =
   some ((xk x t).1, (zc0 j t (xk x t).1).1, (zc0 j t (xk x t).1).2.1, (zc0 j t (xk x t).1).2.2.1, (zc0 j t (xk x t).1).2.2.2, (xk x t).2) := by
 unfold z3e;rw [yhx h1 h2];simp only [kA, beq_self, cond_true];have e1 : W64 (lA t.1 2) = t.1 % 2 := by rw [Int.tmod_eq_emod_of_nonneg ht.1, zo (by omega)]
 rw [e1, ykm _ _ _ _ _ _ _ _ h.ok (by rw [z2e]; omega)]
 simp only [kA];have hw := h.write (by omega) (t.1 % 2) (z3i t)
 unfold xk;rw [show ((x.1, x.2.1, x.2.2.1, x.2.2.2.1, x.2.2.2.2.1, x.2.2.2.2.2) : zC) = x from rfl]
 generalize yA x (t.1 % 2) (yr t) = r at *;obtain ⟨e, y⟩ := r;simp only at hw ⊢
 by_cases he : e = 0
 ·subst he;rw [ql rfl, if_pos rfl];simp only [cond_true];rw [zzo _ _ _ _ _ _ hw.ok];simp only [kA];rw [show ((y.1, y.2.1, y.2.2.1, y.2.2.2.1, y.2.2.2.2.1, y.2.2.2.2.2) : zC) = y from rfl]
  generalize yJ y = r;obtain ⟨e, z⟩ := r;simp only;unfold zc0
  by_cases he : e = 0
  ·subst he;rw [xj rfl, if_pos rfl]; rfl
  ·rw [qX he, if_neg he]; rfl
 ·rw [z00 he, if_neg he];simp only [cond_false, kA];unfold zc0;rw [qX he, if_neg he]; rfl
theorem yu7 (h : Dv k x) (hk : k + 2 <= 100000) {t : Int × Int × Int} (ht : 0 <= t.1 /\ t.1 <= 9223372036854775807) (h1 : 0 <= t.2.1 /\ t.2.1 <= 1000000000) (h2 : 0 <= t.2.2 /\ t.2.2 <= 1000000000) (j : JT) :
  z3d t j.1 j.2.2.1 j.2.2.2 x.1 x.2.1 x.2.2.1 x.2.2.2.1 x.2.2.2.2.1 j.2.1 x.2.2.2.2.2 =
   some ((xk x t).1, (zc0 j t (xk x t).1).1, (zc0 j t (xk x t).1).2.1, (zc0 j t (xk x t).1).2.2.1, (zc0 j t (xk x t).1).2.2.2, (xk x t).2) := by
 unfold z3d;rw [yhx h1 h2];simp only [kA, beq_self, cond_true];have e1 : W64 (lA t.1 2) = t.1 % 2 := by rw [Int.tmod_eq_emod_of_nonneg ht.1, zo (by omega)]
 rw [e1, ykm _ _ _ _ _ _ _ _ h.ok (by rw [z2e]; omega)]
 simp only [kA];have hw := h.write (by omega) (t.1 % 2) (z3i t)
 unfold xk;rw [show ((x.1, x.2.1, x.2.2.1, x.2.2.2.1, x.2.2.2.2.1, x.2.2.2.2.2) : zC) = x from rfl]
 generalize yA x (t.1 % 2) (yr t) = r at *;obtain ⟨e, y⟩ := r;simp only at hw ⊢
 by_cases he : e = 0
 ·subst he;rw [ql rfl, if_pos rfl];simp only [cond_true];rw [zzo _ _ _ _ _ _ hw.ok];simp only [kA];rw [show ((y.1, y.2.1, y.2.2.1, y.2.2.2.1, y.2.2.2.2.1, y.2.2.2.2.2) : zC) = y from rfl]
  generalize yJ y = r;obtain ⟨e, z⟩ := r;simp only;unfold zc0
  by_cases he : e = 0
  ·subst he;rw [xj rfl, if_pos rfl]; simp only [yx, cond_false]
  ·rw [qX he, if_neg he]; simp only [yx, cond_true]
 ·rw [z00 he, if_neg he];simp only [cond_false, kA];unfold zc0;rw [qX he, if_neg he]; simp only [yx, cond_true]
theorem yd7 (x : zC) (i : Int) (b : List Int) : (yA x i b).2.2.2.2.2.2.length = x.2.2.2.2.2.length := by
 unfold yA yy zzt;split
 ·rfl
 ·split
  ·rfl
  ·split
   ·rfl
   ·split
    ·split
     ·rfl
     ·simp only [zzu]
    ·rfl
def zM (n : Nat) : Int := (((n - 2) / 2 : Nat) : Int)
def zt (n : Nat) : Int := zM n * 256
def zB (n : Nat) (side : Int) : Int := 2 + side * zM n
theorem zab (s : List (List Int)) (d : List (Int × List Int)) (d2 : Int) (d3 : List Int × Int × Int) (d4 : Int) (d5 : Bool) (h : 2 <= s.length /\ s.length <= 5000) : qJ (s, d, d2, d3, d4, d5) = some (zM s.length) := by
 unfold qJ vv zM;simp only;rw [zi (by omega)]
 simp only [kA];rw [zo (n := ((s.length : Nat) : Int) - 2) (by omega), Int.tdiv_eq_ediv_of_nonneg (by omega), zo (by omega)]
 congr 1;omega
theorem yuk (s : List (List Int)) (d : List (Int × List Int)) (d2 : Int) (d3 : List Int × Int × Int) (d4 : Int) (d5 : Bool) (t : Int × Int × Int) (dt : List Int) (n : Int) (br : Bool) (side i : Int) (h : 2 <= s.length /\ s.length <= 5000) (hs : 0 <= side /\ side <= 1) (hi : 0 <= i /\ i <= 1000000000) :
  z25 (s, d, d2, d3, d4, d5) t dt n br side i = some (zB s.length side + i) := by
 unfold z25 zB;rw [zab _ _ _ _ _ _ h];have hsec : 0 <= zM s.length /\ zM s.length <= 5000 := by unfold zM; omega
 have hm : 0 <= side * zM s.length /\ side * zM s.length <= 5000 := by
  rcases (show side = 0 \/ side = 1 by omega) with rfl | rfl
  ·rw [Int.zero_mul]; omega
  ·rw [Int.one_mul]; exact hsec
 simp only [kA];rw [zo (n := side * zM s.length) (by omega), zo (n := 2 + _) (by omega), zo (by omega)]
def z1o (all : List Int) (i : Nat) : List Int := (all.drop (i * 256)).take 256 ++ (kH 256 (0 : Int)).drop (all.drop (i * 256)).length
theorem zh1 (all : List Int) (i : Nat) : (z1o all i).length = 256 := by
 unfold z1o;simp only [kE, kC, kK, kG]; omega
theorem zzp {all : List Int} (h : isB all) (i : Nat) : isB (z1o all i) := ((h.drop _).take _).app ((zlq 256).drop _)
def z0m (base : Int) (all : List Int) : Nat -> Nat -> zC -> Int × zC
 | 0, _, x => (0, x)
 | n + 1, i, x => if (yA x (base + (i : Int)) (z1o all i)).1 = 0 then z0m base all n (i + 1) (yA x (base + (i : Int)) (z1o all i)).2 else yA x (base + (i : Int)) (z1o all i)
theorem ydo {base : Int} {all : List Int} {n i : Nat} (h : (yA x (base + (i : Int)) (z1o all i)).1 = 0) : z0m base all (n + 1) i x = z0m base all n (i + 1) (yA x (base + (i : Int)) (z1o all i)).2 := if_pos h
theorem ydn {base : Int} {all : List Int} {n i : Nat} (h : ¬ (yA x (base + (i : Int)) (z1o all i)).1 = 0) : z0m base all (n + 1) i x = yA x (base + (i : Int)) (z1o all i) := if_neg h
theorem Dv.lay {base : Int} {all : List Int} (hb : isB all) : ∀ (n i : Nat) {k : Nat} {x : zC}, Dv k x -> k + n <= 100000 -> Dv (k + n) (z0m base all n i x).2
 | 0, _, _, _, h, _ => h
 | n + 1, i, k, x, h, hk => by
  simp only [z0m];have hw := h.write (by omega) (base + (i : Int)) (zzp hb i)
  split
  ·have := Dv.lay (base := base) hb n (i + 1) hw (by omega)
   rw [show k + (n + 1) = k + 1 + n by omega]; exact this
  ·exact hw.mono (by omega) hk
def clS (n : Nat) : Nat := (n + 255) / 256
theorem yp6 (h : Dv k x) (i : Int) (b : List Int) (hb : b.length < 1000000) :
  z0z i x.1 x.2.1 x.2.2.1 x.2.2.2.1 x.2.2.2.2.1 b x.2.2.2.2.2 = some ((yA x i b).1, (yA x i b).2.1, (yA x i b).2.2.1, (yA x i b).2.2.2.1, (yA x i b).2.2.2.2.1, (yA x i b).2.2.2.2.2.1, b, (yA x i b).2.2.2.2.2.2) :=
 ys1 i b x.1 x.2.1 x.2.2.1 x.2.2.2.1 x.2.2.2.2.1 x.2.2.2.2.2 h.ok hb
theorem yit {side : Int} {all : List Int} {count : Int} {t : Int × Int × Int} {dt : List Int} {cn : Int} {br : Bool} (hs : 0 <= side /\ side <= 1) (hb : isB all) (hall : all.length <= 10000000) :
  ∀ (n i : Nat) {k : Nat} {x : zC}, i + n = clS all.length -> Dv k x -> k + n <= 100000 -> 2 <= x.2.2.2.2.2.length /\ x.2.2.2.2.2.length <= 5000 ->
   zb yL (side, all, count, (i : Int), t, dt, cn, br, x) =
    some (if (z0m (zB x.2.2.2.2.2.length side) all n i x).1 = 0 then .inl (side, all, count, t, dt, cn, br, (z0m (zB x.2.2.2.2.2.length side) all n i x).2)
     else .inr ((z0m (zB x.2.2.2.2.2.length side) all n i x).1, t, dt, cn, true, (z0m (zB x.2.2.2.2.2.length side) all n i x).2))
 | 0, i, k, x, hn, h, hk, hx => by
  rw [zL];show (xF side all count (i : Int) t dt cn br x.1 x.2.1 x.2.2.1 x.2.2.2.1 x.2.2.2.2.1 x.2.2.2.2.2).bind _ = _;unfold xF;unfold clS at hn;rw [zi (by omega), zo (by omega), zP (by omega)]
  simp only [cond_false, beq_self, cond_true, kA, Sum.elim_inr, z0m, if_true]
 | n + 1, i, k, x, hn, h, hk, hx => by
  have hn' := hn;unfold clS at hn';rw [zL];show (xF side all count (i : Int) t dt cn br x.1 x.2.1 x.2.2.1 x.2.2.2.1 x.2.2.2.2.1 x.2.2.2.2.2).bind _ = _;unfold xF;rw [zi (by omega), zo (by omega), zY (by omega), qG (by omega), kG, zlf]
  simp only [cond_true, yx];rw [yuk _ _ _ _ _ _ _ _ _ _ _ _ hx hs (by omega)]
  have e1 : zA all ((i : Int) * 256) ((all.length : Nat) : Int) = all.drop (i * 256) := by
   simp only [zA];rw [show ((i : Int) * 256).toNat = i * 256 by omega, kF (by rw [kK]; omega)]
  have e2 : z1y (kH 256 (0 : Int)) 0 256 (all.drop (i * 256)) = z1o all i := by
   have := ylr (kH 256 (0 : Int)) (all.drop (i * 256));rw [kG] at this;rw [this]; rfl
  rw [e1, e2, zh1];simp only [kA, beq_self, cond_true];rw [yp6 h _ _ (by rw [zh1]; omega)]
  simp only [kA];have hw := h.write (by omega) (zB x.2.2.2.2.2.length side + (i : Int)) (zzp hb i)
  have hl := yd7 x (zB x.2.2.2.2.2.length side + (i : Int)) (z1o all i)
  by_cases he : (yA x (zB x.2.2.2.2.2.length side + (i : Int)) (z1o all i)).1 = 0
  ·rw [xj he, ydo he];simp only [cond_false, beq_self, cond_true, kA, Sum.elim_inl];have := yit (count := count) (t := t) (dt := dt) (cn := cn) (br := br) hs hb hall n (i + 1) (by omega) hw (by omega) (by omega)
   rw [hl] at this;rw [jh (by omega)]
   exact this
  ·rw [qX he, ydn he, if_neg he];simp only [cond_true, beq_self, kA, Sum.elim_inr]
def layJ (x : zC) (j : JT) (side : Int) (there : Nat) (all : List Int) (count : Int) : Int × JT × zC :=
 if j.1.1 = 4611686018427387904 \/ zt x.2.2.2.2.2.length < all.length then (5, j, x) else
 if (z0m (zB x.2.2.2.2.2.length side) all (clS all.length - there / 256) (there / 256) x).1 ≠ 0 then
  ((z0m (zB x.2.2.2.2.2.length side) all (clS all.length - there / 256) (there / 256) x).1, (j.1, j.2.1, j.2.2.1, true), (z0m (zB x.2.2.2.2.2.length side) all (clS all.length - there / 256) (there / 256) x).2) else
 if (yJ (z0m (zB x.2.2.2.2.2.length side) all (clS all.length - there / 256) (there / 256) x).2).1 ≠ 0 then
  ((yJ (z0m (zB x.2.2.2.2.2.length side) all (clS all.length - there / 256) (there / 256) x).2).1, (j.1, j.2.1, j.2.2.1, true), (yJ (z0m (zB x.2.2.2.2.2.length side) all (clS all.length - there / 256) (there / 256) x).2).2) else
 if (xk (yJ (z0m (zB x.2.2.2.2.2.length side) all (clS all.length - there / 256) (there / 256) x).2).2 (j.1.1 + 1, side, all.length)).1 ≠ 0 then
  ((xk (yJ (z0m (zB x.2.2.2.2.2.length side) all (clS all.length - there / 256) (there / 256) x).2).2 (j.1.1 + 1, side, all.length)).1, (j.1, j.2.1, j.2.2.1, true), (xk (yJ (z0m (zB x.2.2.2.2.2.length side) all (clS all.length - there / 256) (there / 256) x).2).2 (j.1.1 + 1, side, all.length)).2) else
 (0, ((j.1.1 + 1, side, all.length), all, count, j.2.2.2), (xk (yJ (z0m (zB x.2.2.2.2.2.length side) all (clS all.length - there / 256) (there / 256) x).2).2 (j.1.1 + 1, side, all.length)).2)
def z2m (r : Int × JT × zC) : Int × (Int × Int × Int) × List Int × Int × Bool × zC := (r.1, r.2.1.1, r.2.1.2.1, r.2.1.2.2.1, r.2.1.2.2.2, r.2.2)
structure OkJ (j : JT) : Prop where
 n : 0 <= j.1.1 /\ j.1.1 <= 4611686018427387904
 s : 0 <= j.1.2.1 /\ j.1.2.1 <= 1
variable {j : JT}
theorem yq8 (h : Dv k x) (hk : k <= 90000) (hx : 2 <= x.2.2.2.2.2.length /\ x.2.2.2.2.2.length <= 5000) (hj : OkJ j) {side : Int} (hs : 0 <= side /\ side <= 1) {there : Nat} {all : List Int} (hb : isB all) (hall : all.length <= 10000000) (hth : there <= all.length) (count : Int) :
  z11 side (there : Int) all count j.1 j.2.1 j.2.2.1 j.2.2.2 x.1 x.2.1 x.2.2.1 x.2.2.2.1 x.2.2.2.2.1 x.2.2.2.2.2 = some (z2m (layJ x j side there all count)) := by
 unfold z11 layJ
 by_cases h1 : j.1.1 = 4611686018427387904
 ·rw [ql h1, if_pos (.inl h1)];simp only [cond_true, beq_self]; rfl
 ·rw [z00 h1, zi (by omega)]
  simp only [cond_false, yx];rw [zab _ _ _ _ _ _ hx];simp only [kA];have hsec : 0 <= zM x.2.2.2.2.2.length /\ zM x.2.2.2.2.2.length <= 2500 := by unfold zM; omega
  rw [zo (n := zM x.2.2.2.2.2.length * 256) (by omega)]
  by_cases h2 : zt x.2.2.2.2.2.length < all.length
  ·have h2' := h2;unfold zt at h2';rw [zY h2', if_pos (.inr h2)];simp only [cond_true, beq_self]; rfl
  ·have h2' := h2;unfold zt at h2';rw [zP h2', if_neg (by rintro (h | h); exact h1 h; exact h2 h)]
   simp only [cond_false, cond_true, beq_self];have e1 : W64 (Int.tdiv (there : Int) 256) = ((there / 256 : Nat) : Int) := by
    rw [Int.tdiv_eq_ediv_of_nonneg (by omega), zo (by omega)]; omega
   have hcl : clS all.length <= 2501 := by unfold clS; omega
   have hle : there / 256 <= clS all.length := by unfold clS; omega
   have hL := yit (count := count) (t := j.1) (dt := j.2.1) (cn := j.2.2.1) (br := j.2.2.2) hs hb hall (clS all.length - there / 256) (there / 256) (by omega) h (by omega) hx
   rw [e1];rw [show ((x.1, x.2.1, x.2.2.1, x.2.2.2.1, x.2.2.2.2.1, x.2.2.2.2.2) : zC) = x from rfl, hL]
   simp only [kA];have hd := Dv.lay (base := zB x.2.2.2.2.2.length side) hb (clS all.length - there / 256) (there / 256) h (by omega)
   generalize z0m (zB x.2.2.2.2.2.length side) all (clS all.length - there / 256) (there / 256) x = r at *
   by_cases he : r.1 = 0
   ·rw [if_pos he, if_neg (by simpa using he)]
    simp only [Sum.elim_inl, beq_self, cond_true];rw [zzo _ _ _ _ _ _ hd.ok];simp only [kA];rw [show ((r.2.1, r.2.2.1, r.2.2.2.1, r.2.2.2.2.1, r.2.2.2.2.2.1, r.2.2.2.2.2.2) : zC) = r.2 from rfl]
    have hd2 := hd.barrier (by omega)
    generalize yJ r.2 = q at *
    by_cases he2 : q.1 = 0
    ·rw [xj he2, if_neg (by simpa using he2), zi (by omega)]
     simp only [cond_false, beq_self, cond_true];rw [z5k (by have := hj.n; omega)]
     have := yu8 hd2 (by omega) (t := (j.1.1 + 1, side, (all.length : Int))) (by have := hj.n; simp only; omega) (by simp only; omega) (by simp only; omega) j
     rw [this];simp only [kA];generalize xk q.2 (j.1.1 + 1, side, (all.length : Int)) = p;unfold zc0
     by_cases he3 : p.1 = 0
     ·rw [xj he3, if_pos he3, if_neg (by simpa using he3)]; rfl
     ·rw [qX he3, if_neg he3, if_pos he3]; rfl
    ·rw [qX he2, if_pos he2];simp only [cond_true, beq_self]; rfl
   ·rw [if_neg he, if_pos he];simp only [Sum.elim_inr, beq_self, cond_true]; rfl
def za5 (l : List (List Int)) : Prop := ∃ x, x ∈ l /\ 65531 < x.length
open Classical in
noncomputable def zlb (x : zC) (j : JT) (l : List (List Int)) : Int × JT × zC :=
 if j.2.2.2 = true then (3, j, x) else if za5 l then (4, j, x) else if l = [] then (0, j, x) else
  layJ x j j.1.2.1 j.2.1.length (j.2.1 ++ zq l) (j.2.2.1 + (l.length : Int))
open Classical in
noncomputable def z5x (x : zC) (j : JT) (l : List (List Int)) : Int × JT × zC :=
 if j.2.2.2 = true then (3, j, x) else if za5 l then (4, j, x) else layJ x j (1 - j.1.2.1) 0 (zq l) (l.length : Int)
structure OkL (l : List (List Int)) : Prop where
 n : l.length <= 1000000
 b : ∀ x, x ∈ l -> isB x
 s : (zq l).length <= 5000000
theorem y0f : ∀ {l : List (List Int)}, (∀ x, x ∈ l -> isB x) -> ¬ za5 l -> isB (zq l) := fun {l} h hl => zef l fun x hx => ⟨h x hx, by
 by_cases h2 : x.length <= 65531
 ·exact h2
 ·exact absurd ⟨x, hx, by omega⟩ hl⟩
theorem yhj (h : Dv k x) (hk : k <= 90000) (hx : 2 <= x.2.2.2.2.2.length /\ x.2.2.2.2.2.length <= 5000) (hj : OkJ j) (hd : isB j.2.1) (hdl : j.2.1.length <= 1000000) (hc : 0 <= j.2.2.1 /\ j.2.2.1 <= 1000000000) {l : List (List Int)} (hl : OkL l) :
  xN l j.1 j.2.1 j.2.2.1 j.2.2.2 x.1 x.2.1 x.2.2.1 x.2.2.2.1 x.2.2.2.2.1 x.2.2.2.2.2 = some (z2m (zlb x j l)) := by
 unfold xN xK zlb;simp only [yx, kA]
 by_cases hb : j.2.2.2 = true
 ·rw [hb, if_pos rfl];simp only [cond_true, beq_self, z2m, hb]
 ·rw [if_neg hb, kN.2 hb];simp only [cond_false];rw [zab _ _ _ _ _ _ hx];simp only [kA];have hsec : 0 <= zM x.2.2.2.2.2.length /\ zM x.2.2.2.2.2.length <= 2500 := by unfold zM; omega
  rw [zo (n := zM x.2.2.2.2.2.length * 256) (by omega)]
  obtain ⟨p, hp, h1, h2⟩ := ymc l (room := zM x.2.2.2.2.2.length * 256) hl.n (by have := hl.s; omega) (by omega)
  rw [hp];simp only [kA]
  by_cases hlong : za5 l
  ·rw [if_pos hlong, h1 hlong, qX (by decide)]
   simp only [cond_true, beq_self, z2m, kN.2 hb]
  ·rw [if_neg hlong];have hshort : ∀ y, y ∈ l -> y.length <= 65531 := fun y hy => by
    by_cases h3 : y.length <= 65531
    ·exact h3
    ·exact absurd ⟨y, hy, by omega⟩ hlong
   have hn := hl.n;have hls := hl.s
   by_cases hnil : l = []
   ·subst hnil;rw [if_pos rfl];rcases h2 hshort with rfl | ⟨rfl, h3⟩
    ·rw [xj rfl];simp only [cond_false, ku];rw [zi (by omega), ql (by rfl)]
     simp only [cond_true, beq_self, z2m, kN.2 hb]
    ·exact absurd h3 (by simp [zq]; omega)
   ·rw [if_neg hnil];have hpos := List.length_pos_iff.2 hnil;have hib := hd.app (y0f hl.b hlong);rcases h2 hshort with rfl | ⟨rfl, h3⟩
    ·rw [xj rfl];simp only [cond_false];rw [zi (by omega), z00 (by omega), zi (by omega), yna _ (by simp) (by simp; omega)]
     simp only [cond_false, kA, List.flatten_cons, List.flatten_nil, kV, beq_self, cond_true];rw [zi (by omega), zo (by omega)]
     have := yq8 h hk hx hj hj.s (there := j.2.1.length) hib (by simp; omega) (by simp) (j.2.2.1 + (l.length : Int))
     rw [kN.2 hb] at this;rw [this];simp only [kA, beq_self, cond_true, z2m]
    ·rw [qX (by decide)]
     simp only [cond_true, beq_self];unfold layJ;rw [if_pos (.inr (by unfold zt; rw [kE]; omega))]
     simp only [z2m, kN.2 hb]
theorem yce (h : Dv k x) (hk : k <= 90000) (hx : 2 <= x.2.2.2.2.2.length /\ x.2.2.2.2.2.length <= 5000) (hj : OkJ j) {l : List (List Int)} (hl : OkL l) :
  qA l j.1 j.2.1 j.2.2.1 j.2.2.2 x.1 x.2.1 x.2.2.1 x.2.2.2.1 x.2.2.2.2.1 x.2.2.2.2.2 = some (z2m (z5x x j l)) := by
 unfold qA xK z5x;simp only [yx, kA]
 by_cases hb : j.2.2.2 = true
 ·rw [hb, if_pos rfl];simp only [cond_true, beq_self, z2m, hb]
 ·rw [if_neg hb, kN.2 hb];simp only [cond_false];rw [zab _ _ _ _ _ _ hx];simp only [kA];have hsec : 0 <= zM x.2.2.2.2.2.length /\ zM x.2.2.2.2.2.length <= 2500 := by unfold zM; omega
  rw [zo (n := zM x.2.2.2.2.2.length * 256) (by omega)]
  obtain ⟨p, hp, h1, h2⟩ := ymc l (room := zM x.2.2.2.2.2.length * 256) hl.n (by have := hl.s; omega) (by omega)
  rw [hp];simp only [kA]
  by_cases hlong : za5 l
  ·rw [if_pos hlong, h1 hlong, qX (by decide)]
   simp only [cond_true, beq_self, z2m, kN.2 hb]
  ·rw [if_neg hlong];have hshort : ∀ y, y ∈ l -> y.length <= 65531 := fun y hy => by
    by_cases h3 : y.length <= 65531
    ·exact h3
    ·exact absurd ⟨y, hy, by omega⟩ hlong
   have hn := hl.n;have hls := hl.s;have hib := y0f hl.b hlong;have hjs := hj.s;rcases h2 hshort with rfl | ⟨rfl, h3⟩
   ·rw [xj rfl];simp only [cond_false];rw [zi (by omega), zo (by omega)]
    have := yq8 h hk hx hj (side := 1 - j.1.2.1) (by omega) (there := 0) hib (by omega) (by omega) (l.length : Int)
    rw [kN.2 hb] at this;simp only [beq_self, cond_true];rw [show (((0 : Nat) : Int)) = 0 from rfl] at this
    rw [this];simp only [kA, beq_self, cond_true, z2m]
   ·rw [qX (by decide)]
    simp only [cond_true, beq_self];unfold layJ;rw [if_pos (.inr (by unfold zt; omega))]
    simp only [z2m, kN.2 hb]
theorem yjt (hx : 2 <= x.2.2.2.2.2.length /\ x.2.2.2.2.2.length <= 5000) (hdl : j.2.1.length <= 1000000) (w : List (List Int)) (hw : w = x.2.2.2.2.2) :
  z0a (w, x.1, x.2.1, x.2.2.1, x.2.2.2.1, x.2.2.2.2.1) j.1 j.2.1 j.2.2.1 j.2.2.2 = some (zt x.2.2.2.2.2.length - (j.2.1.length : Int)) := by
 subst hw;unfold z0a;rw [zab _ _ _ _ _ _ hx];have hsec : 0 <= zM x.2.2.2.2.2.length /\ zM x.2.2.2.2.2.length <= 2500 := by unfold zM; omega
 simp only [kA];rw [zi (by omega), zo (n := zM x.2.2.2.2.2.length * 256) (by omega), zo (by omega)]; rfl
def z54 (x : zC) (i : Nat) : List Int := z28 x.1 (i : Int) ((x.2.2.2.2.2[i]?).getD [])
theorem yto (ho : x.2.2.2.2.1 = false) (hi : i < x.2.2.2.2.2.length) : yc2 x (i : Int) = (0, z54 x i) := by
 unfold yc2;have : z9b x.2.2.2.2.1 x.2.2.2.2.2.length (i : Int) = 0 := by unfold z9b; rw [ho, if_neg (by simp), if_pos (by omega)]
 rw [if_neg (by rw [this]; simp)]; rfl
theorem y9x (h : Dv k x) (ho : x.2.2.2.2.1 = false) (hi : i < x.2.2.2.2.2.length) :
  qk (i : Int) x.1 x.2.1 x.2.2.1 x.2.2.2.1 x.2.2.2.2.1 x.2.2.2.2.2 = some (0, x.1, x.2.1, x.2.2.1, x.2.2.2.1, x.2.2.2.2.1, z54 x i, x.2.2.2.2.2) := by
 have := yw1 (i : Int) x.1 x.2.1 x.2.2.1 x.2.2.2.1 x.2.2.2.2.1 x.2.2.2.2.2 h.ok;rw [show ((x.1, x.2.1, x.2.2.1, x.2.2.2.1, x.2.2.2.2.1, x.2.2.2.2.2) : zC) = x from rfl, yto ho hi] at this
 exact this
theorem zt3 (h : Dv k x) (hi : i < x.2.2.2.2.2.length) : (z54 x i).length = 256 := by
 unfold z54;rw [kB hi, kL];exact y9r _ _ _ (fun w hw => (h.ok.d.w w hw).2.2) (h.ok.d.s _ (kM hi))
theorem yj7 : ∀ (l : List (Int × List Int)) (i : Int) (y : List Int), (∀ w, w ∈ l -> isB w.2) -> isB y -> isB (z28 l i y)
 | [], _, _, _, h => h
 | w :: ws, i, y, hw, h => by
  simp only [z28];refine yj7 ws i _ (fun v hv => hw v (by simp [hv])) ?_
  split
  ·exact hw w (by simp)
  ·exact h
theorem yj5 (h : Dv k x) (hi : i < x.2.2.2.2.2.length) : isB (z54 x i) := by
 unfold z54;rw [kB hi, kL];exact yj7 _ _ _ h.bw (h.bs _ (kM hi))
def z8m (a b : Int × Int × Int) : Int × Int × Int := if a.1 < b.1 then b else a
def zeg (x : zC) : Int × Int × Int := z8m (z8m (0, 0, 0) (z0n (z54 x 0) (zt x.2.2.2.2.2.length))) (z0n (z54 x 1) (zt x.2.2.2.2.2.length))
theorem yfb (h : Dv k x) (ho : x.2.2.2.2.1 = false) (hx : 6 <= x.2.2.2.2.2.length /\ x.2.2.2.2.2.length <= 5000) :
  zb yD (zt x.2.2.2.2.2.length, 0, x.1, x.2.1, x.2.2.1, x.2.2.2.1, x.2.2.2.2.1, (0, 0, 0), 0, false, x.2.2.2.2.2, ([] : List Int)) =
   some (.inl (x.1, x.2.1, x.2.2.1, x.2.2.2.1, x.2.2.2.2.1, zeg x, 0, false, x.2.2.2.2.2, [])) := by
 have hr : 0 <= zt x.2.2.2.2.2.length /\ zt x.2.2.2.2.2.length <= 1000000000 := by unfold zt zM; omega
 have step : ∀ (i : Nat) (j : Int × Int × Int), i < 2 -> yD (zt x.2.2.2.2.2.length, (i : Int), x.1, x.2.1, x.2.2.1, x.2.2.2.1, x.2.2.2.2.1, j, 0, false, x.2.2.2.2.2, ([] : List Int)) =
   some (.inl (zt x.2.2.2.2.2.length, ((i + 1 : Nat) : Int), x.1, x.2.1, x.2.2.1, x.2.2.2.1, x.2.2.2.2.1, z8m j (z0n (z54 x i) (zt x.2.2.2.2.2.length)), 0, false, x.2.2.2.2.2, [])) := fun i j hi => by
  show qo _ (i : Int) x.1 x.2.1 x.2.2.1 x.2.2.2.1 x.2.2.2.2.1 j 0 false x.2.2.2.2.2 [] = _;unfold qo;rw [zY (by omega)]
  simp only [cond_true, beq_self];rw [y9x h ho (by omega)]
  simp only [kA, yx];rw [xj rfl, ytv (zt3 h (by omega)) (yj5 h (by omega)) hr]
  simp only [cond_false, kA];unfold z8m
  by_cases hlt : j.1 < (z0n (z54 x i) (zt x.2.2.2.2.2.length)).1
  ·rw [zY hlt, if_pos hlt, jh (by omega)]; rfl
  ·rw [zP hlt, if_neg hlt, jh (by omega)]; rfl
 rw [zL];have s0 := step 0 (0, 0, 0) (by omega)
 rw [show (((0 : Nat) : Int)) = 0 from rfl] at s0
 rw [s0];simp only [kA, Sum.elim_inl];rw [zL, step 1 _ (by omega)]
 simp only [kA, Sum.elim_inl];rw [zL];show (qo _ (2 : Int) x.1 x.2.1 x.2.2.1 x.2.2.2.1 x.2.2.2.2.1 _ 0 false x.2.2.2.2.2 []).bind _ = _;unfold qo;rw [zP (by omega)]
 simp only [cond_false, beq_self, cond_true, kA, Sum.elim_inr];rfl
def z43 (x : zC) (side : Int) (n : Nat) : List Int := ((List.range n).map fun i => z54 x ((zB x.2.2.2.2.2.length side).toNat + i)).flatten
theorem zqg (x : zC) (side : Int) (n : Nat) : z43 x side (n + 1) = z43 x side n ++ z54 x ((zB x.2.2.2.2.2.length side).toNat + n) := by
 unfold z43; rw [List.range_succ]; simp
theorem y6b (hx : 6 <= n /\ n <= 5000) {side : Int} (hs : 0 <= side /\ side <= 1) (hi : (i : Int) < zM n) : 0 <= zB n side /\ (zB n side).toNat + i < n := by
 unfold zB;unfold zM at *;rcases (show side = 0 \/ side = 1 by omega) with rfl | rfl
 ·rw [Int.zero_mul]; omega
 ·rw [Int.one_mul]; omega
theorem zcc {k : Nat} {x : zC} (h : Dv k x) (hx : 6 <= x.2.2.2.2.2.length /\ x.2.2.2.2.2.length <= 5000) {side : Int} (hs : 0 <= side /\ side <= 1) : ∀ (n : Nat), (n : Int) <= zM x.2.2.2.2.2.length -> (z43 x side n).length = n * 256
 | 0, _ => rfl
 | n + 1, hn => by
  rw [zqg, kE, zcc h hx hs n (by omega), zt3 h (y6b hx hs (by omega)).2]; omega
theorem yf1 {k : Nat} {x : zC} (h : Dv k x) (ho : x.2.2.2.2.1 = false) (hx : 6 <= x.2.2.2.2.2.length /\ x.2.2.2.2.2.length <= 5000) {t : Int × Int × Int} (ht : OkT t (zt x.2.2.2.2.2.length)) :
  ∀ (n i : Nat), i + n = clS t.2.2.toNat ->
  zb yH ((i : Int), x.1, x.2.1, x.2.2.1, x.2.2.2.1, x.2.2.2.2.1, t, 0, false, x.2.2.2.2.2, z43 x t.2.1 i) =
   some (.inl (x.1, x.2.1, x.2.2.1, x.2.2.2.1, x.2.2.2.2.1, t, 0, false, x.2.2.2.2.2, z43 x t.2.1 (clS t.2.2.toNat)))
 | 0, i, hi => by
  have hi' := hi;unfold clS at hi';obtain ⟨t1, t2, t3, t4, t5, t6, t7⟩ := ht;have hroom : zt x.2.2.2.2.2.length <= 1000000 := by unfold zt zM; omega
  rw [zL];show (xq (i : Int) x.1 x.2.1 x.2.2.1 x.2.2.2.1 x.2.2.2.2.1 t 0 false x.2.2.2.2.2 (z43 x t.2.1 i)).bind _ = _;unfold xq;rw [zo (by omega), zP (by omega)]
  simp only [cond_false, beq_self, cond_true, kA, Sum.elim_inr];rw [show i = clS t.2.2.toNat by omega]
 | n + 1, i, hi => by
  have hi' := hi;unfold clS at hi';have ht' := ht;obtain ⟨t1, t2, t3, t4, t5, t6, t7⟩ := ht';have hroom : zt x.2.2.2.2.2.length <= 1000000 := by unfold zt zM; omega
  have hsec : (i : Int) < zM x.2.2.2.2.2.length := by unfold zt at t6; omega
  have hlen := zcc h hx ⟨t3, t4⟩ i (by omega)
  obtain ⟨b1, b2⟩ := y6b hx ⟨t3, t4⟩ hsec;rw [zL];show (xq (i : Int) x.1 x.2.1 x.2.2.1 x.2.2.2.1 x.2.2.2.2.1 t 0 false x.2.2.2.2.2 (z43 x t.2.1 i)).bind _ = _;unfold xq;rw [zo (by omega), zY (by omega)]
  simp only [cond_true, yx];rw [yuk _ _ _ _ _ _ _ _ _ _ _ _ (by omega) ⟨t3, t4⟩ (by omega)]
  simp only [kA, beq_self, cond_true];rw [show zB x.2.2.2.2.2.length t.2.1 + (i : Int) = (((zB x.2.2.2.2.2.length t.2.1).toNat + i : Nat) : Int) by omega, y9x h ho b2]
  simp only [kA, yx];rw [xj rfl, xS (by rw [hlen, zt3 h b2]; omega)]
  simp only [cond_false, kA, beq_self, cond_true, Sum.elim_inl];rw [jh (by omega), <- zqg]
  exact yf1 h ho hx ht n (i + 1) (by omega)
theorem yo2 (h : Dv k x) (ho : x.2.2.2.2.1 = false) (hx : 6 <= x.2.2.2.2.2.length /\ x.2.2.2.2.2.length <= 5000) {t : Int × Int × Int} (hp : zeg x = t) (ht : OkT t (zt x.2.2.2.2.2.length)) {l : List (List Int)}
  (hl : ∀ y, y ∈ l -> isB y /\ y.length <= 65531) (hd : (z43 x t.2.1 (clS t.2.2.toNat)).take t.2.2.toNat = zq l) :
  qM x.1 x.2.1 x.2.2.1 x.2.2.2.1 x.2.2.2.2.1 x.2.2.2.2.2 = some (.inr (0, x.1, x.2.1, x.2.2.1, x.2.2.2.1, x.2.2.2.2.1, t, zq l, (l.length : Int), false, l, x.2.2.2.2.2)) := by
 have hroom : zt x.2.2.2.2.2.length <= 640000 := by unfold zt zM; omega
 have hr0 : zM x.2.2.2.2.2.length * 256 = zt x.2.2.2.2.2.length := rfl;have hsec : 0 <= zM x.2.2.2.2.2.length /\ zM x.2.2.2.2.2.length <= 2500 := by unfold zM; omega
 have ht' := ht;obtain ⟨t1, t2, t3, t4, t5, t6, t7⟩ := ht';unfold qM vv;simp only [yx];rw [zi (by omega)]
 simp only [kA];rw [zP (by omega), zab _ _ _ _ _ _ (by omega)]
 simp only [cond_false, kA, beq_self, cond_true];rw [zo (by omega), hr0, show lD 0 (k0 ([] : List Int)) = true from rfl, yfb h ho hx, hp]
 simp only [cond_true, kA, Sum.elim_inl];rw [z00 (by omega)]
 have hL := yf1 h ho hx ht (clS t.2.2.toNat) 0 (by omega)
 rw [show z43 x t.2.1 0 = [] from rfl, show (((0 : Nat) : Int)) = 0 from rfl] at hL
 simp only [cond_false];rw [hL];simp only [kA, Sum.elim_inl];have hcl : (clS t.2.2.toNat : Int) <= zM x.2.2.2.2.2.length := by unfold clS; unfold zt at t6; omega
 have hlen := zcc h hx ⟨t3, t4⟩ (clS t.2.2.toNat) hcl;have hle : t.2.2.toNat <= (z43 x t.2.1 (clS t.2.2.toNat)).length := by rw [hlen]; unfold clS; omega
 have hll : (zq l).length = t.2.2.toNat := by rw [<- hd, kC]; omega
 have hc := z9l l;rw [qG (by omega), ql rfl, ytp hd hle hl (by omega)]
 simp only [Bool.and_self, cond_true, kA];rw [xj rfl, zi (by omega), ys0 _ _ _ (by omega)]
 simp only [cond_false, kU, hd, beq_self, cond_true]
theorem yo3 (h : Dv k x) (hk : k + 2 <= 100000) (ho : x.2.2.2.2.1 = false) (hx : 6 <= x.2.2.2.2.2.length /\ x.2.2.2.2.2.length <= 5000) (hp : (zeg x).1 = 0) (he : (xk x (1, 0, 0)).1 = 0) :
  qM x.1 x.2.1 x.2.2.1 x.2.2.2.1 x.2.2.2.2.1 x.2.2.2.2.2 =
   some (.inr (0, (xk x (1, 0, 0)).2.1, (xk x (1, 0, 0)).2.2.1, (xk x (1, 0, 0)).2.2.2.1, (xk x (1, 0, 0)).2.2.2.2.1, (xk x (1, 0, 0)).2.2.2.2.2.1, (1, 0, 0), [], 0, false, [], (xk x (1, 0, 0)).2.2.2.2.2.2)) := by
 have hr0 : zM x.2.2.2.2.2.length * 256 = zt x.2.2.2.2.2.length := rfl;have hsec : 0 <= zM x.2.2.2.2.2.length /\ zM x.2.2.2.2.2.length <= 2500 := by unfold zM; omega
 unfold qM vv;simp only [yx];rw [zi (by omega)]
 simp only [kA];rw [zP (by omega), zab _ _ _ _ _ _ (by omega)]
 simp only [cond_false, kA, beq_self, cond_true];rw [zo (by omega), hr0, show lD 0 (k0 ([] : List Int)) = true from rfl, yfb h ho hx]
 simp only [cond_true, kA, Sum.elim_inl];rw [ql hp];have := yu7 h hk (t := (1, 0, 0)) (by decide) (by decide) (by decide) (zeg x, [], 0, false)
 simp only [cond_true];rw [this];simp only [kA];rw [xj he];unfold zc0;rw [if_pos he];rfl
theorem yay (L : List (Int × List Int)) (left : Int) (c : List Int × Int × Int) (nn : Int) (s : List (List Int)) (h : -1 <= left) :
  (∃ left', yy (L, left, c, nn, false, s) = (0, (L, left', c, nn + 1, false, s)) /\ -1 <= left' /\ left' <= left /\ (left < 0 -> left' = left)) \/
  (0 <= left /\ yy (L, left, c, nn, false, s) = (6, ([], -1, c, nn + 1, true, z7m c L 0 s))) := by
 unfold yy
 by_cases h1 : left < 0
 ·exact .inl ⟨left, if_pos h1, h, Int.le_refl _, fun _ => rfl⟩
 ·by_cases h2 : left = 0
  ·refine .inr ⟨by omega, ?_⟩
   simp only;rw [if_neg h1, if_pos h2]; rfl
  ·refine .inl ⟨left - 1, ?_, by omega, by omega, fun h => absurd h h1⟩
   simp only;rw [if_neg h1, if_neg h2]
theorem yxj {i : Int} (h : 0 <= i /\ i < n) : z9b false n i = 0 := by unfold z9b; rw [if_neg (by simp), if_pos h]
theorem yg8 (L : List (Int × List Int)) (left : Int) (c : List Int × Int × Int) (nn : Int) (s : List (List Int)) (h : -1 <= left) {i : Int} (hi : 0 <= i /\ i < s.length) {b : List Int} (hb : b.length = 256) :
  (∃ left', yA (L, left, c, nn, false, s) i b = (0, (L ++ [(i, b)], left', c, nn + 1, false, s)) /\ -1 <= left' /\ left' <= left /\ (left < 0 -> left' = left)) \/
  (0 <= left /\ yA (L, left, c, nn, false, s) i b = (6, ([], -1, c, nn + 1, true, z7m c (L ++ [(i, b)]) 0 s))) := by
 have e : yA (L, left, c, nn, false, s) i b = yy (L ++ [(i, b)], left, c, nn, false, s) := by
  unfold yA;simp only;rw [yxj hi, if_neg (by simp), if_neg (by simp [hb])]
 rw [e];exact yay _ _ _ _ _ h
theorem y7t (L : List (Int × List Int)) (left : Int) (c : List Int × Int × Int) (nn : Int) (s : List (List Int)) (h : -1 <= left) :
  (∃ left', yJ (L, left, c, nn, false, s) = (0, ([], left', c, nn + 1, false, jk L s)) /\ -1 <= left' /\ left' <= left /\ (left < 0 -> left' = left)) \/
  (0 <= left /\ yJ (L, left, c, nn, false, s) = (6, ([], -1, c, nn + 1, true, z7m c L 0 s))) := by
 unfold yJ;rcases yay L left c nn s h with ⟨left', e, h1⟩ | ⟨h1, e⟩
 ·refine .inl ⟨left', ?_, h1⟩;rw [e]; rfl
 ·refine .inr ⟨h1, ?_⟩;rw [e]; rfl
def blocks (base : Int) (all : List Int) : Nat -> Nat -> List (Int × List Int)
 | 0, _ => []
 | n + 1, i => (base + (i : Int), z1o all i) :: blocks base all n (i + 1)
theorem yis {base : Int} {all : List Int} {c : List Int × Int × Int} {s : List (List Int)} : ∀ (n i : Nat) (L : List (Int × List Int)) (left nn : Int), -1 <= left -> (0 <= base + (i : Int)) -> (base + (i : Int) + (n : Int) <= s.length) ->
  (∃ left', z0m base all n i (L, left, c, nn, false, s) = (0, (L ++ blocks base all n i, left', c, nn + (n : Int), false, s)) /\ -1 <= left' /\ left' <= left /\ (left < 0 -> left' = left)) \/
  (0 <= left /\ ∃ m nn', m <= n /\ nn' <= nn + (n : Int) /\ z0m base all n i (L, left, c, nn, false, s) = (6, ([], -1, c, nn', true, z7m c (L ++ blocks base all m i) 0 s)))
 | 0, i, L, left, nn, h, _, _ => .inl ⟨left, by simp [z0m, blocks], h, Int.le_refl _, fun _ => rfl⟩
 | n + 1, i, L, left, nn, h, h1, h2 => by
  rcases yg8 L left c nn s h (i := base + (i : Int)) (b := z1o all i) (by omega) (zh1 all i) with ⟨left', e, g1, g2, g3⟩ | ⟨g1, e⟩
  ·have he : (yA (L, left, c, nn, false, s) (base + (i : Int)) (z1o all i)).1 = 0 := by rw [e]
   rw [ydo he, e];rcases yis (base := base) (all := all) (c := c) (s := s) n (i + 1) (L ++ [(base + (i : Int), z1o all i)]) left' (nn + 1) g1 (by omega) (by omega) with ⟨left2, e2, k1, k2, k3⟩ | ⟨k1, m, nn', k2, k3, e2⟩
   ·refine .inl ⟨left2, ?_, k1, by omega, fun hl => by rw [k3 (by have := g3 hl; omega), g3 hl]⟩
    rw [e2];simp only [blocks, kh, List.singleton_append];congr 5;omega
   ·refine .inr ⟨by omega, m + 1, nn', by omega, by omega, ?_⟩
    rw [e2];simp only [blocks, kh, List.singleton_append]
  ·have he : ¬ (yA (L, left, c, nn, false, s) (base + (i : Int)) (z1o all i)).1 = 0 := by rw [e]; simp
   rw [ydn he, e];exact .inr ⟨g1, 1, nn + 1, by omega, by omega, rfl⟩
theorem zhm {α : Type} (s : List α) (p q : Nat) (y : α) (hp : p < s.length) : (s.set p y)[q]? = if q = p then some y else s[q]? := by
 by_cases h : q = p
 ·subst h; rw [if_pos rfl, ki hp]
 ·rw [if_neg h, List.getElem?_set_ne (fun e => h e.symm)]
theorem yf0 (P : Nat -> List Int -> Prop) (c : List Int × Int × Int) : ∀ (L : List (Int × List Int)) (k : Nat) (s : List (List Int)), (∀ w, w ∈ L -> 0 <= w.1 /\ w.1 < s.length) ->
  (∀ w, w ∈ L -> ∀ n y, n <= 256 -> P w.1.toNat y -> P w.1.toNat (w.2.take n ++ y.drop n)) -> (∀ q y, s[q]? = some y -> P q y) -> ∀ q y, (z7m c L k s)[q]? = some y -> P q y
 | [], _, s, _, _, h => h
 | w :: ws, k, s, hL, hp, h => by
  simp only [z7m];have hw := hL w (by simp)
  have ht := zu5 c k;refine yf0 P c ws (k + 1) _ (fun v hv => by rw [zhf]; exact hL v (by simp [hv])) (fun v hv => hp v (by simp [hv])) fun q y hq => ?_
  unfold zm8 at hq;rw [zhm _ _ _ _ (by omega)] at hq
  split at hq
  ·rename_i e;subst e;have hlt : w.1.toNat < s.length := by omega
   rw [kB hlt, kL] at hq;cases hq;exact hp w (by simp) _ _ (by omega) (h _ _ (kB hlt))
  ·exact h q y hq
theorem y8t {base : Int} {all : List Int} (hb : 0 <= base) : ∀ (n i : Nat) (s : List (List Int)), base + (i : Int) + (n : Int) <= s.length -> ∀ q,
  (jk (blocks base all n i) s)[q]? = if base.toNat + i <= q /\ q < base.toNat + i + n then some (z1o all (q - base.toNat)) else s[q]?
 | 0, i, s, h, q => by rw [if_neg (by omega)]; rfl
 | n + 1, i, s, h, q => by
  simp only [blocks, jk];rw [y8t hb n (i + 1) _ (by rw [kR]; omega) q, zhm _ _ _ _ (by omega)]
  have e : (base + (i : Int)).toNat = base.toNat + i := by omega
  rw [e]
  by_cases h1 : q = base.toNat + i
  ·rw [if_neg (by omega), if_pos h1, if_pos (by omega), h1]
   congr 2; omega
  ·rw [if_neg h1]
   by_cases h2 : base.toNat + i <= q /\ q < base.toNat + i + (n + 1)
   ·rw [if_pos h2, if_pos (by omega)]
   ·rw [if_neg h2, if_neg (by omega)]
theorem y0j {base : Int} {all : List Int} : ∀ (n i : Nat) {w : Int × List Int}, w ∈ blocks base all n i -> ∃ j, i <= j /\ j < i + n /\ w = (base + (j : Int), z1o all j)
 | 0, _, _, h => by cases h
 | n + 1, i, w, h => by
  simp only [blocks, kr] at h;rcases h with rfl | h
  ·exact ⟨i, by omega, by omega, rfl⟩
  ·obtain ⟨j, h1, h2, h3⟩ := y0j n (i + 1) h;exact ⟨j, by omega, by omega, h3⟩
def Sec (s : List (List Int)) (side : Int) (all : List Int) : Prop := ∀ i y, i < clS all.length -> s[(zB s.length side).toNat + i]? = some y -> y.take (all.length - i * 256) = (all.drop (i * 256)).take 256
theorem yt4 {a b o : List Int} {m n : Nat} (hb : b.length = 256) (h1 : b.take m = a) (h2 : o.take m = a) (hn : n <= 256) : (b.take n ++ o.drop n).take m = a := by
 by_cases h : m <= n
 ·rw [kQ (by rw [kC]; omega), kS, kO h, h1]
 ·rw [km, kS, kC, kZ (by omega), hb, kO hn, List.take_drop, show n + (m - n) = m by omega, h2, <- h1]
  have e : b.take n = (b.take m).take n := by rw [kS, kO (by omega)]
  rw [e, kW]
theorem yht {all more : List Int} (hi : i * 256 < all.length) : (z1o (all ++ more) i).take (all.length - i * 256) = (all.drop (i * 256)).take 256 := by
 unfold z1o;have e : (all ++ more).drop (i * 256) = all.drop (i * 256) ++ more := kP (by omega)
 rw [e];have hl : (all.drop (i * 256)).length = all.length - i * 256 := kK;generalize hA : all.drop (i * 256) = A at *;rw [<- hl]
 by_cases h : A.length <= 256
 ·rw [kQ (by rw [kC, kE]; omega), kS, kO h, List.take_left, kF h]
 ·have e2 : (A ++ more).take 256 = A.take 256 := kQ (by omega)
  have e3 : (kH 256 (0 : Int)).drop (A ++ more).length = [] := kD (by rw [kG, kE]; omega)
  rw [e2, e3, kV, kF (by rw [kC]; omega)]
theorem yu1 {s : List (List Int)} {side : Int} {there : Nat} {all : List Int} (hx : 6 <= s.length /\ s.length <= 5000) (hs : 0 <= side /\ side <= 1) (hfit : (all.length : Int) <= zt s.length) (hth : there <= all.length)
  (h : ∀ i y, i < there / 256 -> s[(zB s.length side).toNat + i]? = some y -> y = (all.drop (i * 256)).take 256) (s' : List (List Int)) (hl : s'.length = s.length)
  (hq : ∀ q, s'[q]? = if (zB s.length side).toNat + there / 256 <= q /\ q < (zB s.length side).toNat + there / 256 + (clS all.length - there / 256) then some (z1o all (q - (zB s.length side).toNat)) else s[q]?) : Sec s' side all := by
 intro i y hi hy;rw [hl, hq] at hy;have hi' := hi;unfold clS at hi';split at hy
 ·rename_i h1;cases hy;rw [show (zB s.length side).toNat + i - (zB s.length side).toNat = i by omega]
  have := yht (all := all) (more := []) (i := i) (by omega)
  rw [kV] at this;exact this
 ·rename_i h1;rw [h i y (by omega) hy]
  rw [kS, kZ (by omega)]
theorem yjz (h : Dv k x) (hL : x.1 = []) (hx : 6 <= x.2.2.2.2.2.length /\ x.2.2.2.2.2.length <= 5000) {side : Int} (hs : 0 <= side /\ side <= 1) {all : List Int} (hfit : (all.length : Int) <= zt x.2.2.2.2.2.length) (hsec : Sec x.2.2.2.2.2 side all) :
  (z43 x side (clS all.length)).take all.length = all := by
 have hcl : (clS all.length : Int) <= zM x.2.2.2.2.2.length := by unfold clS; unfold zt at hfit; omega
 have key : ∀ n, n <= clS all.length -> (z43 x side n).take all.length = all.take (n * 256) := by
  intro n
  induction n with
  | zero => intro _; rw [show z43 x side 0 = [] from rfl]; simp
  | succ n ih =>
   intro hn;have hb := y6b hx hs (i := n) (by omega)
   have hlen := zcc h hx hs n (by omega)
   have e := kB hb.2;have hy := hsec n _ (by omega) e
   have hnow : z54 x ((zB x.2.2.2.2.2.length side).toNat + n) = x.2.2.2.2.2[(zB x.2.2.2.2.2.length side).toNat + n]'hb.2 := by
    unfold z54;rw [hL, e]; rfl
   have hn' := hn;unfold clS at hn';rw [zqg, km, hlen, hnow, hy, ih (by omega)]
   rw [show (n + 1) * 256 = n * 256 + 256 by omega, List.take_add]
 rw [key _ (kw _), kF];unfold clS; omega
structure Lie (s : List (List Int)) : Prop where
 n : 6 <= s.length /\ s.length <= 5000
 l : ∀ y, y ∈ s -> y.length = 256
 b : ∀ y, y ∈ s -> isB y
def y6q (s : List (List Int)) : Int × Int × Int := z8m (z8m (0, 0, 0) (z0n ((s[0]?).getD []) (zt s.length))) (z0n ((s[1]?).getD []) (zt s.length))
structure Fnd (s : List (List Int)) (t : Int × Int × Int) (all : List Int) : Prop where
 pick : y6q s = t
 ok : OkT t (zt s.length)
 used : t.2.2 = (all.length : Int)
 sec : Sec s t.2.1 all
theorem y0k : ∀ (n : Nat) {l m : List Int}, l.length = n -> m.length = n -> isB l -> isB m -> xt l = xt m -> l = m
 | 0, l, m, h, g, _, _, _ => by rw [kT h, kT g]
 | n + 1, l, m, h, g, hl, hm, e => by
  obtain ⟨l', c, rfl⟩ : ∃ m c, l = m ++ [c] := ⟨l.dropLast, l.getLast (by intro e; rw [e] at h; cases h), (k9 _).symm⟩
  obtain ⟨m', d, rfl⟩ : ∃ m2 c, m = m2 ++ [c] := ⟨m.dropLast, m.getLast (by intro e; rw [e] at g; cases g), (k9 _).symm⟩
  have h1 := hl c (by simp)
  have h2 := hm d (by simp)
  rw [zhe, zhe] at e;have := y0k n (l := l') (m := m') (by simpa using h) (by simpa using g) (fun b hb => hl b (by simp [hb])) (fun b hb => hm b (by simp [hb])) (by omega)
  rw [this, show c = d by omega]
theorem yls {a o : List Int} {n i : Nat} (ha : a.length = 256) (ho : o.length = 256) (hn : n <= 256) (hi : i + 8 <= 256) : ya (a.take n ++ o.drop n) i = (ya a i).take (n - i) ++ (ya o i).drop (n - i) := by
 unfold ya
 by_cases h : n <= i
 ·rw [show n - i = 0 by omega, kz, kJ, kU]
  exact yww ha hn h
 ·by_cases h2 : i + 8 <= n
  ·rw [kF (l := (a.drop i).take 8) (by rw [kC, kK]; omega), kD (show ((o.drop i).take 8).length <= n - i by rw [kC, kK]; omega), kV]
   exact ywx ha hn h2
  ·rw [kP (by rw [kC]; omega), ky, km, kS, kS, kC, kK, kO (by omega : n - i <= a.length - i), ky, ka, kZ (by omega), kO (by omega), show i + (n - i) = n by omega]
theorem ym2 {α : Type} (N M : List α) (a c : Nat) (hN : N.length = 8) (hM : M.length = 8) : N.take c ++ (N.take a ++ M.drop a).drop c = N.take (max a c) ++ M.drop (max a c) := by
 by_cases h : c <= a
 ·rw [Nat.max_eq_left h]
  by_cases h8 : a <= 8
  ·rw [kP (by rw [kC]; omega), <- kh]
   congr 1;have : N.take c = (N.take a).take c := by rw [kS, kO h]
   rw [this, kW]
  ·rw [kF (l := N) (i := a) (by omega), kD (show M.length <= a by omega), kV, kW]
 ·rw [Nat.max_eq_right (by omega), kj, kD (by rw [kC]; omega), kJ, ka, kC]
  by_cases h8 : a <= 8
  ·rw [show a + (c - min a N.length) = c by omega]
  ·rw [kD (by omega), kD (by omega)]
theorem y8u (t : Int × Int × Int) : (yr t).drop 64 = kH 192 0 := by
 have : (z7h ++ xA t.1 ++ (xA t.2.1 ++ xA t.2.2) ++ z7h ++ (xA t.2.1 ++ xA t.2.2) ++ xA t.1).length = 64 := by simp only [kE, vX, y64]
 unfold yr;rw [<- this, kx]
structure Old (o : List Int) (n : Int) : Prop where
 l : o.length = 256
 b : isB o
 z : o.drop 64 = kH 192 0
 m : ∃ (M : List Int) (a b : Nat), M.length = 8 /\ isB M /\ xt M < n - 1 /\ a <= 8 /\ b <= 7 /\ (0 < b -> a = 8) /\ M[7]? ≠ (xA n)[7]? /\ ya o 8 = (xA n).take a ++ M.drop a /\ ya o 56 = (xA n).take b ++ M.drop b
theorem Old.right {o : List Int} {n room : Int} (h : Old o n) (hn : 2 <= n) : (z0n o room).1 < n - 1 := by
 obtain ⟨M, a, b, h1, h2, h3, h4, h5, h6, h7, h8, h9⟩ := h.m;have hN := vX n
 by_cases hq : y1d o room
 ·rw [zw2 hq];have hc : ya o 56 = ya o 8 := y0k 8 (by unfold ya; simp [h.l]) (by unfold ya; simp [h.l]) ((h.b.drop _).take _) ((h.b.drop _).take _) hq.2.2.2.1
  have ha : a ≠ 8 := by
   intro e;subst e;rw [h8, h9, kD (show M.length <= 8 by omega), kV, kF (show (xA n).length <= 8 by omega)] at hc
   apply h7;rw [<- hc, List.getElem?_append_right (by rw [kC]; omega), List.getElem?_drop, kC]
   congr 1;omega
  have hb : b = 0 := by
   by_cases hb : b = 0
   ·exact hb
   ·exact absurd (h6 (by omega)) ha
  subst hb;show xt (ya o 8) < _;rw [<- hc, h9, kz, kJ, kU];exact h3
 ·rw [qI hq];show (0 : Int) < _;omega
theorem Old.mix {o : List Int} {t' : Int × Int × Int} (h : Old o t'.1) (hk : k <= 63) : Old (zb2 t' o k) t'.1 := by
 obtain ⟨M, a, b, h1, h2, h3, h4, h5, h6, h7, h8, h9⟩ := h.m;obtain ⟨c0, c8, c16, c24, c32, cA, cB, c56⟩ := zrg t';have hN := vX t'.1;refine ⟨ym1 h.l k (by omega), ((z3i t').take k).app (h.b.drop k), ?_, M, max a (min 8 (k - 8)), max b (k - 56), h1, h2, h3, by omega, by omega, fun h0 => ?_, h7, ?_, ?_⟩
 ·unfold zb2;rw [kj, kD (by rw [kC]; omega), kJ, ka, kC, z2e, <- h.z]
  congr 1;omega
 ·by_cases hb : 0 < b
  ·have := h6 hb; omega
  ·omega
 ·unfold zb2;rw [yls (z2e t') h.l (by omega) (by omega), c8, h8, ym2 _ _ _ _ hN h1]
  by_cases hc : k - 8 <= 8
  ·rw [kZ hc]
  ·rw [kF (by omega), kF (by omega), kD (by omega), kD (by omega)]
 ·unfold zb2;rw [yls (z2e t') h.l (by omega) (by omega), c56, h9, ym2 _ _ _ _ hN h1]
theorem Old.whole {o : List Int} {t' : Int × Int × Int} (h : Old o t'.1) (hk : 64 <= k /\ k <= 256) : zb2 t' o k = yr t' := by
 unfold zb2;have e : o.drop k = (yr t').drop k := by
  rw [show k = 64 + (k - 64) by omega, <- ka, <- ka, h.z, y8u]
 rw [e, kW]
theorem y50 (n : Int) : (xA n)[7]? = some (n % 256) := by
 unfold xA zac dig;simp
theorem Old.tally {t : Int × Int × Int} (h : 1 <= t.1 /\ t.1 < 18446744073709551616) : Old (yr t) (t.1 + 2) := by
 obtain ⟨c0, c8, c16, c24, c32, cA, cB, c56⟩ := zrg t;refine ⟨z2e t, z3i t, y8u t, xA t.1, 0, 0, vX _, zds _, ?_, by omega, by omega, fun h => absurd h (by omega), ?_, ?_, ?_⟩
 ·rw [znt (by omega)]; omega
 ·rw [y50, y50];intro e;have := Option.some.inj e;omega
 ·rw [c8]; rfl
 ·rw [c56]; rfl
theorem Old.zero : Old (kH 256 0) 2 := by
 have e : ∀ i, i + 8 <= 256 -> ya (kH 256 0) i = kH 8 0 := fun i hi => by
  unfold ya;rw [kq, List.take_replicate, kO (by omega)]
 refine ⟨kG, zlq 256, by rw [kq], kH 8 0, 0, 0, kG, zlq 8, by decide, by omega, by omega, fun h => absurd h (by omega), ?_, ?_, ?_⟩
 ·rw [y50]; decide
 ·rw [e 8 (by omega)]; rfl
 ·rw [e 56 (by omega)]; rfl
structure St (s : List (List Int)) (t : Int × Int × Int) (all : List Int) : Prop where
 ok : OkT t (zt s.length)
 used : t.2.2 = (all.length : Int)
 here : s[(t.1 % 2).toNat]? = some (yr t)
 old : ∃ o, s[((t.1 + 1) % 2).toNat]? = some o /\ Old o (t.1 + 1)
 sec : Sec s t.2.1 all
theorem ysc {a b : Int × Int × Int} (h : b.1 < a.1) : z8m a b = a := if_neg (by omega)
theorem yhr {a b : Int × Int × Int} (h : a.1 < b.1) : z8m a b = b := if_pos h
theorem yvq {s : List (List Int)} {t : Int × Int × Int} {a o : List Int} (h1 : 1 <= t.1) (ha : s[(t.1 % 2).toNat]? = some a) (ho : s[((t.1 + 1) % 2).toNat]? = some o) (e : z0n a (zt s.length) = t) (hlt : (z0n o (zt s.length)).1 < t.1) : y6q s = t := by
 unfold y6q;rcases (show t.1 % 2 = 0 \/ t.1 % 2 = 1 by omega) with h | h
 ·have h2 : (t.1 + 1) % 2 = 1 := by omega
  rw [h] at ha; rw [h2] at ho;rw [show (0 : Int).toNat = 0 from rfl] at ha
  rw [show (1 : Int).toNat = 1 from rfl] at ho
  rw [ha, ho, kL, kL, e, yhr (a := (0, 0, 0)) (by show (0 : Int) < t.1; omega), ysc hlt]
 ·have h2 : (t.1 + 1) % 2 = 0 := by omega
  rw [h] at ha; rw [h2] at ho;rw [show (1 : Int).toNat = 1 from rfl] at ha
  rw [show (0 : Int).toNat = 0 from rfl] at ho
  rw [ha, ho, kL, kL, e, yhr];unfold z8m;split
  ·exact hlt
  ·show (0 : Int) < t.1; omega
theorem St.fnd {s : List (List Int)} {t : Int × Int × Int} {all : List Int} (h : St s t all) : Fnd s t all := by
 obtain ⟨o, h1, h2⟩ := h.old;have ho := h.ok.1;have := h2.right (room := zt s.length) (by omega)
 exact ⟨yvq h.ok.1 h.here h1 (yle h.ok) (by omega), h.ok, h.used, h.sec⟩
def Kp (s : List (List Int)) (side : Int) (all : List Int) (q : Nat) (y : List Int) : Prop :=
 y.length = 256 /\ isB y /\ (q < 2 -> s[q]? = some y) /\ (∀ i, i < clS all.length -> q = (zB s.length side).toNat + i -> y.take (all.length - i * 256) = (all.drop (i * 256)).take 256)
theorem Kp.self {s : List (List Int)} {side : Int} {all : List Int} (h : Lie s) (hs : Sec s side all) {q : Nat} {y : List Int} (hq : s[q]? = some y) : Kp s side all q y :=
 ⟨h.l y (kb hq), h.b y (kb hq), fun _ => hq, fun i hi e => hs i y hi (by rw [<- e]; exact hq)⟩
theorem Kp.lie {s s' : List (List Int)} {side : Int} {all : List Int} (h : Lie s) (hl : s'.length = s.length) (hk : ∀ q y, s'[q]? = some y -> Kp s side all q y) : Lie s' where
 n := by rw [hl]; exact h.n
 l y hy := by
  obtain ⟨q, hq, rfl⟩ := List.mem_iff_getElem.1 hy;exact (hk q _ (kB hq)).1
 b y hy := by
  obtain ⟨q, hq, rfl⟩ := List.mem_iff_getElem.1 hy;exact (hk q _ (kB hq)).2.1
theorem Kp.low {s s' : List (List Int)} {side : Int} {all : List Int} (h : Lie s) (hl : s'.length = s.length) (hk : ∀ q y, s'[q]? = some y -> Kp s side all q y) {q : Nat} (hq : q < 2) : s'[q]? = s[q]? := by
 have hn := h.n;have hlt : q < s'.length := by omega
 have e := kB hlt;rw [e, (hk q _ e).2.2.1 hq]
theorem Kp.sec {s s' : List (List Int)} {side : Int} {all : List Int} (hl : s'.length = s.length) (hk : ∀ q y, s'[q]? = some y -> Kp s side all q y) : Sec s' side all := fun i y hi hy => by
 rw [hl] at hy;exact (hk _ y hy).2.2.2 i hi rfl
theorem Kp.pick {s s' : List (List Int)} {side : Int} {all : List Int} (h : Lie s) (hl : s'.length = s.length) (hk : ∀ q y, s'[q]? = some y -> Kp s side all q y) : y6q s' = y6q s := by
 unfold y6q;rw [Kp.low h hl hk (by omega), Kp.low h hl hk (by omega), hl]
theorem Kp.st {s s' : List (List Int)} {t : Int × Int × Int} {all : List Int} (h : Lie s) (hst : St s t all) (hl : s'.length = s.length) (hk : ∀ q y, s'[q]? = some y -> Kp s t.2.1 all q y) : St s' t all :=
 ⟨by rw [hl]; exact hst.ok, hst.used, by rw [Kp.low h hl hk (by omega)]; exact hst.here, by rw [Kp.low h hl hk (by omega)]; exact hst.old, Kp.sec hl hk⟩
structure May (t : Int × Int × Int) (all : List Int) (side' : Int) (there : Nat) (all' : List Int) : Prop where
 b : isB all'
 n : t.1 < 4611686018427387904
 how : (side' = t.2.1 /\ there = all.length /\ ∃ more, all' = all ++ more) \/ (side' = 1 - t.2.1 /\ there = 0)
theorem May.torn {s : List (List Int)} {t : Int × Int × Int} {all : List Int} {side' : Int} {there : Nat} {all' : List Int} (hlie : Lie s) (hst : St s t all) (hm : May t all side' there all') (hfit : (all'.length : Int) <= zt s.length)
  {j n : Nat} (h1 : there / 256 <= j) (h2 : j < clS all'.length) (hn : n <= 256) {y : List Int} (hy : Kp s t.2.1 all (zB s.length side' + (j : Int)).toNat y) : Kp s t.2.1 all (zB s.length side' + (j : Int)).toNat ((z1o all' j).take n ++ y.drop n) := by
 obtain ⟨k1, k2, k3, k4⟩ := hy;have hx := hlie.n;obtain ⟨t1, t2, t3, t4, t5, t6, t7⟩ := hst.ok;have hu := hst.used;have hsec : 0 <= zM s.length /\ zM s.length <= 2500 := by unfold zM; omega
 have hcl' : (clS all'.length : Int) <= zM s.length := by unfold clS; unfold zt at hfit; omega
 refine ⟨?_, (zzp hm.b j).take n |>.app (k2.drop n), ?_, ?_⟩
 ·rw [kE, kC, kK, zh1, k1]; omega
 ·intro hq;exfalso;have : 2 <= zB s.length side' := by
   unfold zB;rcases hm.how with ⟨e, _⟩ | ⟨e, _⟩ <;> rcases (show t.2.1 = 0 \/ t.2.1 = 1 by omega) with e2 | e2 <;> rw [e, e2] <;> simp <;> omega
  omega
 ·intro i hi hq;have hcl : (clS all.length : Int) <= zM s.length := by unfold clS; unfold zt at t6; omega
  rcases hm.how with ⟨e, e3, more, e4⟩ | ⟨e, _⟩
  ·have hij : i = j := by
    rw [e] at hq;have : 0 <= zB s.length t.2.1 := by unfold zB; rcases (show t.2.1 = 0 \/ t.2.1 = 1 by omega) with e2 | e2 <;> rw [e2] <;> simp <;> omega
    omega
   subst hij;have hi' := hi;unfold clS at hi';refine yt4 (zh1 _ _) ?_ (k4 i hi hq) hn;rw [e4];exact yht (by omega)
  ·exfalso;unfold zB at hq;rcases (show t.2.1 = 0 \/ t.2.1 = 1 by omega) with e2 | e2
   ·rw [e, e2] at hq;simp at hq;omega
   ·rw [e, e2] at hq;simp at hq;omega
theorem yq2 {s : List (List Int)} {p : Nat} {o : List Int} (h : s[p]? = some o) : (s[p]?).getD [] = o := by rw [h]; rfl
theorem y1n {s : List (List Int)} {t t' : Int × Int × Int} {all' : List Int} (hlie : Lie s) (hok : OkT t (zt s.length)) (here : s[(t.1 % 2).toNat]? = some (yr t))
  (hn : t'.1 = t.1 + 1) (hok' : OkT t' (zt s.length)) (hu' : t'.2.2 = (all'.length : Int)) (hsec' : Sec s t'.2.1 all') :
  Lie (s.set (t'.1 % 2).toNat (yr t')) /\ St (s.set (t'.1 % 2).toNat (yr t')) t' all' := by
 have hx := hlie.n;have hp : (t'.1 % 2).toNat < s.length := by omega
 have hlen : (s.set (t'.1 % 2).toNat (yr t')).length = s.length := kR;have hsame : ∀ q, 2 <= q -> (s.set (t'.1 % 2).toNat (yr t'))[q]? = s[q]? := fun q hq => by rw [zhm _ _ _ _ hp, if_neg (by omega)]
 obtain ⟨c0, c8, c16, c24, c32, cA, cB, c56⟩ := zrg t;obtain ⟨t1, t2, t3, t4, t5, t6, t7⟩ := hok;have g3 : (t'.1 + 1) % 2 = t.1 % 2 := by omega
 refine ⟨⟨by rw [hlen]; exact hx, fun y hy => ?_, fun y hy => ?_⟩, ⟨by rw [hlen]; exact hok', hu', ki hp, ⟨yr t, ?_, by rw [hn, show t.1 + 1 + 1 = t.1 + 2 by omega]; exact Old.tally (by omega)⟩, fun i y hi hy => ?_⟩⟩
 ·rcases kI hy with h | h
  ·exact hlie.l y h
  ·rw [h]; exact z2e _
 ·rcases kI hy with h | h
  ·exact hlie.b y h
  ·rw [h]; exact z3i _
 ·rw [g3, zhm _ _ _ _ hp, if_neg (by omega), here]
 ·rw [hlen] at hy;have : 2 <= zB s.length t'.2.1 := by
   have hsec : 0 <= zM s.length := by unfold zM; omega
   unfold zB; rcases (show t'.2.1 = 0 \/ t'.2.1 = 1 by have := hok'.2.2.1; have := hok'.2.2.2.1; omega) with e2 | e2 <;> rw [e2] <;> simp <;> omega
  rw [hsame _ (by omega)] at hy
  exact hsec' i y hi hy
theorem yrw {s : List (List Int)} {t t' : Int × Int × Int} {all all' : List Int} (hlie : Lie s) (hst : St s t all) (hn : t'.1 = t.1 + 1) (hok' : OkT t' (zt s.length)) (hu' : t'.2.2 = (all'.length : Int)) (hsec' : Sec s t'.2.1 all') (k : Nat) (hk : k <= 256) {o : List Int} (ho : s[((t.1 + 1) % 2).toNat]? = some o) :
  Lie (s.set (t'.1 % 2).toNat (zb2 t' o k)) /\ (St (s.set (t'.1 % 2).toNat (zb2 t' o k)) t all \/ St (s.set (t'.1 % 2).toNat (zb2 t' o k)) t' all') := by
 have hx := hlie.n;have hok := hst.ok;have here := hst.here;obtain ⟨o2, ho2, hold⟩ := hst.old;have e2 : o2 = o := Option.some.inj (ho2.symm.trans ho);subst e2;rw [<- hn] at hold
 by_cases hk2 : 64 <= k
 ·rw [hold.whole ⟨hk2, hk⟩];have := y1n hlie hok here hn hok' hu' hsec';exact ⟨this.1, .inr this.2⟩
 have hol := hold.l;have hob := hold.b;have hp : (t'.1 % 2).toNat < s.length := by omega
 have hlen : (s.set (t'.1 % 2).toNat (zb2 t' o2 k)).length = s.length := kR;have hml := ym1 (t := t') hol k hk;have hmb : isB (zb2 t' o2 k) := ((z3i t').take k).app (hob.drop k);have hsame : ∀ q, 2 <= q -> (s.set (t'.1 % 2).toNat (zb2 t' o2 k))[q]? = s[q]? := fun q hq => by rw [zhm _ _ _ _ hp, if_neg (by omega)]
 refine ⟨⟨by rw [hlen]; exact hx, fun y hy => ?_, fun y hy => ?_⟩, .inl ⟨by rw [hlen]; exact hok, hst.used, by rw [zhm _ _ _ _ hp, if_neg (by omega), here], ⟨zb2 t' o2 k, ?_, ?_⟩, fun i y hi hy => ?_⟩⟩
 ·rcases kI hy with h | h
  ·exact hlie.l y h
  ·rw [h]; exact hml
 ·rcases kI hy with h | h
  ·exact hlie.b y h
  ·rw [h]; exact hmb
 ·rw [<- hn]; exact ki hp
 ·rw [<- hn]; exact hold.mix (by omega)
 ·rw [hlen] at hy;have : 2 <= zB s.length t.2.1 := by
   have hsec : 0 <= zM s.length := by unfold zM; omega
   unfold zB; rcases (show t.2.1 = 0 \/ t.2.1 = 1 by have := hok.2.2.1; have := hok.2.2.2.1; omega) with e2 | e2 <;> rw [e2] <;> simp <;> omega
  rw [hsame _ (by omega)] at hy
  exact hst.sec i y hi hy
theorem y63 {s : List (List Int)} (hx : 6 <= s.length) (left : Int) (c : List Int × Int × Int) (nn : Int) (h : -1 <= left) (t : Int × Int × Int) (ht : 0 <= t.1) :
  (∃ left', xk ([], left, c, nn, false, s) t = (0, ([], left', c, nn + 2, false, s.set (t.1 % 2).toNat (yr t))) /\ -1 <= left' /\ left' <= left /\ (left < 0 -> left' = left)) \/
  (0 <= left /\ ∃ k nn', k <= 256 /\ nn' <= nn + 2 /\ xk ([], left, c, nn, false, s) t = (6, ([], -1, c, nn', true, s.set (t.1 % 2).toNat (zb2 t ((s[(t.1 % 2).toNat]?).getD []) k)))) := by
 have hk := zu5 c 0;have hcut : z7m c [(t.1 % 2, yr t)] 0 s = s.set (t.1 % 2).toNat (zb2 t ((s[(t.1 % 2).toNat]?).getD []) (vA c 0).toNat) := rfl;unfold xk;rcases yg8 [] left c nn s h (i := t.1 % 2) (b := yr t) (by omega) (z2e t) with ⟨left', e, g1, g2, g3⟩ | ⟨g1, e⟩
 ·rw [e];simp only [if_true, kJ];rcases y7t [(t.1 % 2, yr t)] left' c (nn + 1) s g1 with ⟨left2, e2, k1, k2, k3⟩ | ⟨k1, e2⟩
  ·refine .inl ⟨left2, ?_, k1, by omega, fun hl => by rw [k3 (by have := g3 hl; omega), g3 hl]⟩
   rw [e2];simp only [jk];congr 5;omega
  ·refine .inr ⟨by omega, (vA c 0).toNat, nn + 1 + 1, by omega, by omega, ?_⟩
   rw [e2, hcut]
 ·refine .inr ⟨g1, (vA c 0).toNat, nn + 1, by omega, by omega, ?_⟩
  rw [e];simp only [kJ];rw [if_neg (by decide), hcut]
theorem yq7 {s : List (List Int)} {t : Int × Int × Int} {all : List Int} (hlie : Lie s) (hst : St s t all) {side' : Int} {there : Nat} {all' : List Int} (hm : May t all side' there all') (left : Int) (c : List Int × Int × Int) (nn : Int) (hleft : -1 <= left) (cn count : Int) :
  (layJ ([], left, c, nn, false, s) (t, all, cn, false) side' there all' count = (5, (t, all, cn, false), ([], left, c, nn, false, s)) /\ zt s.length < all'.length) \/
  (∃ left' nn' s', layJ ([], left, c, nn, false, s) (t, all, cn, false) side' there all' count = (0, ((t.1 + 1, side', (all'.length : Int)), all', count, false), ([], left', c, nn', false, s')) /\ s'.length = s.length /\ Lie s' /\ St s' (t.1 + 1, side', (all'.length : Int)) all' /\ (all'.length : Int) <= zt s.length /\ -1 <= left' /\ (left < 0 -> left' = left)) \/
  (0 <= left /\ ∃ nn' s', layJ ([], left, c, nn, false, s) (t, all, cn, false) side' there all' count = (6, (t, all, cn, true), ([], -1, c, nn', true, s')) /\ s'.length = s.length /\ Lie s' /\ (St s' t all \/ St s' (t.1 + 1, side', (all'.length : Int)) all')) := by
 have hx := hlie.n;obtain ⟨t1, t2, t3, t4, t5, t6, t7⟩ := hst.ok;have hu := hst.used;have hsecN : 0 <= zM s.length /\ zM s.length <= 2500 /\ 2 + 2 * zM s.length <= s.length := by unfold zM; omega
 have hside : 0 <= side' /\ side' <= 1 := by rcases hm.how with ⟨e, _⟩ | ⟨e, _⟩ <;> omega
 by_cases hroom : zt s.length < all'.length
 ·refine .inl ⟨?_, hroom⟩;unfold layJ;rw [if_pos (.inr hroom)]
 ·refine .inr ?_;have hfit : (all'.length : Int) <= zt s.length := by omega
  have hcl' : (clS all'.length : Int) <= zM s.length := by unfold clS; unfold zt at hfit; omega
  have hbase : 2 <= zB s.length side' /\ zB s.length side' + zM s.length <= s.length := by
   unfold zB; rcases (show side' = 0 \/ side' = 1 by omega) with e2 | e2 <;> rw [e2] <;> simp <;> omega
  have hth : there <= all'.length := by
   rcases hm.how with ⟨_, e, more, e4⟩ | ⟨_, e⟩
   ·rw [e4, kE]; omega
   ·omega
  have hi0 : there / 256 <= clS all'.length := by unfold clS; omega
  have hok' : OkT (t.1 + 1, side', (all'.length : Int)) (zt s.length) := ⟨by simp only; omega, by have := hm.n; simp only; omega, hside.1, hside.2, by simp only; omega, hfit, t7⟩
  obtain ⟨o, ho, hold⟩ := hst.old;have torn : ∀ (m : Nat), m <= clS all'.length - there / 256 -> (z7m c (blocks (zB s.length side') all' m (there / 256)) 0 s).length = s.length /\ ∀ q y, (z7m c (blocks (zB s.length side') all' m (there / 256)) 0 s)[q]? = some y -> Kp s t.2.1 all q y := fun m hmle => by
   refine ⟨zzu _ _ _ _, yf0 (Kp s t.2.1 all) c _ 0 s (fun w hw => ?_) (fun w hw n y hn hy => ?_) fun q y hq => Kp.self hlie hst.sec hq⟩
   ·obtain ⟨j, j1, j2, rfl⟩ := y0j _ _ hw;simp only; omega
   ·obtain ⟨j, j1, j2, rfl⟩ := y0j _ _ hw;exact May.torn hlie hst hm hfit j1 (by omega) hn hy
  have lost : ∀ (m : Nat) (nn' : Int), m <= clS all'.length - there / 256 -> layJ ([], left, c, nn, false, s) (t, all, cn, false) side' there all' count = (6, (t, all, cn, true), ([], -1, c, nn', true, z7m c (blocks (zB s.length side') all' m (there / 256)) 0 s)) ->
    ∃ nn' s', layJ ([], left, c, nn, false, s) (t, all, cn, false) side' there all' count = (6, (t, all, cn, true), ([], -1, c, nn', true, s')) /\ s'.length = s.length /\ Lie s' /\ (St s' t all \/ St s' (t.1 + 1, side', (all'.length : Int)) all') := fun m nn' hmle e => by
   obtain ⟨q1, q2⟩ := torn m hmle;exact ⟨nn', _, e, q1, Kp.lie hlie q1 q2, .inl (Kp.st hlie hst q1 q2)⟩
  have head : ¬ (t.1 = 4611686018427387904 \/ zt s.length < all'.length) := by have := hm.n; omega
  rcases yis (base := zB s.length side') (all := all') (c := c) (s := s) (clS all'.length - there / 256) (there / 256) [] left nn hleft (by omega) (by omega) with ⟨left1, e1, a1, a2, a3⟩ | ⟨a1, m, nn1, a2, a3, e1⟩
  ·rcases y7t ([] ++ blocks (zB s.length side') all' (clS all'.length - there / 256) (there / 256)) left1 c (nn + ((clS all'.length - there / 256 : Nat) : Int)) s a1 with ⟨left2, e2, b1, b2, b3⟩ | ⟨b1, e2⟩
   ·-- all the data are sure
    generalize hs1 : jk ([] ++ blocks (zB s.length side') all' (clS all'.length - there / 256) (there / 256)) s = s1 at *;have hget : ∀ q, s1[q]? = if (zB s.length side').toNat + there / 256 <= q /\ q < (zB s.length side').toNat + there / 256 + (clS all'.length - there / 256) then some (z1o all' (q - (zB s.length side').toNat)) else s[q]? := fun q => by
     rw [<- hs1, kJ];exact y8t (by omega) _ _ _ (by omega) q
    have hl1 : s1.length = s.length := by rw [<- hs1]; exact zwb _ _
    have hkp : ∀ q y, s1[q]? = some y -> Kp s t.2.1 all q y := fun q y hy => by
     rw [hget] at hy;split at hy
     ·rename_i hq;cases hy;have hlt : q < s.length := by omega
      have hself := Kp.self hlie hst.sec (kB hlt);have eq : (zB s.length side' + ((q - (zB s.length side').toNat : Nat) : Int)).toNat = q := by omega
      have := May.torn hlie hst hm hfit (j := q - (zB s.length side').toNat) (n := 256) (by omega) (by omega) (kw _) (by rw [eq]; exact hself)
      rw [eq, kF (by rw [zh1]; omega), kD (by rw [hself.1]; omega), kV] at this
      exact this
     ·exact Kp.self hlie hst.sec hy
    have hlie1 := Kp.lie hlie hl1 hkp;have hsec1 : Sec s1 side' all' := by
     refine yu1 hx hside hfit hth (fun i y hi hy => ?_) s1 hl1 hget
     rcases hm.how with ⟨e, e3, more, e4⟩ | ⟨_, e⟩
     ·rw [e] at hy;have hi2 : i < clS all.length := by unfold clS; omega
      have := hst.sec i y hi2 hy;have hyl := hlie.l y (kb hy);rw [kF (by omega)] at this
      rw [this, e4, kP (by omega), kQ (by rw [kK]; omega)]
     ·omega
    have hhere : s1[(t.1 % 2).toNat]? = some (yr t) := by rw [Kp.low hlie hl1 hkp (by omega)]; exact hst.here
    have ho1 : s1[((t.1 + 1) % 2).toNat]? = some o := by rw [Kp.low hlie hl1 hkp (by omega)]; exact ho
    have hsec0 : Sec s1 t.2.1 all := Kp.sec hl1 hkp;rcases y63 (s := s1) (by omega) left2 c (nn + ((clS all'.length - there / 256 : Nat) : Int) + 1) b1 (t.1 + 1, side', (all'.length : Int)) (by simp only; omega) with ⟨left3, e3, c1, c2, c3⟩ | ⟨c1, k, nn3, c2, c3, e3⟩
    ·refine .inl ⟨left3, nn + ((clS all'.length - there / 256 : Nat) : Int) + 1 + 2, s1.set ((t.1 + 1) % 2).toNat (yr (t.1 + 1, side', (all'.length : Int))), ?_, by rw [kR, hl1], (y1n hlie1 (by rw [hl1]; exact hst.ok) hhere rfl (by rw [hl1]; exact hok') rfl hsec1).1, (y1n hlie1 (by rw [hl1]; exact hst.ok) hhere rfl (by rw [hl1]; exact hok') rfl hsec1).2, hfit, c1, fun hl => by rw [c3 (by have := b3 (by have := a3 hl; omega); have := a3 hl; omega), b3 (by have := a3 hl; omega), a3 hl]⟩
     unfold layJ;rw [if_neg head];simp only;rw [e1];simp only;rw [if_neg (by simp), e2]
     simp only;rw [if_neg (by simp), e3]
     simp only;rw [if_neg (by simp)]
    ·have hT := yrw hlie1 (Kp.st hlie hst hl1 hkp) (t' := (t.1 + 1, side', (all'.length : Int))) rfl (by rw [hl1]; exact hok') rfl hsec1 k c2 ho1
     refine .inr ⟨by omega, nn3, s1.set ((t.1 + 1) % 2).toNat (zb2 (t.1 + 1, side', (all'.length : Int)) o k), ?_, by rw [kR, hl1], hT.1, hT.2⟩
     simp only at e3;rw [yq2 ho1] at e3;unfold layJ;rw [if_neg head];simp only;rw [e1];simp only;rw [if_neg (by simp), e2]
     simp only;rw [if_neg (by simp), e3]
     simp only;rw [if_pos (by simp)]
   ·refine .inr ⟨by omega, lost (clS all'.length - there / 256) (nn + ((clS all'.length - there / 256 : Nat) : Int) + 1) (kw _) ?_⟩
    unfold layJ;rw [if_neg head];simp only;rw [e1];simp only;rw [if_neg (by simp), e2]
    simp only;rw [if_pos (by simp)]
    rfl
  ·refine .inr ⟨a1, lost m nn1 a2 ?_⟩;unfold layJ;rw [if_neg head];simp only;rw [e1];simp only;rw [if_pos (by simp)]
   rfl
theorem Dv.layJ {k : Nat} {x : zC} (h : Dv k x) (hk : k <= 90000) {j : JT} {side : Int} {there : Nat} {all : List Int} (hb : isB all) (count : Int) (hx : x.2.2.2.2.2.length <= 150) : Dv (k + 100) (layJ x j side there all count).2.2 := by
 unfold Go.Proofs.Ytpfjfldagldgnaa.layJ;split
 ·exact h.mono (by omega) (by omega)
 ·rename_i h1;have hroom : (all.length : Int) <= zt x.2.2.2.2.2.length := by
   by_cases hh : zt x.2.2.2.2.2.length < all.length
   ·exact absurd (.inr hh) h1
   ·omega
  have hcl : clS all.length <= 75 := by unfold clS; unfold zt zM at hroom; omega
  have hd := Dv.lay (base := zB x.2.2.2.2.2.length side) hb (clS all.length - there / 256) (there / 256) h (by omega)
  split
  ·exact hd.mono (by omega) (by omega)
  ·have hd2 := hd.barrier (by omega)
   split
   ·exact hd2.mono (by omega) (by omega)
   ·have hd3 := hd2.tell (by omega) (j.1.1 + 1, side, all.length)
    split
    ·exact hd3.mono (by omega) (by omega)
    ·exact hd3.mono (by omega) (by omega)
end Go.Proofs.Ytpfjfldagldgnaa
