import Derived.Test.YtpfjfldagldgnaaJrRtoJrA7
open Option renaming bind_some → kA, bind → kO
open List renaming replicate → kB, length_append → kE, getElem_mem → kF, getElem?_eq_getElem → kG, append_assoc → kJ, drop_eq_getElem_cons → kM, take_of_length_le → kN, length_take → kQ, length_replicate → kR, length_nil → kS, length → kT, take_length → kU, foldl_cons → kV
open Int renaming tdiv_eq_ediv_of_nonneg → kC, tmod_eq_emod_of_nonneg → kD, toNat_natCast → kH, fdiv_eq_ediv_of_nonneg → kK, lt_irrefl → kL, tmod → kW
open Bool renaming false_eq_true → kI, not_true → kP
open Nat renaming le_refl → kY
set_option maxRecDepth 100000
set_option linter.unusedSimpArgs false
set_option linter.unusedVariables false
namespace Go.Proofs.Ytpfjfldagldgnaa
open Go.Tm Go.Ab
abbrev zwd := List (List Int) × List (Int × List Int) × Int × (List Int × Int × Int) × Int × Bool
theorem yj6 (i : Int) (b : List Int) (k : Int) : ∀ (l : List (Int × List Int)) (x : List Int), z28 (l ++ [(i, b)]) k x = if i = k then b else z28 l k x
 | [], x => by simp [z28]
 | w :: ws, x => by
  simp only [List.cons_append, z28];exact yj6 i b k ws _
theorem yka : ∀ (l : List (Int × List Int)) (s : List (List Int)) (k : Nat), (∀ w, w ∈ l -> 0 <= w.1) -> k < s.length -> (jk l s)[k]? = some (z28 l (k : Int) ((s[k]?).getD []))
 | [], s, k, _, hk => by simp [jk, z28, hk]
 | w :: ws, s, k, hw, hk => by
  simp only [jk, z28];have h0 := hw w (by simp)
  rw [yka ws _ k (fun v hv => hw v (by simp [hv])) (by rw [List.length_set]; exact hk)]
  by_cases h : w.1 = (k : Int)
  ·rw [if_pos h, h, kH, List.getElem?_set_self hk]; rfl
  ·rw [if_neg h, List.getElem?_set_ne (by omega)]
def zxc : List Int := kB 256 0
theorem yw9 (d : zwd) (i : Int) (h : d.1.length < 1000000) : zvr d i = some (z9b d.2.2.2.2.2 d.1.length i) := by
 unfold zvr z9b;cases d.2.2.2.2.2 with
 | true => rfl
 | false =>
  simp only [cond_false, kI, if_false]
  by_cases h0 : i < 0
  ·rw [zY h0, if_neg (by omega)]; rfl
  ·rw [zP h0, zi (by omega)]
   by_cases h1 : i < d.1.length
   ·rw [yhc (by omega), if_pos (by omega)]; rfl
   ·rw [z3g (by omega), if_neg (by omega)]; rfl
theorem yjr (l : List Int) (n : Int) (hl : l.length < 1000000) : ∀ (k i : Nat), i + k = l.length -> zb qt (l, n, (i : Int)) = some (if n ∈ l.drop i then .inr true else .inl ())
 | 0, i, h => by
  rw [zL, show qt (l, n, (i : Int)) = z2c l n (i : Int) from rfl]
  unfold z2c;rw [zi (by omega), zP (by omega), List.drop_eq_nil_of_le (by omega), if_neg (by simp)]
  rfl
 | k + 1, i, h => by
  have hi : i < l.length := by omega
  rw [zL, show qt (l, n, (i : Int)) = z2c l n (i : Int) from rfl]
  unfold z2c;rw [zi (by omega), zY (by omega), z3l hi, kM hi]
  simp only [kA, cond_true]
  by_cases hx : l[i] = n
  ·rw [ql hx, if_pos (by rw [hx]; simp)]; rfl
  ·rw [z00 hx];simp only [cond_false, kA, Sum.elim_inl];rw [zo (by omega), show ((i : Int) + 1) = ((i + 1 : Nat) : Int) by simp, yjr l n hl k (i + 1) (by omega)]
   have : (n ∈ l[i] :: l.drop (i + 1)) = (n ∈ l.drop (i + 1)) := by
    rw [List.mem_cons]; simp; intro e; exact absurd e.symm hx
   simp only [this]
theorem yci (l : List Int) (n : Int) (hl : l.length < 1000000) : zjv l n = some (decide (n ∈ l)) := by
 unfold zjv;have := yjr l n hl l.length 0 (by omega)
 rw [show ((0 : Nat) : Int) = 0 from rfl] at this
 rw [this, List.drop_zero]
 by_cases h : n ∈ l
 ·rw [if_pos h]; simp [h]
 ·rw [if_neg h]; simp [h]
theorem yjx (l : List (List Int)) (i : Int) (s : List Int) (hl : l.length < 1000000) (hi : 0 <= i /\ i < l.length) : zdu l i s = some (l.set i.toNat s) := by
 unfold zdu;rw [xS (by simp; omega), yhb hi, kG (show i.toNat < l.length by omega)]
 simp only [cond_true, kA];rw [z4h _ _ (by rw [List.length_set])]
theorem yff (d : zwd) (c : List Int × Int × Int) (t : zwd) (hl : d.2.1.length < 1000000) (hc : c.1.length < 1000000) :
  ∀ (k i : Nat) (s : List (List Int)), i + k = d.2.1.length -> OkD d.2.1 s -> s.length < 1000000 ->
   zb xg ((i : Int), (s, d.2), c, t) = some ((z7m c (d.2.1.drop i) i s, d.2), t)
 | 0, i, s, h, ok, hs => by
  rw [zL, show xg ((i : Int), (s, d.2), c, t) = vP (i : Int) (s, d.2) c t from rfl]
  unfold vP;rw [zi (by simp only; omega), zP (by simp only; omega), List.drop_eq_nil_of_le (by omega)]
  rfl
 | k + 1, i, s, h, ok, hs => by
  have hi : i < d.2.1.length := by omega
  have hw := ok.w _ (kF hi);have hlt : d.2.1[i].1.toNat < s.length := by omega
  have hsl := ok.s _ (kF hlt);have ht := zu5 c i;rw [zL, show xg ((i : Int), (s, d.2), c, t) = vP (i : Int) (s, d.2) c t from rfl]
  unfold vP;rw [zi (by simp only; omega), zY (by simp only; omega), z3l (l := (s, d.2).2.1) hi, kM hi]
  simp only [kA, cond_true];generalize d.2.1[i] = w at hw hlt hsl ⊢;have hj : ((bif eqI c.2.1 (i : Int) then some ((i : Int), zdp 0 (y4w c.2.2 256), (s, d.2), c, t, w) else some ((i : Int), (0 : Int), (s, d.2), c, t, w)).bind fun j =>
    (zjv j.2.2.2.1.1 j.1).bind fun r =>
    bif r then
    some (j.1, (256 : Int), j.2.2.1, j.2.2.2.1, j.2.2.2.2.1, j.2.2.2.2.2)
    else
    some (j.1, j.2.1, j.2.2.1, j.2.2.2.1, j.2.2.2.2.1, j.2.2.2.2.2)) = some ((i : Int), vA c i, (s, d.2), c, t, w) := by
   unfold vA
   by_cases h1 : (i : Int) ∈ c.1
   ·by_cases h2 : c.2.1 = (i : Int)
    ·rw [ql h2]; simp only [cond_true, kA]; rw [yci _ _ hc]; simp [h1]
    ·rw [z00 h2]; simp only [cond_false, kA]; rw [yci _ _ hc]; simp [h1]
   ·by_cases h2 : c.2.1 = (i : Int)
    ·rw [ql h2]; simp only [cond_true, kA]; rw [yci _ _ hc]; simp [h1, h2]
    ·rw [z00 h2]; simp only [cond_false, kA]; rw [yci _ _ hc]; simp [h1, h2]
  rw [<- Option.bind_assoc, hj];simp only [kA];have e1 : zA w.2 0 (vA c i) = w.2.take (vA c i).toNat := by simp [zA]
  have e2 : zA s[w.1.toNat] (vA c i) (s[w.1.toNat].length : Nat) = s[w.1.toNat].drop (vA c i).toNat := by
   unfold zA;rw [kH, kN (by simp)]
  rw [qG (by omega), show w.1 = ((w.1.toNat : Nat) : Int) by omega, z3l hlt]
  simp only [cond_true, kA];rw [qG (by omega), e1, e2]
  simp only [cond_true];rw [z3j (by simp; omega), yjx _ _ _ hs (by omega)]
  simp only [kA, kH];have hput : s.set w.1.toNat (w.2.take (vA c i).toNat ++ s[w.1.toNat].drop (vA c i).toNat) = zm8 s w (vA c i).toNat := by
   unfold zm8; rw [kG hlt, Option.getD_some]
  rw [hput, zo (by omega), show ((i : Int) + 1) = ((i + 1 : Nat) : Int) by simp]
  have ih := yff d c t hl hc k (i + 1) (zm8 s w (vA c i).toNat) (by omega) ⟨ydt ok.s hw.1 hw.2.1 hw.2.2 (by omega), fun w hm => by rw [zhf]; exact ok.w w hm⟩ (by rw [zhf]; exact hs)
  simp only [Sum.elim_inl];rw [ih];rfl
theorem ymg (d : zwd) (c : List Int × Int × Int) (hl : d.2.1.length < 1000000) (hc : c.1.length < 1000000) (ok : OkD d.2.1 d.1) (hs : d.1.length < 1000000) :
  z87 d c = some (if d.2.2.2.2.2 then d else (z7m c d.2.1 0 d.1, [], -1, ([], 0, 0), d.2.2.2.2.1, true)) := by
 unfold z87;cases hd : d.2.2.2.2.2 with
 | true => rfl
 | false =>
  simp only [cond_false, kI, if_false];have := yff d c ([], [], 0, ([], 0, 0), 0, false) hl hc d.2.1.length 0 d.1 (by omega) ok hs
  rw [show ((0 : Nat) : Int) = 0 from rfl] at this
  rw [this]; rfl
theorem yqf (l : List (Int × List Int)) (i : Int) (x : List Int) (k : Nat) (hk : k < l.length) : z28 (l.take (k + 1)) i x = if l[k].1 = i then l[k].2 else z28 (l.take k) i x := by
 rw [List.take_succ_eq_append_getElem hk];exact yj6 _ _ i _ x
theorem ycj (d : zwd) (i : Int) (x : List Int) (hl : d.2.1.length < 1000000) : ∀ (k : Nat), k <= d.2.1.length -> (zb xM (i, (k : Int) - 1, d) = some (.inr (z28 (d.2.1.take k) i x))) \/ (zb xM (i, (k : Int) - 1, d) = some (.inl (i, d)) /\ z28 (d.2.1.take k) i x = x)
 | 0, h => by
  refine .inr ⟨?_, by simp [z28]⟩
  rw [zL, show xM (i, ((0 : Nat) : Int) - 1, d) = z2v i (((0 : Nat) : Int) - 1) d from rfl]
  unfold z2v;rw [yhc (by omega)]; rfl
 | k + 1, h => by
  have hk : k < d.2.1.length := by omega
  have e : xM (i, ((k + 1 : Nat) : Int) - 1, d) = if d.2.1[k].1 = i then some (.inr (.inr d.2.1[k].2)) else some (.inl (i, (k : Int) - 1, d)) := by
   rw [show ((k + 1 : Nat) : Int) - 1 = (k : Int) by omega]
   show z2v i (k : Int) d = _;unfold z2v;rw [z3g (by omega), z3l hk]
   simp only [cond_true, kA]
   by_cases hx : d.2.1[k].1 = i
   ·rw [ql hx, if_pos hx]; rfl
   ·rw [z00 hx, if_neg hx, zo (by omega)]; rfl
  rw [zL, e, yqf _ _ _ _ hk]
  by_cases hx : d.2.1[k].1 = i
  ·rw [if_pos hx, if_pos hx]; exact .inl rfl
  ·rw [if_neg hx, if_neg hx]; exact ycj d i x hl k (by omega)
theorem ymk (d : zwd) (i : Nat) (hl : d.2.1.length < 1000000) (hi : i < d.1.length) : z7b d (i : Int) = some (z28 d.2.1 (i : Int) d.1[i]) := by
 unfold z7b;rw [zi (by omega), zo (by omega)]
 have := ycj d (i : Int) d.1[i] hl d.2.1.length (kY _);rw [kU] at this;rcases this with h | ⟨h1, h2⟩
 ·rw [h]; rfl
 ·rw [h1, h2];simp only [kA, Sum.elim_inl];rw [z3l hi]; rfl
def yj (x : zC) (ch : List Int × Int × Int) : zwd := (x.2.2.2.2.2, x.1, x.2.1, ch, x.2.2.2.1, x.2.2.2.2.1)
def z4y (x : zC) (ch : List Int × Int × Int) : Prop := x.2.1 = -1 \/ ch = x.2.2.1
theorem yc0 {x : zC} (hd : OkD x.1 x.2.2.2.2.2) (h2 : -1 <= x.2.1 /\ x.2.1 <= 9223372036854775807) (hcl : x.2.2.1.1.length < 1000000) (hn : 0 <= x.2.2.2.1 /\ x.2.2.2.1 < 1000000000) (hs : x.2.2.2.2.2.length < 1000000) {ch : List Int × Int × Int} (hc : z4y x ch) (hl : x.1.length < 1000000) (ho : x.2.2.2.2.1 = false) : ∃ ch', z93 (yj x ch) = some (yj (yy x).2 ch', (yy x).1) /\ z4y (yy x).2 ch' := by
 unfold z93 yj;simp only;rw [zo (by omega)]
 unfold yy
 by_cases h0 : x.2.1 = 0
 ·rw [ql h0, if_neg (by omega), if_pos h0]
  have e : ch = x.2.2.1 := by rcases hc with hc | hc; omega; exact hc
  simp only [cond_true];rw [ymg _ _ (by simp only; omega) (by rw [e]; exact hcl) hd hs]
  simp only [ho, kI, if_false, kA, zzt, e];exact ⟨([], 0, 0), rfl, .inl rfl⟩
 ·rw [z00 h0];simp only [cond_false]
  by_cases h1 : x.2.1 < 0
  ·rw [zP (by omega), if_pos h1]
   exact ⟨ch, rfl, hc⟩
  ·rw [zY (by omega), if_neg h1, if_neg h0, zo (by omega)]
   exact ⟨ch, rfl, .inr (by rcases hc with hc | hc; omega; exact hc)⟩
theorem ymn {x : zC} (h : OkDev x) {ch : List Int × Int × Int} (hc : z4y x ch) (i : Int) (b : List Int) (hb : b.length < 1000000) : ∃ ch', zo0 (yj x ch) i b = some (yj (yA x i b).2 ch', (yA x i b).1) /\ z4y (yA x i b).2 ch' := by
 have hl := h.l;unfold zo0 yA;rw [yw9 _ _ h.s, show (yj x ch).2.2.2.2.2 = x.2.2.2.2.1 from rfl, show (yj x ch).1 = x.2.2.2.2.2 from rfl]
 simp only [kA]
 by_cases hw : z9b x.2.2.2.2.1 x.2.2.2.2.2.length i = 0
 ·rw [xj hw, if_neg (by simpa using hw), zi (by omega)]
  by_cases hbl : b.length = 256
  ·rw [xj (by omega), if_neg (by simpa using hbl), show (yj x ch).2.1 = x.1 from rfl, beq_self]
   simp only [cond_false, cond_true];rw [xS (by simp; omega), xS (by simp; omega), z4h _ _ rfl]
   have hoff : x.2.2.2.2.1 = false := by
    unfold z9b at hw;cases ho : x.2.2.2.2.1 with
    | true => rw [ho] at hw; cases hw
    | false => rfl
   have hd : OkD (x.1 ++ [(i, b)]) x.2.2.2.2.2 := h.add (ykk hw) hbl;obtain ⟨ch', e1, e2⟩ := yc0 (x := (x.1 ++ [(i, b)], x.2)) hd h.left h.c h.n h.s (ch := ch) hc (by simp; omega) hoff
   refine ⟨ch', ?_, e2⟩;exact (congrArg (fun z => kO z _) e1).trans rfl
  ·rw [qX (by omega), if_pos hbl]; exact ⟨ch, rfl, hc⟩
 ·rw [qX hw, if_pos hw]; exact ⟨ch, rfl, hc⟩
theorem yr7 (d : zwd) (t : zwd) (hl : d.2.1.length < 1000000) (hs : d.1.length < 1000000) (hw : ∀ w, w ∈ d.2.1 -> 0 <= w.1) :
  zb yB (0, t, d) = some (t, (jk d.2.1 d.1, d.2)) := by
 have hS : (jk d.2.1 d.1).length = d.1.length := zwb _ _;have := y0g yB (fun i => ((i : Int), t, ((jk d.2.1 d.1).take i ++ d.1.drop i, d.2))) (fun _ => (t, (jk d.2.1 d.1, d.2))) d.1.length ?_ ?_
 ·simpa using this
 ·show xZ (d.1.length : Nat) t ((jk d.2.1 d.1).take d.1.length ++ d.1.drop d.1.length, d.2) = _;unfold xZ;have e : (jk d.2.1 d.1).take d.1.length ++ d.1.drop d.1.length = jk d.2.1 d.1 := by rw [kN (by omega), List.drop_length, List.append_nil]
  rw [e, zi (by simp only; omega), zP (by simp only; omega)]; rfl
 ·intro i hi;refine .inl ⟨?_, rfl⟩;show xZ (i : Int) t ((jk d.2.1 d.1).take i ++ d.1.drop i, d.2) = _;unfold xZ;have hlen : ((jk d.2.1 d.1).take i ++ d.1.drop i).length = d.1.length := by simp; omega
  have hat : ((jk d.2.1 d.1).take i ++ d.1.drop i)[i]'(by omega) = d.1[i] := by
   rw [List.getElem_append_right (by simp; omega)]
   simp only [kQ, hS, List.getElem_drop];congr 1; omega
  have hset : ((jk d.2.1 d.1).take i ++ d.1.drop i).set i (z28 d.2.1 (i : Int) d.1[i]) = (jk d.2.1 d.1).take (i + 1) ++ d.1.drop (i + 1) := by
   have h1 := yka d.2.1 d.1 i hw hi;rw [kG (by omega), kG hi, Option.getD_some] at h1
   rw [<- Option.some.inj h1, List.set_append_right _ _ (by simp; omega), List.take_succ_eq_append_getElem (by omega), kM hi, kJ]
   simp only [kQ, hS];rw [show i - min i d.1.length = 0 by omega]
   rfl
  rw [zi (by simp only; omega), zY (by simp only; omega)]
  simp only [cond_true];rw [ymk ((jk d.2.1 d.1).take i ++ d.1.drop i, d.2) i hl (by simp only; omega)]
  simp only [kA, hat];rw [yjx _ _ _ (by omega) (by omega), kH, hset, zo (by omega)]
  rfl
theorem y83 {x : zC} (h : OkDev x) {ch : List Int × Int × Int} (hc : z4y x ch) : ∃ ch', z7a (yj x ch) = some (yj (yJ x).2 ch', (yJ x).1) /\ z4y (yJ x).2 ch' := by
 have hl := h.l;unfold z7a yJ;rw [show (yj x ch).2.2.2.2.2 = x.2.2.2.2.1 from rfl]
 cases ho : x.2.2.2.2.1 with
 | true => exact ⟨ch, rfl, hc⟩
 | false =>
  obtain ⟨ch', e1, e2⟩ := yc0 h.d h.left h.c h.n h.s hc (by omega) ho
  rw [e1];simp only [cond_false, kI, if_false, kA];have hcd := yex (x := x) h.d (by omega)
  have hsl : (yy x).2.2.2.2.2.2.length < 1000000 \/ (yy x).1 ≠ 0 := by
   unfold yy;split
   ·exact .inl h.s
   ·split
    ·exact .inr (by simp)
    ·exact .inl h.s
  by_cases h0 : (yy x).1 = 0
  ·obtain ⟨c1, c2⟩ := hcd h0;have hs : (yy x).2.2.2.2.2.2.length < 1000000 := hsl.resolve_right (by simp [h0])
   generalize yy x = r at *;rw [xj h0, if_neg (by simp [h0])]
   simp only [cond_false];have hb := yr7 (yj r.2 ch') ([], [], 0, ([], 0, 0), 0, false) c2 hs (fun w hw => (c1.w w hw).1)
   rw [hb];exact ⟨ch', rfl, e2⟩
  ·rw [qX h0, if_pos h0];exact ⟨ch', rfl, e2⟩
theorem yrc (n : Nat) (hn : n <= 14) :
  zb qf ((n : Int), zxc, 0, 0, 0, 0, 0, false, [], [], [], []) = some (0, 0, 0, 0, false, kB n zxc, [], [], []) := by
 have := y0g qf (fun i => ((n : Int), zxc, (i : Int), 0, 0, 0, 0, false, kB i zxc, [], [], [])) (fun _ => (0, 0, 0, 0, false, kB n zxc, [], [], [])) n ?_ ?_
 ·exact this
 ·show vS (n : Int) zxc (n : Int) 0 0 0 0 false (kB n zxc) [] [] [] = _;unfold vS;rw [zP (by omega)]
  simp only [beq_self, cond_true, cond_false]
 ·intro i hi;refine .inl ⟨?_, rfl⟩;show vS (n : Int) zxc (i : Int) 0 0 0 0 false (kB i zxc) [] [] [] = _;unfold vS;rw [zY (by omega)]
  simp only [beq_self, cond_true, cond_false];rw [xS (by simp; omega), zo (by omega), List.replicate_succ' (n := i)]
  rfl
theorem yw4 (n : Nat) (hn : n <= 14) : zvq (n : Int) = some (yj (z32 n) ([], 0, 0)) := by
 unfold zvq;rw [z4h _ _ (by rw [kR]), show kB 256 (0 : Int) = zxc from rfl]
 have := yrc n hn;rw [this];simp only [kS, beq_self, cond_true, kA];rw [z4h _ _ rfl];rfl
theorem y0z {l : List Int} (hb : isB l) (hl : l.length <= 8) : z9a l = some (xt l) := by
 unfold z9a;have := (z9m qU l (fun i a => (l, a, (i : Int))) (fun a => a) (fun n c => n * 256 + c) (fun i a => a = xt (l.take i)) ?_ ?_ (a := 0) (by simp [xt])).1
 ·rw [show (((0 : Nat) : Int)) = 0 from rfl] at this
  rw [this]; rfl
 ·intro a _;show vn _ _ _ = _;unfold vn;rw [zi (by simp only; omega), zP (kL _)]; rfl
 ·intro i a hi ha;subst ha;refine ⟨?_, ?_⟩
  ·show vn l (xt (l.take i)) (i : Int) = _;unfold vn;rw [zi (by omega), zY (by omega), z3l hi]
   simp only [cond_true, kA];have h1 := zjn i (l.take i) (by rw [kQ]; omega) (hb.take i)
   have h2 := yqt (i := i) (by omega)
   have h3 := hb _ (kF hi);rw [z5k (n := xt (l.take i) * 256) (by omega), z5k (n := l[i]) (by omega), z5k (by omega), jh (by omega)]
  ·rw [show l.take (i + 1) = l.take i ++ [l[i]] from (List.take_append_getElem hi).symm, zhe]
theorem yri {b : List Int} (hl : b.length = 256) (hb : isB b) {room : Int} (hr : 0 <= room /\ room <= 1000000000) : zgw b room = some (z0n b room) := by
 have c8 : ∀ i, (ya b i).length <= 8 := fun i => by unfold ya; rw [kQ]; omega
 have cb : ∀ i, isB (ya b i) := fun i => (hb.drop _).take _
 have k : ∀ i, 0 <= xt (ya b i) /\ xt (ya b i) < 18446744073709551616 := fun i => by
  have h1 := zjn _ _ rfl (cb i);have h2 := yds (c8 i);omega
 unfold zgw;rw [hl];have e8 : zA b 8 16 = ya b 8 := zxd hl 8 (by omega)
 have e16 : zA b 16 24 = ya b 16 := zxd hl 16 (by omega)
 have e24 : zA b 24 32 = ya b 24 := zxd hl 24 (by omega)
 have e32 : zA b 32 40 = ya b 32 := zxd hl 32 (by omega)
 have e56 : zA b 56 64 = ya b 56 := zxd hl 56 (by omega)
 have e0 : zA b 0 8 = b.take 8 := by simp only [zA]; rfl
 have eA : zA b 16 32 = (b.drop 16).take 16 := by simp only [zA]; rfl
 have eB : zA b 40 56 = (b.drop 40).take 16 := by simp only [zA]; rfl
 rw [e8, e16, e24, e32, e56, e0, eA, eB];rw [qG (l := 8) (by omega), qG (l := 16) (h := 24) (by omega), qG (l := 24) (by omega), qG (l := 0) (by omega), qG (l := 32) (by omega), qG (l := 16) (h := 32) (by omega), qG (l := 40) (by omega), qG (l := 56) (by omega)]
 rw [y0z (cb 8) (c8 8), y0z (cb 16) (c8 16), y0z (cb 24) (c8 24)];simp only [kA, cond_true];have k8 := k 8; have k16 := k 16; have k24 := k 24;have r := z5k (n := room) (by omega)
 have rn : xJ room = room := r;rw [show ([119, 97, 114, 100, 115, 104, 105, 112] : List Int) = z7h from rfl]
 by_cases h1 : b.take 8 = z7h
 ·rw [ze8 h1]
  by_cases h2 : ya b 32 = z7h
  ·rw [ze8 h2]
   by_cases h3 : (b.drop 16).take 16 = (b.drop 40).take 16
   ·rw [ze8 h3]
    by_cases h4 : ya b 8 = ya b 56
    ·rw [ze8 h4]
     by_cases h5 : xt (ya b 8) = 0
     ·rw [ql h5, qI (fun h => by obtain ⟨_, _, _, _, q5, q6, q7, q8⟩ := h; omega)]; rfl
     ·rw [z00 h5]
      by_cases h6 : 4611686018427387904 < xt (ya b 8)
      ·rw [zY h6, qI (fun h => by obtain ⟨_, _, _, _, q5, q6, q7, q8⟩ := h; omega)]; rfl
      ·rw [zP h6]
       by_cases h7 : 1 < xt (ya b 16)
       ·rw [zY h7, qI (fun h => by obtain ⟨_, _, _, _, q5, q6, q7, q8⟩ := h; omega)]; rfl
       ·rw [zP h7, rn]
        by_cases h8 : room < xt (ya b 24)
        ·rw [zY h8, qI (fun h => by obtain ⟨_, _, _, _, q5, q6, q7, q8⟩ := h; omega)]; rfl
        ·rw [zP h8, zw2 ⟨h1, h2, h3, by rw [h4], by omega, by omega, by omega, by omega⟩]
         simp only [kP, cond_false, kA];rw [zo (by omega), zo (by omega)]; rfl
    ·rw [zv2 h4, qI (fun h => h4 (y0k 8 (by unfold ya; simp [hl]) (by unfold ya; simp [hl]) (cb _) (cb _) h.2.2.2.1.symm))]; rfl
   ·rw [zv2 h3, qI (fun h => h3 h.2.2.1)]; rfl
  ·rw [zv2 h2, qI (fun h => h2 h.2.1)]; rfl
 ·rw [zv2 h1, qI (fun h => h1 h.1)]; rfl
theorem yrd : yh1 zgf := by
 intro r r' h x y hx;unfold zgf zmy at hx ⊢;cases hc : eqI x 0 with
 | true => rw [hc] at hx; exact hx
 | false =>
  rw [hc] at hx;simp only [cond_false] at hx ⊢;rw [Option.bind_eq_some_iff] at hx;obtain ⟨a, h1, h2⟩ := hx;rw [h _ _ h1]; exact h2
theorem yml : ∀ (k : Nat) (n : Int), k <= 8 -> 0 <= n -> n < 256 ^ k -> Ok (zgs zgf (k + 1) n) fun l => l.length <= k /\ isB l /\ xt l = n
 | 0, n, _, h0, h1 => by
  have : n = 0 := by simp at h1; omega
  subst this;exact ⟨[], rfl, kY _, zrk, rfl⟩
 | k + 1, n, hk, h0, h1 => by
  have hp := yds (i := k + 1) hk;show Ok (zmy (zgs zgf (k + 1)) n) _;unfold zmy;refine yx4 (fun h => qQ ⟨Nat.zero_le _, zrk, by rw [h]; rfl⟩) fun h => ?_
  have e : xJ (Int.tdiv n 256) = n / 256 := by rw [kC h0, z5k (by omega)]
  have e2 : WU8 (kW n 256) = n % 256 := by rw [kD h0, ywp (by omega)]
  rw [e, e2];refine y6l (yml k (n / 256) (by omega) (by omega) ?_) fun l ⟨l1, l2, l3⟩ => ?_
  ·rw [Int.pow_succ] at h1;generalize (256 : Int) ^ k = q at *;omega
  ·refine qc (qQ ⟨by simp; omega, l2.app fun b hb => ?_, ?_⟩)
   ·rw [List.mem_singleton.1 hb]; omega
   ·rw [zhe, l3]; omega
theorem yo0 (l : List Int) (k : Nat) : xt (kB k 0 ++ l) = xt l := by
 unfold xt;rw [List.foldl_append];congr 1
 induction k with
 | zero => rfl
 | succ k ih => rw [List.replicate_succ, kV]; exact ih
theorem y8i : ∀ (k : Nat) (l : List Int), l.length + k = 8 -> zb xd l = some (kB k 0 ++ l)
 | 0, l, h => by
  rw [zL];unfold xd z96;rw [zi (by omega), zP (by omega)]; rfl
 | k + 1, l, h => by
  rw [zL];have e : xd l = some (.inl ([0] ++ l)) := by
   unfold xd z96;rw [zi (by omega), zY (by omega), cond_true, z3j (by simp; omega)]
  rw [e];simp only [kA, Sum.elim_inl];have := y8i k ([0] ++ l) (by simp; omega)
  rw [List.replicate_succ', kJ];exact this
variable {n : Int}
theorem y5o (h : 0 <= n /\ n < 18446744073709551616) : z88 n = some (xA n) := by
 obtain ⟨l, h1, h2, h3, h4⟩ := yve yrd (yml 8 n (kY _) h.1 (by simpa using h.2))
 unfold z88 yfj zjs;rw [h1];simp only [kA];rw [y8i (8 - l.length) l (by omega)]
 simp only [kA];rw [y0k 8 (l := kB (8 - l.length) 0 ++ l) (m := xA n) (by simp; omega) (vX n) ((zlq _).app h3) (zds n) (by rw [yo0, h4, znt h])]
theorem yrj {t : Int × Int × Int} (h0 : 0 <= t.1 /\ t.1 <= 4611686018427387904) (h1 : 0 <= t.2.1 /\ t.2.1 <= 1000000000) (h2 : 0 <= t.2.2 /\ t.2.2 <= 1000000000) : zn1 t.1 t.2.1 t.2.2 = some (yr t) := by
 unfold zn1;rw [y5o (by omega), y5o (by omega), y5o (by omega)]
 have l1 := vX t.1;have l2 := vX t.2.1;have l3 := vX t.2.2;simp only [kA];rw [z3j (by omega), z3j (by simp; omega), z3j (by simp; omega), z3j (by simp; omega), z3j (by simp; omega), z3j (by simp; omega)]
 rw [z4h _ _ (by simp), z3j (by simp; omega)]
 rfl
theorem yye {a b : Int} (ha : 0 <= a /\ a < 65536) (hb : 0 <= b /\ b < 65536) : zh0 .or .u32 (shI .shl .u32 a 16) b = a * 65536 + b := by
 obtain ⟨a, rfl⟩ : ∃ k : Nat, a = k := ⟨a.toNat, by omega⟩
 obtain ⟨b, rfl⟩ : ∃ k : Nat, b = k := ⟨b.toNat, by omega⟩
 have e1 : shI .shl .u32 (a : Int) 16 = ((a * 65536 : Nat) : Int) := by
  simp only [shI];rw [show min (16 : Int).toNat IntKind.u32.bits = 16 by rfl]
  rw [zaz .u32 (by constructor <;> simp [IntKind.min, IntKind.max, IntKind.bits, IntKind.signed] <;> omega)]
  omega
 rw [e1];simp only [zh0];have e2 : (BitVec.ofInt IntKind.u32.bits ((a * 65536 : Nat) : Int) ||| BitVec.ofInt IntKind.u32.bits (b : Int)).toNat = a * 65536 + b := by
  rw [BitVec.toNat_or, BitVec.ofInt_natCast, BitVec.ofInt_natCast, BitVec.toNat_ofNat, BitVec.toNat_ofNat];rw [show IntKind.u32.bits = 32 by rfl, Nat.mod_eq_of_lt (by omega), Nat.mod_eq_of_lt (by omega)]
  have := Nat.shiftLeft_add_eq_or_of_lt (show b < 2 ^ 16 by omega) a
  rw [Nat.shiftLeft_eq, show (2 : Nat) ^ 16 = 65536 from rfl] at this
  omega
 rw [e2, zaz .u32 (by constructor <;> simp [IntKind.min, IntKind.max, IntKind.bits, IntKind.signed] <;> omega)]
 omega
theorem yy5 : shI .shr .u32 n 24 = n / 16777216 := by
 simp only [shI];rw [show min (24 : Int).toNat IntKind.u32.bits = 24 by rfl, kK _ (by decide)]; rfl
theorem yy4 : shI .shr .u32 n 16 = n / 65536 := by
 simp only [shI];rw [show min (16 : Int).toNat IntKind.u32.bits = 16 by rfl, kK _ (by decide)]; rfl
theorem yy3 : shI .shr .u32 n 8 = n / 256 := by
 simp only [shI];rw [show min (8 : Int).toNat IntKind.u32.bits = 8 by rfl, kK _ (by decide)]; rfl
theorem ymp {a b x : Int} (ha : 0 <= a /\ a < 65521) (hb : 0 <= b /\ b < 65521) (hx : 0 <= x /\ x <= 255) : y5w (a, b) x = ((a + x) % 65521, (b + (a + x) % 65521) % 65521) := by
 unfold y5w;simp only;rw [zax (n := x) (by omega), zax (n := a + x) (by omega), kD (by omega), zax (by omega), kD (by omega)]
theorem ymq {b : List Int} (h1 : 0 <= (zka b).1 /\ (zka b).1 < 65521) (h2 : 0 <= (zka b).2 /\ (zka b).2 < 65521) : zxf b = (zka b).2 * 65536 + (zka b).1 := yye (by omega) (by omega)
theorem ywh (b : List Int) (hb : isB b) : (0 <= (zka b).1 /\ (zka b).1 < 65521) /\ (0 <= (zka b).2 /\ (zka b).2 < 65521) := by
 have key : ∀ (l : List Int) (p : Int × Int), isB l -> (0 <= p.1 /\ p.1 < 65521) /\ (0 <= p.2 /\ p.2 < 65521) -> (0 <= (l.foldl y5w p).1 /\ (l.foldl y5w p).1 < 65521) /\ (0 <= (l.foldl y5w p).2 /\ (l.foldl y5w p).2 < 65521) := by
  intro l
  induction l with
  | nil => intro p _ h; exact h
  | cons x l ih =>
   intro p hl h;rw [kV];refine ih _ (fun b hb => hl b (by simp [hb])) ?_
   have := ymp h.1 h.2 (hl x (by simp))
   rw [show (p.1, p.2) = p from rfl] at this
   rw [this];simp only;omega
 exact key b (1, 0) hb (by omega)
theorem yw8 {b : List Int} (hb : isB b) (h : b.length <= 1000000) : zvn b = some (zxf b) := by
 unfold zvn;have key := z9m vb b (fun i (a : Int × Int) => (b, a.1, a.2, (i : Int))) (fun a => a) (fun a x => (a.1 + x, a.2 + (a.1 + x) % 65521)) (fun i a => (1 <= a.1 /\ a.1 <= 1 + 255 * (i : Int)) /\ (0 <= a.2 /\ a.2 <= 65521 * (i : Int)) /\ zka (b.take i) = (a.1 % 65521, a.2 % 65521)) ?_ ?_ (a := (1, 0)) ⟨by omega, by omega, rfl⟩
 ·obtain ⟨e, hI⟩ := key;rw [show (((0 : Nat) : Int)) = 0 from rfl] at e
  generalize List.foldl (fun (a : Int × Int) (x : Int) => (a.1 + x, a.2 + (a.1 + x) % 65521)) ((1 : Int), (0 : Int)) b = a at e hI
  obtain ⟨h1, h2, h3⟩ := hI;rw [kU] at h3;simp only at e;rw [e];simp only [kA];rw [ymq (by rw [h3]; simp only; omega) (by rw [h3]; simp only; omega), h3]
  simp only;rw [kD h2.1, kD (by omega), zax (n := a.2 % 65521) (by omega), zax (n := a.1 % 65521) (by omega), zax (n := a.2 % 65521 * 65536) (by omega), zax (by omega)]
 ·intro a _;show z17 b a.1 a.2 ((b.length : Nat) : Int) = _;unfold z17;rw [zi (by omega), zP (kL _)]; rfl
 ·intro i a hi ⟨h1, h2, h3⟩;have hx := hb _ (kF hi);refine ⟨?_, by simp only; omega, by simp only; omega, ?_⟩
  ·show z17 b a.1 a.2 (i : Int) = _;unfold z17;rw [zi (by omega), zY (by omega), z3l hi]
   simp only [cond_true, kA];rw [zo (n := b[i]) (by omega), zo (n := a.1 + b[i]) (by omega), kD (by omega), zo (by omega), jh (by omega)]
  ·rw [show b.take (i + 1) = b.take i ++ [b[i]] from (List.take_append_getElem hi).symm]
   unfold zka at h3 ⊢;rw [List.foldl_append, h3, kV, List.foldl_nil, ymp (by omega) (by omega) hx]
   simp only;congr 1 <;> omega
theorem yju {b : List Int} (hb : isB b) (h : b.length <= 1000000) : zjt b = some (zZ b) := by
 unfold zjt;rw [yw8 hb h];obtain ⟨h1, h2⟩ := ywh b hb;have e := ymq h1 h2;simp only [kA];rw [z3j (by simp; omega)]
 unfold zZ yoz;rw [yy5, yy4, yy3, kC (by omega), kC (by omega), kC (by omega), zax (n := zxf b / 16777216) (by omega), zax (n := zxf b / 65536) (by omega), zax (n := zxf b / 256) (by omega)]
theorem yrb {w : List Int} (h : w.length <= 65535) : zmw w = some (vy w, true) := by
 unfold zmw vy;rw [zi (by omega), zP (by omega)]
 by_cases h1 : w.length < 255
 ·rw [zY (by omega), if_pos h1, zrt]
  simp only [cond_true, cond_false];rw [z3j (by simp; omega)]
  rw [show (w.length : Int) % 256 = w.length by omega]
 ·rw [zP (by omega), if_neg h1, kD (by omega), kC (by omega), zo (by omega)]
  simp only [cond_true, cond_false];rw [z3j (by simp; omega)]
  rw [zrt ((w.length : Int) / 256), zrt ((w.length : Int) % 256), show (w.length : Int) / 256 % 256 = w.length / 256 by omega, show (w.length : Int) % 256 % 256 = w.length % 256 by omega]
theorem yjs {l : List (List Int)} (hl : l.length <= 1000000) (h : ∀ x, x ∈ l -> isB x /\ x.length <= 65531) (hs : (zq l).length <= 1000000000) : zo4 l = some (zq l) := by
 unfold zo4;have key := z9m vc l (fun i (a : List Int) => (l, a, (i : Int))) (fun a => a) (fun a x => a ++ vy (zZ x)) (fun i a => a = zq (l.take i)) ?_ ?_ (a := []) rfl
 ·obtain ⟨e, hI⟩ := key;rw [show (((0 : Nat) : Int)) = 0 from rfl] at e
  rw [kU] at hI;rw [e, hI]; rfl
 ·intro a _;show z1a l a ((l.length : Nat) : Int) = _;unfold z1a;rw [zi (by omega), zP (kL _)]; rfl
 ·intro i a hi ha;subst ha;obtain ⟨h1, h2⟩ := h _ (kF hi);have h3 := ybk l (i + 1);rw [zm1 l i hi, kE] at h3;refine ⟨?_, (zm1 l i hi).symm⟩;show z1a l (zq (l.take i)) (i : Int) = _;unfold z1a;rw [zi (by omega), zY (by omega), z3l hi]
  simp only [cond_true, kA];rw [yju h1 (by omega)]
  simp only [kA];rw [yrb (by rw [z2i]; omega)]
  simp only [kA];rw [z3j (by omega), jh (by omega)]
theorem yw5 {w rest : List Int} (hw : isB w) (h : w.length <= 65535) (hr : rest.length <= 1000000000) : zmz (vy w ++ rest) = some (w, rest, 0) := by
 have hl := z77 w;have cut : ∀ (n : Nat) (hd : List Int), hd.length = n -> zA (hd ++ w ++ rest) (n : Int) ((n : Int) + (w.length : Int)) = w /\ zA (hd ++ w ++ rest) ((n : Int) + (w.length : Int)) (((hd ++ w ++ rest).length : Nat) : Int) = rest := fun n hd hn => by
  simp only [zA];refine ⟨?_, ?_⟩
  ·rw [show ((n : Int) + (w.length : Int)).toNat - ((n : Nat) : Int).toNat = w.length by omega, kH, kJ, <- hn, List.drop_left, List.take_left]
  ·rw [show ((n : Int) + (w.length : Int)).toNat = (hd ++ w).length by rw [kE]; omega, List.drop_left]
   rw [kN (by simp only [kE]; omega)]
 unfold zmz
 by_cases h1 : w.length < 255
 ·have e : vy w ++ rest = [(w.length : Int)] ++ w ++ rest := by unfold vy; rw [if_pos h1]
  obtain ⟨c1, c2⟩ := cut 1 [(w.length : Int)] rfl;have hlen : ([(w.length : Int)] ++ w ++ rest).length = 1 + w.length + rest.length := by simp; omega
  rw [e, show yn ([(w.length : Int)] ++ w ++ rest) 0 = some (w.length : Int) from rfl]
  simp only [kA];rw [zo (n := (w.length : Int)) (by omega), z00 (by omega)]
  simp only [cond_false, kA, Sum.elim_inl];rw [zi (by omega), zo (n := 1 + (w.length : Int)) (by omega), zP (by omega), qG (by omega), qG (by omega)]
  simp only [cond_true, cond_false];rw [show (1 : Int) = ((1 : Nat) : Int) from rfl, c1, c2]
 ·have e : vy w ++ rest = [255, (w.length : Int) / 256, (w.length : Int) % 256] ++ w ++ rest := by unfold vy; rw [if_neg h1]
  obtain ⟨c1, c2⟩ := cut 3 [255, (w.length : Int) / 256, (w.length : Int) % 256] rfl;have hlen : ([255, (w.length : Int) / 256, (w.length : Int) % 256] ++ w ++ rest).length = 3 + w.length + rest.length := by simp; omega
  rw [e, show yn ([255, (w.length : Int) / 256, (w.length : Int) % 256] ++ w ++ rest) 0 = some 255 from rfl, show yn ([255, (w.length : Int) / 256, (w.length : Int) % 256] ++ w ++ rest) 1 = some ((w.length : Int) / 256) from rfl, show yn ([255, (w.length : Int) / 256, (w.length : Int) % 256] ++ w ++ rest) 2 = some ((w.length : Int) % 256) from rfl]
  simp only [kA];rw [zo (n := 255) (by omega), ql rfl, zi (by omega), zP (by omega), zo (n := (w.length : Int) / 256) (by omega), zo (n := (w.length : Int) % 256) (by omega), zo (n := (w.length : Int) / 256 * 256) (by omega), show (w.length : Int) / 256 * 256 + (w.length : Int) % 256 = w.length by omega, zo (n := (w.length : Int)) (by omega), zP (by omega)]
  simp only [cond_true, cond_false, kA, Sum.elim_inl];rw [zi (by omega), zo (n := 3 + (w.length : Int)) (by omega), zP (by omega), qG (by omega), qG (by omega)]
  simp only [cond_true, cond_false];rw [show (3 : Int) = ((3 : Nat) : Int) from rfl, c1, c2]
theorem yfo : ∀ (l out : List (List Int)), (∀ x, x ∈ l -> isB x /\ x.length <= 65531) -> (zq l).length <= 1000000000 -> out.length + l.length <= 1000000 -> zb xB (zq l, out) = some (.inl (out ++ l))
 | [], out, _, _, _ => by
  rw [zL];show (jS [] out).bind _ = _;unfold jS;rw [ze8 rfl, beq_self, List.append_nil]; rfl
 | x :: l, out, h, hs, ho => by
  obtain ⟨h1, h2⟩ := h x (by simp)
  have hs' := z2i x;have hpl := z77 (zZ x);rw [zsz] at hs ⊢;rw [kE] at hs;rw [List.length_cons] at ho;have e : xB (vy (zZ x) ++ zq l, out) = some (.inl (zq l, out ++ [x])) := by
   show jS (vy (zZ x) ++ zq l) out = _;unfold jS;rw [zv2 (by intro h; have := congrArg kT h; rw [kE, kS] at this; split at hpl <;> omega), yw5 (yfu h1) (by omega) (by omega)]
   simp only [kA, Bool.not_false, cond_true];have e2 : zA (zZ x) 0 (((x.length + 4 : Nat) : Int) - 4) = x := by
    simp only [zA, zZ];rw [show (((x.length + 4 : Nat) : Int) - 4).toNat - (0 : Int).toNat = x.length by omega]
    simp
   rw [xj rfl, hs', zi (by omega), zo (by omega), zP (by omega), qG (by omega), e2, yju h1 (by omega)]
   simp only [kA, cond_true, cond_false];rw [ze8 rfl, beq_self];simp only [kP, cond_true, cond_false];rw [xS (by simp; omega), beq_self]; rfl
  rw [zL, e];simp only [kA, Sum.elim_inl];have := yfo l (out ++ [x]) (fun y hy => h y (by simp [hy])) (by omega) (by simp; omega)
  rw [this, kJ]; rfl
theorem ylf {l : List (List Int)} (h : ∀ x, x ∈ l -> isB x /\ x.length <= 65531) (hs : (zq l).length <= 900000) : zbs (zq l) = some (l, 0) := by
 unfold zbs;have := z9l l;rw [yfo l [] h (by omega) (by simp; omega)]
 simp only [kS, beq_self, cond_true, kA, Sum.elim_inl, List.nil_append, yx]
abbrev RJT := zwd × Int × Int × List Int × Int × Bool
def yd (x : zC) (ch : List Int × Int × Int) (j : JT) : RJT := (yj x ch, j.1.1, j.1.2.1, j.2.1, j.2.2.1, j.2.2.2)
theorem ztu (x : zC) (ch : List Int × Int × Int) (hx : 2 <= x.2.2.2.2.2.length /\ x.2.2.2.2.2.length <= 5000) : z3y (yj x ch) = some (zt x.2.2.2.2.2.length) := by
 unfold z3y yj zt zM;simp only;rw [zi (by omega), zo (n := ((x.2.2.2.2.2.length : Nat) : Int) - 2) (by omega), kC (by omega), zo (n := (((x.2.2.2.2.2.length : Nat) : Int) - 2) / 2) (by omega), zo (by omega)]
 congr 1;omega
def yp3 (j : JT) (t : Int × Int × Int) (data : List Int) (e : Int) : JT := if e = 0 then (t, data, j.2.2.1, j.2.2.2) else (j.1, j.2.1, j.2.2.1, true)
variable {k : Nat}
theorem yjv {x : zC} (h : Dv k x) (hk : k + 2 <= 100000) {ch : List Int × Int × Int} (hc : z4y x ch) (j : JT) {n side : Int} {data : List Int} (hn : 0 <= n /\ n <= 4611686018427387904) (hs : 0 <= side /\ side <= 1) (hd : data.length <= 10000000) :
  ∃ ch', zdx (yd x ch j) n side data = some (yd (xk x (n, side, (data.length : Int))).2 ch' (yp3 j (n, side, (data.length : Int)) data (xk x (n, side, (data.length : Int))).1), (xk x (n, side, (data.length : Int))).1) /\ z4y (xk x (n, side, (data.length : Int))).2 ch' := by
 unfold zdx xk yp3;rw [zi (by omega), z5k (by omega), z5k (by omega), yrj (t := (n, side, (data.length : Int))) hn (by simp only; omega) (by simp only; omega)]
 simp only [kA];rw [kD hn.1, zo (by omega)]
 obtain ⟨c1, e1, h1⟩ := ymn h.ok hc (n % 2) (yr (n, side, (data.length : Int))) (by rw [z2e]; omega)
 rw [show (yd x ch j).1 = yj x ch from rfl, e1]
 simp only [kA];have hw := h.write (by omega) (n % 2) (z3i (n, side, (data.length : Int)))
 by_cases he : (yA x (n % 2) (yr (n, side, (data.length : Int)))).1 = 0
 ·rw [ql he, if_pos he];obtain ⟨c2, e2, h2⟩ := y83 hw.ok h1;rw [e2];simp only [cond_true, kA];refine ⟨c2, ?_, h2⟩
  by_cases hb : (yJ (yA x (n % 2) (yr (n, side, (data.length : Int)))).2).1 = 0
  ·rw [xj hb, if_pos hb];simp only [cond_false];rw [hb]; rfl
  ·rw [qX hb, if_neg hb]; rfl
 ·rw [z00 he, if_neg he];simp only [cond_false, kA];refine ⟨c1, ?_, h1⟩;rw [qX he, if_neg he]; rfl
theorem yfn (side there : Int) (all : List Int) (j t8 : RJT) : ∀ (k : Nat) (laid : List Int), (laid.length + k) % 256 = 0 -> k < 256 -> laid.length <= 20000000 -> zb qT (side, there, all, laid, j, t8) = some (side, there, all, laid ++ kB k 0, j, t8)
 | 0, laid, h, _, hl => by
  rw [zL];show (z1f side there all laid j t8).bind _ = _;unfold z1f;rw [zi (by omega), kD (by omega), xj (by omega)]
  simp
 | k + 1, laid, h, hk, hl => by
  rw [zL];have e : qT (side, there, all, laid, j, t8) = some (.inl (side, there, all, laid ++ [0], j, t8)) := by
   show z1f side there all laid j t8 = _;unfold z1f;rw [zi (by omega), kD (by omega), qX (by omega), cond_true, z3j (by simp; omega)]
  rw [e];simp only [kA, Sum.elim_inl];have := yfn side there all j t8 k (laid ++ [0]) (by simp; omega) (by omega) (by simp; omega)
  rw [this, kJ]; rfl
theorem yvp {all : List Int} {k i : Nat} (hk : all.length + k = clS all.length * 256) (hi : i < clS all.length) : zA (all ++ kB k 0) ((i : Int) * 256) (((i : Int) + 1) * 256) = z1o all i := by
 have hi2 : i * 256 < all.length := by unfold clS at hi; omega
 simp only [zA];rw [show (((i : Int) + 1) * 256).toNat - ((i : Int) * 256).toNat = 256 by omega, show ((i : Int) * 256).toNat = i * 256 by omega]
 unfold z1o;rw [List.drop_append_of_le_length (by omega), List.take_append, List.take_replicate, List.drop_replicate]
 congr 2;rw [List.length_drop];unfold clS at hk hi;omega
theorem yfl {side : Int} {all laid : List Int} {t8 : RJT} {j : JT} (hs : 0 <= side /\ side <= 1) (hb : isB all) (hall : all.length <= 10000000) {p : Nat} (hp : all.length + p = clS all.length * 256) (hlaid : laid = all ++ kB p 0) :
  ∀ (n i : Nat) {k : Nat} {x : zC} {ch : List Int × Int × Int}, i + n = clS all.length -> Dv k x -> z4y x ch -> k + n <= 100000 -> 2 <= x.2.2.2.2.2.length /\ x.2.2.2.2.2.length <= 5000 ->
   ∃ ch', zb qC (side, all, laid, (i : Int), yd x ch j, t8) =
    some (if (z0m (zB x.2.2.2.2.2.length side) all n i x).1 = 0 then .inl (side, all, yd (z0m (zB x.2.2.2.2.2.length side) all n i x).2 ch' j, t8)
     else .inr ((z0m (zB x.2.2.2.2.2.length side) all n i x).1, yd (z0m (zB x.2.2.2.2.2.length side) all n i x).2 ch' (j.1, j.2.1, j.2.2.1, true))) /\ z4y (z0m (zB x.2.2.2.2.2.length side) all n i x).2 ch'
 | 0, i, k, x, ch, hn, h, hc, hk, hx => by
  have hll : laid.length = clS all.length * 256 := by rw [hlaid]; simp; omega
  refine ⟨ch, ?_, hc⟩;rw [zL];show (jV side all laid (i : Int) (yd x ch j) t8).bind _ = _;unfold jV;have hcl : clS all.length <= 50000 := by unfold clS; omega
  rw [zi (by omega), hll, kC (by omega), zo (by omega), zP (by omega)]
  simp only [cond_false, kA, Sum.elim_inr, z0m, if_true]
 | n + 1, i, k, x, ch, hn, h, hc, hk, hx => by
  have hll : laid.length = clS all.length * 256 := by rw [hlaid]; simp; omega
  have hcl : clS all.length <= 50000 := by unfold clS; omega
  rw [zL];show ∃ ch', (jV side all laid (i : Int) (yd x ch j) t8).bind _ = _ /\ _;unfold jV;rw [zi (by omega), hll, kC (by omega), zo (n := ((clS all.length * 256 : Nat) : Int) / 256) (by omega), zY (by omega), show (yd x ch j).1 = yj x ch from rfl, ztu x ch hx]
  simp only [cond_true, kA];have hsec : 0 <= zM x.2.2.2.2.2.length /\ zM x.2.2.2.2.2.length <= 5000 := by unfold zM; omega
  have hroom : Int.tdiv (zt x.2.2.2.2.2.length) 256 = zM x.2.2.2.2.2.length := by unfold zt; rw [kC (by omega)]; omega
  have hm : 0 <= side * zM x.2.2.2.2.2.length /\ side * zM x.2.2.2.2.2.length <= 5000 := by
   rcases (show side = 0 \/ side = 1 by omega) with e | e
   ·rw [e, Int.zero_mul]; omega
   ·rw [e, Int.one_mul]; exact hsec
  have hadd : (W64 ((W64 (2 + (W64 (side * (W64 (zM x.2.2.2.2.2.length)))))) + (i : Int))) = zB x.2.2.2.2.2.length side + (i : Int) := by
   unfold zB;rw [zo (n := zM _) (by omega), zo (n := side * zM _) (by omega), zo (n := 2 + _) (by omega), zo (by omega)]
  rw [hroom, hadd, zo (n := (i : Int) * 256) (by omega), zo (n := (i : Int) + 1) (by omega), zo (n := ((i : Int) + 1) * 256) (by omega), qG (by omega), hlaid, yvp hp (by omega)]
  simp only [cond_true];obtain ⟨c1, e1, h1⟩ := ymn h.ok hc (zB x.2.2.2.2.2.length side + (i : Int)) (z1o all i) (by rw [zh1]; omega)
  rw [e1];simp only [kA];have hw := h.write (by omega) (zB x.2.2.2.2.2.length side + (i : Int)) (zzp hb i)
  have hl := yd7 x (zB x.2.2.2.2.2.length side + (i : Int)) (z1o all i)
  by_cases he : (yA x (zB x.2.2.2.2.2.length side + (i : Int)) (z1o all i)).1 = 0
  ·rw [xj he, ydo he];simp only [cond_false, kA, Sum.elim_inl];obtain ⟨c2, e2, h2⟩ := yfl (t8 := t8) (j := j) hs hb hall hp hlaid n (i + 1) (by omega) hw h1 (by omega) (by omega)
   rw [hl] at e2 h2;refine ⟨c2, ?_, h2⟩;rw [<- hlaid];exact e2
  ·rw [qX he, ydn he];simp only [cond_true, kA, Sum.elim_inr];refine ⟨c1, ?_, h1⟩;rw [if_neg he]; rfl
def y9l (r : Int × JT × zC) (cn : Int) : JT := (r.2.1.1, r.2.1.2.1, cn, r.2.1.2.2.2)
variable {j : JT}
theorem ymi {x : zC} (h : Dv k x) (hk : k <= 40000) (hx : 2 <= x.2.2.2.2.2.length /\ x.2.2.2.2.2.length <= 5000) {ch : List Int × Int × Int} (hc : z4y x ch) (hj : OkJ j) {side : Int} (hs : 0 <= side /\ side <= 1) {there : Nat} {all : List Int} (hb : isB all) (hall : all.length <= 10000000) (hth : there <= all.length) (count : Int) :
  ∃ ch', zo7 (yd x ch j) side (there : Int) all = some (yd (layJ x j side there all count).2.2 ch' (y9l (layJ x j side there all count) j.2.2.1), (layJ x j side there all count).1) /\ z4y (layJ x j side there all count).2.2 ch' := by
 have hn := hj.n;have hroom : 0 <= zt x.2.2.2.2.2.length /\ zt x.2.2.2.2.2.length <= 1000000 := by unfold zt zM; omega
 unfold zo7 layJ;rw [zi (by omega), show (yd x ch j).1 = yj x ch from rfl, ztu x ch hx, show (yd x ch j).2.1 = j.1.1 from rfl]
 simp only [kA]
 by_cases h1 : zt x.2.2.2.2.2.length < all.length
 ·rw [zY h1, if_pos (.inr h1)];simp only [cond_true, kA];exact ⟨ch, rfl, hc⟩
 ·rw [zP h1];simp only [cond_false, kA]
  by_cases h2 : j.1.1 = 4611686018427387904
  ·rw [ql h2, if_pos (.inl h2)];simp only [cond_true];exact ⟨ch, rfl, hc⟩
  ·rw [z00 h2, if_neg (by omega)]
   simp only [cond_false];have hcl : clS all.length <= 4000 := by unfold clS; omega
   have hp : all.length + (clS all.length * 256 - all.length) = clS all.length * 256 := by unfold clS; omega
   rw [yfn _ _ _ _ _ (clS all.length * 256 - all.length) all (by rw [hp]; omega) (by unfold clS; omega) (by omega)]
   simp only [kA];rw [kC (by omega), zo (by omega), show (there : Int) / 256 = ((there / 256 : Nat) : Int) by omega]
   obtain ⟨c1, e1, g1⟩ := yfl (t8 := (([], [], 0, ([], 0, 0), 0, false), 0, 0, [], 0, false)) (j := j) hs hb hall hp rfl (clS all.length - there / 256) (there / 256) (by unfold clS; omega) h hc (by omega) hx
   rw [e1];simp only [kA];have hd := Dv.lay (base := zB x.2.2.2.2.2.length side) hb (clS all.length - there / 256) (there / 256) h (by omega)
   generalize z0m (zB x.2.2.2.2.2.length side) all (clS all.length - there / 256) (there / 256) x = r1 at *
   by_cases hr : r1.1 = 0
   ·rw [if_pos hr, if_neg (by simpa using hr)]
    simp only [Sum.elim_inl];rw [show (yd r1.2 c1 j).1 = yj r1.2 c1 from rfl]
    obtain ⟨c2, e2, g2⟩ := y83 hd.ok g1;rw [e2];simp only [kA];have hd2 := hd.barrier (by omega)
    by_cases hr2 : (yJ r1.2).1 = 0
    ·rw [xj hr2, if_neg (by simpa using hr2)]
     simp only [cond_false];obtain ⟨c3, e3, g3⟩ := yjv hd2 (by omega) g2 j (n := j.1.1 + 1) (side := side) (data := all) (by omega) hs hall
     rw [show ((yj (yJ r1.2).2 c2, (yd r1.2 c1 j).2) : RJT) = yd (yJ r1.2).2 c2 j from rfl, show (yd r1.2 c1 j).2.1 = j.1.1 from rfl, z5k (n := j.1.1 + 1) (by omega), e3]
     simp only [kA];refine ⟨c3, ?_, ?_⟩
     ·unfold yp3 y9l
      by_cases hr3 : (xk (yJ r1.2).2 (j.1.1 + 1, side, (all.length : Int))).1 = 0
      ·rw [if_pos hr3, if_neg (by simpa using hr3)]
       simp only;rw [hr3]
      ·rw [if_neg hr3, if_pos hr3]
     ·by_cases hr3 : (xk (yJ r1.2).2 (j.1.1 + 1, side, (all.length : Int))).1 = 0
      ·rw [if_neg (by simpa using hr3)]; exact g3
      ·rw [if_pos hr3]; exact g3
    ·rw [qX hr2, if_pos hr2];simp only [cond_true];exact ⟨c2, rfl, g2⟩
   ·rw [if_neg hr, if_pos hr];simp only [Sum.elim_inr];exact ⟨c1, rfl, g1⟩
open Classical in
theorem ymj (x : zC) (ch : List Int × Int × Int) (j : JT) {l : List (List Int)} (hl : OkL l) : zo9 (yd x ch j) l = some (if j.2.2.2 = true then 3 else if za5 l then 4 else 0) := by
 have hn := hl.n;have hlen : ∀ y, y ∈ l -> y.length <= 5000000 := fun y hy => by
  obtain ⟨i, hi, rfl⟩ := List.mem_iff_getElem.1 hy;have h1 := ybk l (i + 1);rw [zm1 l i hi, kE, z77, z2i] at h1;have := hl.s;split at h1 <;> omega
 unfold zo9;rw [show (yd x ch j).2.2.2.2.2 = j.2.2.2 from rfl]
 cases hb : j.2.2.2 with
 | true => rfl
 | false =>
  simp only [cond_false, kI, if_false];have := y4t vd l (fun i => (l, (i : Int))) (fun y => decide (65531 < y.length)) (.inr 4) (.inl ()) ?_ ?_
  ·rw [show (((0 : Nat) : Int)) = 0 from rfl] at this
   rw [this]
   by_cases h : za5 l
   ·rw [if_pos h, if_pos (List.any_eq_true.2 (by obtain ⟨y, h1, h2⟩ := h; exact ⟨y, h1, by simpa using h2⟩))]; rfl
   ·rw [if_neg h, if_neg (fun h2 => h (by obtain ⟨y, h3, h4⟩ := List.any_eq_true.1 h2; exact ⟨y, h3, by simpa using h4⟩))]; rfl
  ·show z1i l ((l.length : Nat) : Int) = _;unfold z1i;rw [zi (by omega), zP (kL _)]; rfl
  ·intro i hi;have h5 := hlen _ (kF hi);show z1i l (i : Int) = _;unfold z1i;rw [zi (by omega), zY (by omega), z3l hi]
   simp only [cond_true, kA];rw [zi (by omega)]
   by_cases h : 65531 < l[i].length
   ·rw [zY (by omega)]; simp [h]
   ·rw [zP (by omega), jh (by omega)]; simp [h]
theorem yir (x : zC) (j : JT) (side : Int) (there : Nat) (all : List Int) (count : Int) : (layJ x j side there all count).2.1.2.2.1 = if (layJ x j side there all count).1 = 0 then count else j.2.2.1 := by
 unfold layJ
 repeat' split
 all_goals first | rfl | (rename_i h _; exact absurd h (by assumption)) | skip
 all_goals simp_all
theorem yvy {x : zC} (h : Dv k x) (hk : k <= 40000) (hx : 2 <= x.2.2.2.2.2.length /\ x.2.2.2.2.2.length <= 5000) {ch : List Int × Int × Int} (hc : z4y x ch) (hj : OkJ j) (hd : isB j.2.1) (hdl : j.2.1.length <= 1000000) (hcn : 0 <= j.2.2.1 /\ j.2.2.1 <= 1000000000) {l : List (List Int)} (hl : OkL l) :
  ∃ ch', zii (yd x ch j) l = some (yd (zlb x j l).2.2 ch' (zlb x j l).2.1, (zlb x j l).1) /\ z4y (zlb x j l).2.2 ch' := by
 have hn := hl.n;unfold zii zlb;rw [ymj x ch j hl];simp only [kA]
 by_cases hb : j.2.2.2 = true
 ·rw [if_pos hb, if_pos hb, qX (by decide)]
  simp only [cond_true, kA];exact ⟨ch, rfl, hc⟩
 ·rw [if_neg hb, if_neg hb]
  by_cases hlong : za5 l
  ·rw [if_pos hlong, if_pos hlong, qX (by decide)]
   simp only [cond_true, kA];exact ⟨ch, rfl, hc⟩
  ·rw [if_neg hlong, if_neg hlong, xj rfl, zi (by omega)]
   simp only [cond_false, kA]
   by_cases he : l = []
   ·rw [if_pos he, ql (by rw [he]; rfl)]
    simp only [cond_true];exact ⟨ch, rfl, hc⟩
   ·have hlen : ¬ ((l.length : Nat) : Int) = 0 := fun h0 => he (List.eq_nil_of_length_eq_zero (by omega))
    have hls := hl.s;rw [if_neg he, z00 hlen];simp only [cond_false];rw [show (yd x ch j).2.2.2.1 = j.2.1 from rfl, zi (by omega), yjs (by omega) (fun y hy => ⟨hl.b y hy, zm4 hlong y hy⟩) (by omega)]
    simp only [kA];rw [z3j (by omega)]
    obtain ⟨c1, e1, g1⟩ := ymi h hk hx hc hj hj.s (there := j.2.1.length) (all := j.2.1 ++ zq l) (hd.app (y0f hl.b hlong)) (by rw [kE]; omega) (by rw [kE]; omega) (j.2.2.1 + (l.length : Int))
    rw [show (yd x ch j).2.2.1 = j.1.2.1 from rfl, e1]
    simp only [kA];have hcnt := yir x j j.1.2.1 j.2.1.length (j.2.1 ++ zq l) (j.2.2.1 + (l.length : Int));generalize layJ x j j.1.2.1 j.2.1.length (j.2.1 ++ zq l) (j.2.2.1 + (l.length : Int)) = r at *;refine ⟨c1, ?_, g1⟩
    by_cases hr : r.1 = 0
    ·rw [ql hr, zi (by omega)]
     rw [if_pos hr] at hcnt;simp only [cond_true, kA];have : (yd r.2.2 c1 (y9l r j.2.2.1)).2.2.2.2.1 = j.2.2.1 := rfl;rw [this, zo (by omega)]
     unfold yd y9l;simp only;rw [hcnt]
    ·rw [z00 hr];rw [if_neg hr] at hcnt;simp only [cond_false, kA];unfold yd y9l;simp only;rw [hcnt]
theorem ylg {x : zC} (h : Dv k x) (hk : k <= 40000) (hx : 2 <= x.2.2.2.2.2.length /\ x.2.2.2.2.2.length <= 5000) {ch : List Int × Int × Int} (hc : z4y x ch) (hj : OkJ j) {l : List (List Int)} (hl : OkL l) :
  ∃ ch', z6t (yd x ch j) l = some (yd (z5x x j l).2.2 ch' (z5x x j l).2.1, (z5x x j l).1) /\ z4y (z5x x j l).2.2 ch' := by
 have hn := hl.n;have hs := hj.s;unfold z6t z5x;rw [ymj x ch j hl];simp only [kA]
 by_cases hb : j.2.2.2 = true
 ·rw [if_pos hb, if_pos hb, qX (by decide)]
  simp only [cond_true, kA];exact ⟨ch, rfl, hc⟩
 ·rw [if_neg hb, if_neg hb]
  by_cases hlong : za5 l
  ·rw [if_pos hlong, if_pos hlong, qX (by decide)]
   simp only [cond_true, kA];exact ⟨ch, rfl, hc⟩
  ·rw [if_neg hlong, if_neg hlong, xj rfl];simp only [cond_false];have hls := hl.s;rw [yjs (by omega) (fun y hy => ⟨hl.b y hy, zm4 hlong y hy⟩) (by omega)]
   simp only [kA];rw [show (yd x ch j).2.2.1 = j.1.2.1 from rfl, zo (by omega)]
   obtain ⟨c1, e1, g1⟩ := ymi h hk hx hc hj (side := 1 - j.1.2.1) (by omega) (there := 0) (all := zq l) (y0f hl.b hlong) (by omega) (by omega) (l.length : Int)
   rw [show ((0 : Nat) : Int) = 0 from rfl] at e1
   rw [e1];simp only [kA];have hcnt := yir x j (1 - j.1.2.1) 0 (zq l) (l.length : Int);generalize layJ x j (1 - j.1.2.1) 0 (zq l) (l.length : Int) = r at *;refine ⟨c1, ?_, g1⟩
   by_cases hr : r.1 = 0
   ·rw [ql hr, zi (by omega)]
    rw [if_pos hr] at hcnt;simp only [cond_true, kA];unfold yd y9l;simp only;rw [hcnt]
   ·rw [z00 hr];rw [if_neg hr] at hcnt;simp only [cond_false, kA];unfold yd y9l;simp only;rw [hcnt]
theorem yab {x : zC} (h : Dv k x) (ch : List Int × Int × Int) {i : Nat} (hi : i < x.2.2.2.2.2.length) : z7b (yj x ch) (i : Int) = some (z54 x i) := by
 have := ymk (yj x ch) i (by have := h.ok.l; show x.1.length < _; omega) hi
 rw [this];unfold z54;rw [kG hi]; rfl
abbrev zJ : RJT := (([], [], 0, ([], 0, 0), 0, false), 0, 0, [], 0, false)
theorem yck {x : zC} (h : Dv k x) (ch : List Int × Int × Int) (hx : 6 <= x.2.2.2.2.2.length /\ x.2.2.2.2.2.length <= 5000) :
  zb yM (0, 0, yj x ch, zJ, (yj x ch, 0, 0, [], 0, false)) = some ((zeg x).2.2, yj x ch, zJ, (yj x ch, (zeg x).1, (zeg x).2.1, [], 0, false)) := by
 have hr : 0 <= zt x.2.2.2.2.2.length /\ zt x.2.2.2.2.2.length <= 1000000000 := by unfold zt zM; omega
 have step : ∀ (i : Nat) (b : Int × Int × Int), i < 2 -> yM (b.2.2, (i : Int), yj x ch, zJ, (yj x ch, b.1, b.2.1, [], 0, false)) =
   some (.inl ((z8m b (z0n (z54 x i) (zt x.2.2.2.2.2.length))).2.2, ((i + 1 : Nat) : Int), yj x ch, zJ, (yj x ch, (z8m b (z0n (z54 x i) (zt x.2.2.2.2.2.length))).1, (z8m b (z0n (z54 x i) (zt x.2.2.2.2.2.length))).2.1, [], 0, false))) := fun i b hi => by
  show z33 b.2.2 (i : Int) (yj x ch) zJ (yj x ch, b.1, b.2.1, [], 0, false) = _;unfold z33;rw [zY (by omega), yab h ch (by omega), ztu x ch (by omega)]
  simp only [cond_true, kA];rw [yri (zt3 h (by omega)) (yj5 h (by omega)) hr]
  simp only [kA];unfold z8m;rw [jh (by omega)]
  by_cases hb : b.1 < (z0n (z54 x i) (zt x.2.2.2.2.2.length)).1
  ·rw [zY hb, if_pos hb]; rfl
  ·rw [zP hb, if_neg hb]; rfl
 have s0 := step 0 (0, 0, 0) (by omega)
 rw [zL];refine (congrArg (fun z => kO z _) s0).trans ?_
 simp only [kA, Sum.elim_inl];rw [zL, step 1 _ (by omega)]
 simp only [kA, Sum.elim_inl];rw [zL];rfl
theorem yc1 {k : Nat} {x : zC} (h : Dv k x) (ch : List Int × Int × Int) (hx : 6 <= x.2.2.2.2.2.length /\ x.2.2.2.2.2.length <= 5000) {t : Int × Int × Int} (ht : OkT t (zt x.2.2.2.2.2.length)) (j : RJT) :
  ∀ (n i : Nat), i + n = clS t.2.2.toNat ->
  zb yi (t.2.2, z43 x t.2.1 i, zB x.2.2.2.2.2.length t.2.1 + (i : Int), yj x ch, zJ, j) = some (t.2.2, z43 x t.2.1 (clS t.2.2.toNat), zJ, j)
 | 0, i, hn => by
  obtain ⟨t1, t2, t3, t4, t5, t6, t7⟩ := ht;have hcl : (clS t.2.2.toNat : Int) <= zM x.2.2.2.2.2.length := by unfold clS; unfold zt at t6; omega
  have hdl := zcc h hx ⟨t3, t4⟩ i (by omega)
  have e : i = clS t.2.2.toNat := by omega
  subst e;rw [zL];show (xw _ _ _ _ _ _).bind _ = _;unfold xw;have : clS t.2.2.toNat <= 5000 := by unfold zM at hcl; omega
  rw [zi (by simp only; omega)]
  simp only;rw [hdl, zP (by unfold clS; omega)]; rfl
 | n + 1, i, hn => by
  have ht' := ht;obtain ⟨t1, t2, t3, t4, t5, t6, t7⟩ := ht';have hcl : (clS t.2.2.toNat : Int) <= zM x.2.2.2.2.2.length := by unfold clS; unfold zt at t6; omega
  have hdl := zcc h hx ⟨t3, t4⟩ i (by omega)
  obtain ⟨b0, b1⟩ := y6b hx ⟨t3, t4⟩ (i := i) (by omega)
  have : clS t.2.2.toNat <= 5000 := by unfold zM at hcl; omega
  rw [zL];have e : yi (t.2.2, z43 x t.2.1 i, zB x.2.2.2.2.2.length t.2.1 + (i : Int), yj x ch, zJ, j) = some (.inl (t.2.2, z43 x t.2.1 (i + 1), zB x.2.2.2.2.2.length t.2.1 + ((i + 1 : Nat) : Int), yj x ch, zJ, j)) := by
   show xw _ _ _ _ _ _ = _;unfold xw;rw [zi (by simp only; omega)]
   simp only;rw [hdl, zY (by unfold clS at hn; omega)]
   have hb : zB x.2.2.2.2.2.length t.2.1 + (i : Int) = (((zB x.2.2.2.2.2.length t.2.1).toNat + i : Nat) : Int) := by omega
   have hlen := zt3 h b1;simp only [cond_true];rw [hb, yab h ch b1];simp only [kA];rw [z3j (by rw [hdl, hlen]; omega), zqg, jh (by omega)]
   congr 3;simp only [Prod.mk.injEq, true_and, and_true];omega
  rw [e];exact yc1 h ch hx ht j n (i + 1) (by omega)
theorem ytx {left : Int} {c : List Int × Int × Int} {nn : Int} {s : List (List Int)} {t : Int × Int × Int} {rs : List (List Int)} (hd : Dv k ([], left, c, nn, false, s)) (hlie : Lie s) (h : Fnd s t (zq rs)) (hr : ∀ y, y ∈ rs -> isB y /\ y.length <= 65531) (ch : List Int × Int × Int) :
  z2d (yj ([], left, c, nn, false, s) ch) = some (yd ([], left, c, nn, false, s) ch (t, zq rs, (rs.length : Int), false), rs, 0) := by
 have hx := hlie.n;have hok := h.ok;have hu := h.used;have hp : zeg ([], left, c, nn, false, s) = t := h.pick;have e : t.2.2.toNat = (zq rs).length := by omega
 obtain ⟨t1, t2, t3, t4, t5, t6, t7⟩ := hok;have hroomB : zt s.length <= 640000 := by unfold zt zM; omega
 have hcnt := z9l rs;have hsec : 0 <= zM s.length /\ zM s.length <= 5000 := by unfold zM; omega
 have hm : 0 <= t.2.1 * zM s.length /\ t.2.1 * zM s.length <= 5000 := by
  rcases (show t.2.1 = 0 \/ t.2.1 = 1 by omega) with e | e
  ·rw [e, Int.zero_mul]; omega
  ·rw [e, Int.one_mul]; exact hsec
 unfold z2d;rw [show (yj ([], left, c, nn, false, s) ch).2.2.2.2.2 = false from rfl]
 simp only [cond_false];have e1 := yck hd ch hx;rw [hp] at e1;rw [e1];simp only [kA];rw [z00 (by omega), ztu _ ch (by simp only; omega)]
 simp only [cond_false, kA];have e2 : W64 (2 + W64 (t.2.1 * W64 ((zt s.length).tdiv 256))) = zB s.length t.2.1 + ((0 : Nat) : Int) := by
  have : (zt s.length).tdiv 256 = zM s.length := by unfold zt; rw [kC (by omega)]; omega
  rw [this, zo (n := zM _) (by omega), zo (n := t.2.1 * zM _) (by omega), zo (by omega)]
  unfold zB; simp
 have e3 := yc1 hd ch hx ⟨t1, t2, t3, t4, t5, t6, t7⟩ (yj ([], left, c, nn, false, s) ch, t.1, t.2.1, [], 0, false) (clS t.2.2.toNat) 0 (by omega)
 have e4 := yjz hd rfl hx ⟨t3, t4⟩ (by simp only; omega) h.sec
 have e5 := zcc hd hx ⟨t3, t4⟩ (clS t.2.2.toNat) (by simp only; unfold clS; unfold zt at t6; omega)
 rw [show z43 ([], left, c, nn, false, s) t.2.1 0 = [] from rfl] at e3
 simp only at e2 e3 ⊢;rw [e2, e3];simp only [kA];have e6 : zA (z43 ([], left, c, nn, false, s) t.2.1 (clS t.2.2.toNat)) 0 t.2.2 = zq rs := by
  simp only [zA];rw [show t.2.2.toNat - (0 : Int).toNat = (zq rs).length by omega, e]
  exact e4
 rw [e5, qG (by unfold clS; omega), e6]
 simp only [cond_true];rw [ylf hr (by omega)]
 simp only [kA];rw [zi (by omega)]
 rfl
theorem yre (n : Nat) (h : 6 <= n /\ n <= 14) :
  ∃ ch, z2d (yj (z32 n) ([], 0, 0)) = some (yd ([], -1, ([], 0, 0), 2, false, zjm n) ch ((1, 0, 0), [], 0, false), [], 0) := by
 have hlen : (kB n z2n).length = n := kR;have hd := ym6 n (by omega)
 have htell : xk (z32 n) (1, 0, 0) = (0, ([], -1, ([], 0, 0), 2, false, zjm n)) := by
  rcases y63 (s := kB n z2n) (by omega) (-1) ([], 0, 0) 0 (by omega) (1, 0, 0) (by decide) with ⟨left', e, h1, h2, h3⟩ | ⟨h0, _⟩
  ·rw [h3 (by omega)] at e
   exact e
  ·omega
 have hp : zeg (z32 n) = (0, 0, 0) := by
  have h0 : z54 (z32 n) 0 = z2n := by
   show z28 [] 0 ((kB n z2n)[0]?.getD []) = _;rw [zyk, if_pos (by omega)]; rfl
  have h1 : z54 (z32 n) 1 = z2n := by
   show z28 [] 1 ((kB n z2n)[1]?.getD []) = _;rw [zyk, if_pos (by omega)]; rfl
  unfold zeg;rw [h0, h1, show z0n z2n _ = (0, 0, 0) from ych]; rfl
 unfold z2d;rw [show (yj (z32 n) ([], 0, 0)).2.2.2.2.2 = false from rfl]
 simp only [cond_false];rw [yck hd ([], 0, 0) (by show 6 <= (kB n z2n).length /\ (kB n z2n).length <= 5000; omega), hp]
 simp only [kA];rw [ql rfl];simp only [cond_true];obtain ⟨c1, e1, g1⟩ := yjv hd (by omega) (ch := ([], 0, 0)) (.inl rfl) ((0, 0, 0), [], 0, false) (n := 1) (side := 0) (data := []) (by omega) (by omega) (by simp)
 refine ⟨c1, ?_⟩;rw [show ((yj (z32 n) ([], 0, 0), (0 : Int), (0 : Int), ([] : List Int), (0 : Int), false) : RJT) = yd (z32 n) ([], 0, 0) ((0, 0, 0), [], 0, false) from rfl, e1, show ((1 : Int), (0 : Int), ((kT ([] : List Int) : Nat) : Int)) = (1, 0, 0) from rfl, htell]
 rfl
theorem ym5 (n : Int) (h : 1 <= n /\ n <= 4096) : zcl n = some (0, z32 n.toNat) := by
 unfold zcl z32 y0h;rw [zP (by omega), zP (by omega), z3g (by omega), z3g (by omega), kR, beq_self]
 rfl
theorem yq9 : z6s = some true := by
 unfold z6s;rw [ym5 6 (by omega)]
 have hop := yjb 6 (by omega)
 have hj := ym4 6 (by omega)
 have hlen : (zq [[97, 98], []]).length = 12 := by simp [zq, z77, z2i]
 obtain ⟨r, e, ho⟩ := ylo hj (by omega) (by decide) yvk (by rintro ⟨x, hx, h2⟩; simp at hx; rcases hx with rfl | rfl <;> simp at h2) (by simp)
 simp only [kA, Sum.elim_inr, beq_self, cond_true, List.nil_append, yx, z32] at e ho ⊢;rw [show (6 : Int).toNat = 6 from rfl, hop]
 simp only [kA, Sum.elim_inr, beq_self, cond_true, kS];rw [zi (by omega), xj (show ((0 : Nat) : Int) = 0 from rfl)]
 simp only [cond_false];rw [show (zq [] : List Int) = [] from rfl, show ((kT ([] : List (List Int)) : Nat) : Int) = 0 from rfl] at e
 rw [xj (show (0 : Int) = 0 from rfl)]
 simp only [cond_false];rw [e];rcases ho with ⟨e2, h1⟩ | ⟨left', nn', s', e2, h1, h2, h3⟩ | ⟨h0, _⟩
 ·exfalso;rw [hlen, zhb] at h1;have := ymm 6 (by omega)
  omega
 ·have hl := h3 (by omega)
  subst hl;have hf := yja h2.dv h2.lie h2.st.fnd h2.recs;have hs6 : s'.length = 6 := by rw [h1, zhb]
  rw [e2];simp only [z2m, kA, beq_self, cond_true];rw [xj rfl, hf];simp only [cond_false, kA, Sum.elim_inr, yx, beq_self, cond_true];rw [ql rfl, zi (by simp), ql (by rfl), yin]
  simp only [cond_true, kA];rw [ze8 rfl, yq5];simp only [cond_true, kA];rw [zi (by simp), ql (by rfl)]
  simp only [cond_true];have hrm := yjt (x := ([], -1, ([], 0, 0), nn', false, s')) (by simp only; omega) (j := ((1 + 1, 0, ((zq [[97, 98], []]).length : Int)), zq [[97, 98], []], (kT ([[97, 98], []] : List (List Int)) : Int), false)) (by simp only; omega) s' rfl
  simp only at hrm;rw [hrm, hlen, hs6];simp only [kA];rw [show zt 6 - ((12 : Nat) : Int) = 500 by unfold zt zM; rfl, ql rfl]
  simp only [cond_true];unfold z10;simp only [kA];rw [ql (by rfl)]
 ·omega
theorem yg2 {l : List (List Int)} (h : l.length <= 1000000) : z81 l = some l := by
 have e := yu9 h;unfold z81;unfold zp8 at e;rw [zi (by omega)] at e ⊢
 rw [show Nat.beq 0 (kT ([] : List (List Int))) = true from rfl, cond_true] at e ⊢
 have hf : jg = z52 := rfl;rw [hf];rw [Option.bind_eq_some_iff] at e;obtain ⟨o, h1, h2⟩ := e;rw [beq_self, cond_true] at h2;cases h2;refine (congrArg (fun z => kO z _) h1).trans ?_
 simp only [kA, yx]
structure PlS (n i : Nat) (x : zC) (ch : List Int × Int × Int) (j : JT) : Prop where
 l : x.1 = []
 dv : Dv (3 + 100 * i) x
 c : z4y x ch
 lie : Lie x.2.2.2.2.2
 n : x.2.2.2.2.2.length = n
 st : ∃ t rs, St x.2.2.2.2.2 t (zq rs) /\ (∀ y, y ∈ rs -> isB y /\ y.length <= 65531) /\ t.1 <= 1 + (i : Int) /\ ((x.2.2.2.2.1 = false /\ j = (t, zq rs, (rs.length : Int), false)) \/ (x.2.2.2.2.1 = true /\ j.2.2.2 = true))
 jo : OkJ j
 jb : isB j.2.1
 jl : j.2.1.length <= 1000000
 jc : 0 <= j.2.2.1 /\ j.2.2.1 <= 1000000000
theorem zzb {s : List (List Int)} {t : Int × Int × Int} {rs : List (List Int)} (hl : Lie s) (h : St s t (zq rs)) (hr : ∀ y, y ∈ rs -> isB y /\ y.length <= 65531) (b : Bool) :
  OkJ (t, zq rs, (rs.length : Int), b) /\ isB (zq rs) /\ (zq rs).length <= 1000000 /\ (0 <= (rs.length : Int) /\ (rs.length : Int) <= 1000000000) := by
 obtain ⟨t1, t2, t3, t4, t5, t6, t7⟩ := h.ok;have hu := h.used;have hn := hl.n;have hroom : zt s.length <= 640000 := by unfold zt zM; omega
 have := z9l rs;exact ⟨⟨⟨by simp only; omega, t2⟩, t3, t4⟩, zef rs hr, by omega, by omega, by omega⟩
theorem y9m {x : zC} {ch : List Int × Int × Int} (hx : 2 <= x.2.2.2.2.2.length /\ x.2.2.2.2.2.length <= 5000) (hj : j.2.1.length <= 1000000) :
  z4v (x.2.2.2.2.2, x.1, x.2.1, x.2.2.1, x.2.2.2.1, x.2.2.2.2.1) (x.2.2.2.2.2, x.1, x.2.1, x.2.2.1, x.2.2.2.1, x.2.2.2.2.1) j.1 j.2.1 j.2.2.1 j.2.2.2 (yd x ch j) = some true := by
 have hroom : 0 <= zt x.2.2.2.2.2.length /\ zt x.2.2.2.2.2.length <= 1000000 := by unfold zt zM; omega
 unfold z4v;rw [yjt hx hj _ rfl, show (yd x ch j).1 = yj x ch from rfl, ztu x ch hx, show (yd x ch j).2.2.2.1 = j.2.1 from rfl]
 simp only [kA];rw [zi (by omega), zo (by omega), zh3]
 simp only [cond_true];unfold z10 xK z6b;simp only [kA];rw [show (yd x ch j).2.2.2.2.1 = j.2.2.1 from rfl, zh3, show (yd x ch j).2.2.2.2.2 = j.2.2.2 from rfl, show (yj x ch).2.2.2.2.1 = x.2.2.2.1 from rfl, zh3]
 simp
theorem y49 {a b : Int × JT × zC} (h : z2m a = z2m b) : a = b := by
 obtain ⟨e, ⟨t, d, c, k⟩, x⟩ := a;obtain ⟨e2, ⟨t2, d2, c2, k2⟩, x2⟩ := b;simp only [z2m, Prod.mk.injEq] at h ⊢;obtain ⟨h1, h2, h3, h4, h5, h6⟩ := h;exact ⟨h1, ⟨h2, h3, h4, h5⟩, h6⟩
structure PlX (n i : Nat) (x : zC) (ch : List Int × Int × Int) : Prop where
 l : x.1 = []
 dv : Dv (3 + 100 * i) x
 c : z4y x ch
 lie : Lie x.2.2.2.2.2
 n : x.2.2.2.2.2.length = n
 st : ∃ t rs, St x.2.2.2.2.2 t (zq rs) /\ (∀ y, y ∈ rs -> isB y /\ y.length <= 65531) /\ t.1 <= 1 + (i : Int)
theorem PlS.x {n i : Nat} {x : zC} {ch : List Int × Int × Int} {j : JT} (h : PlS n i x ch j) : PlX n i x ch := by
 obtain ⟨t, rs, h1, h2, h3, _⟩ := h.st;exact ⟨h.l, h.dv, h.c, h.lie, h.n, t, rs, h1, h2, h3⟩
theorem yqr {n i : Nat} {left : Int} {c : List Int × Int × Int} {nn : Int} {s : List (List Int)} {t t' : Int × Int × Int} {rs rs' : List (List Int)} {r : Int × JT × zC} (hj : Jn (3 + 100 * i) left c nn s t rs) (hi : i <= 100) (hn : s.length = n) (ht : t.1 <= 1 + (i : Int)) (ht' : t'.1 = t.1 + 1) (hr' : ∀ y, y ∈ rs' -> isB y /\ y.length <= 65531)
  (ho : Out (3 + 100 * i) left c nn s t t' rs rs' r) {ch' : List Int × Int × Int} (hc : z4y r.2.2 ch') : PlS n (i + 1) r.2.2 ch' r.2.1 := by
 have e100 : 3 + 100 * (i + 1) = 3 + 100 * i + 100 := by omega
 rcases ho with ⟨rfl, h1⟩ | ⟨left', nn', s', rfl, h1, hj', h4⟩ | ⟨h0, nn', s', rfl, h1, hd, hlie, hf⟩
 ·obtain ⟨q1, q2, q3, q4⟩ := zzb hj.lie hj.st hj.recs false;exact ⟨rfl, hj.dv.mono (by omega) (by omega), hc, hj.lie, hn, ⟨t, rs, hj.st, hj.recs, by omega, .inl ⟨rfl, rfl⟩⟩, q1, q2, q3, q4⟩
 ·obtain ⟨q1, q2, q3, q4⟩ := zzb hj'.lie hj'.st hj'.recs false;exact ⟨rfl, by rw [e100]; exact hj'.dv, hc, hj'.lie, by simp only; omega, ⟨t', rs', hj'.st, hj'.recs, by omega, .inl ⟨rfl, rfl⟩⟩, q1, q2, q3, q4⟩
 ·obtain ⟨q1, q2, q3, q4⟩ := zzb hj.lie hj.st hj.recs true;refine ⟨rfl, by rw [e100]; exact hd, hc, hlie, by simp only; omega, ?_, q1, q2, q3, q4⟩
  rcases hf with hf | hf
  ·exact ⟨t, rs, hf, hj.recs, by omega, .inr ⟨rfl, rfl⟩⟩
  ·exact ⟨t', rs', hf, hr', by omega, .inr ⟨rfl, rfl⟩⟩
theorem PlS.next {n i : Nat} {x : zC} {ch : List Int × Int × Int} (h : PlS n i x ch j) (hi : i <= 100) : PlS n (i + 1) x ch j := by
 obtain ⟨t, rs, h1, h2, h3, h4⟩ := h.st;exact ⟨h.l, h.dv.mono (by omega) (by omega), h.c, h.lie, h.n, ⟨t, rs, h1, h2, by omega, h4⟩, h.jo, h.jb, h.jl, h.jc⟩
theorem yx8 {n i : Nat} {x : zC} {ch : List Int × Int × Int} (h : PlS n i x ch j) (hi : i <= 100) (hn : 6 <= n /\ n <= 14) {l : List (List Int)} (hl : OkL l) (hs : ¬ za5 l) :
  ∃ r : Int × JT × zC, xN l j.1 j.2.1 j.2.2.1 j.2.2.2 x.1 x.2.1 x.2.2.1 x.2.2.2.1 x.2.2.2.2.1 x.2.2.2.2.2 = some (z2m r) /\ ∃ ch', zii (yd x ch j) l = some (yd r.2.2 ch' r.2.1, r.1) /\ PlS n (i + 1) r.2.2 ch' r.2.1 := by
 have hx : 2 <= x.2.2.2.2.2.length /\ x.2.2.2.2.2.length <= 5000 := by rw [h.n]; omega
 have e1 := yhj h.dv (by omega) hx h.jo h.jb h.jl h.jc hl
 obtain ⟨ch', e2, hc⟩ := yvy h.dv (by omega) hx h.c h.jo h.jb h.jl h.jc hl
 refine ⟨_, e1, ch', e2, ?_⟩;obtain ⟨t, rs, h1, h2, h3, h4⟩ := h.st;rcases h4 with ⟨hoff, hj⟩ | ⟨hoff, hj⟩
 ·obtain ⟨L, left, c, nn, off, s⟩ := x;have hL : L = [] := h.l;have hoff' : off = false := hoff;subst hL hoff' hj;have hjn : Jn (3 + 100 * i) left c nn s t rs := ⟨h.dv, h.lie, h1, h2, by have := h.n; simp only at this; omega⟩
  by_cases hne : l = []
  ·have e3 := ys4 hjn (by omega)
   rw [hne] at e1 e2 hc ⊢;have : zlb ([], left, c, nn, false, s) (t, zq rs, (rs.length : Int), false) [] = (0, (t, zq rs, (rs.length : Int), false), ([], left, c, nn, false, s)) := y49 (Option.some.inj (e1.symm.trans e3));rw [this] at hc ⊢;exact ⟨rfl, h.dv.mono (by omega) (by omega), hc, h.lie, h.n, ⟨t, rs, h1, h2, by omega, .inl ⟨rfl, rfl⟩⟩, h.jo, h.jb, h.jl, h.jc⟩
  ·have ht1 := h1.ok.1;obtain ⟨r, e3, ho⟩ := ylo hjn (by omega) (by omega) hl hs hne
   have er : zlb ([], left, c, nn, false, s) (t, zq rs, (rs.length : Int), false) l = r := y49 (Option.some.inj (e1.symm.trans e3));rw [er] at hc ⊢;exact yqr hjn hi h.n h3 rfl (fun y hy => by
    rcases List.mem_append.1 hy with hy | hy
    ·exact h2 y hy
    ·exact ⟨hl.b y hy, zm4 hs y hy⟩) ho hc
 ·have er : zlb x j l = (3, j, x) := by unfold zlb; rw [if_pos hj]
  rw [er] at hc ⊢;exact ⟨h.l, h.dv.mono (by omega) (by omega), hc, h.lie, h.n, ⟨t, rs, h1, h2, by omega, .inr ⟨hoff, hj⟩⟩, h.jo, h.jb, h.jl, h.jc⟩
theorem yo6 {n i : Nat} {x : zC} {ch : List Int × Int × Int} (h : PlS n i x ch j) (hi : i <= 100) (hn : 6 <= n /\ n <= 14) {l : List (List Int)} (hl : OkL l) (hs : ¬ za5 l) :
  ∃ r : Int × JT × zC, qA l j.1 j.2.1 j.2.2.1 j.2.2.2 x.1 x.2.1 x.2.2.1 x.2.2.2.1 x.2.2.2.2.1 x.2.2.2.2.2 = some (z2m r) /\ ∃ ch', z6t (yd x ch j) l = some (yd r.2.2 ch' r.2.1, r.1) /\ PlS n (i + 1) r.2.2 ch' r.2.1 := by
 have hx : 2 <= x.2.2.2.2.2.length /\ x.2.2.2.2.2.length <= 5000 := by rw [h.n]; omega
 have e1 := yce h.dv (by omega) hx h.jo hl
 obtain ⟨ch', e2, hc⟩ := ylg h.dv (by omega) hx h.c h.jo hl
 refine ⟨_, e1, ch', e2, ?_⟩;obtain ⟨t, rs, h1, h2, h3, h4⟩ := h.st;rcases h4 with ⟨hoff, hj⟩ | ⟨hoff, hj⟩
 ·obtain ⟨L, left, c, nn, off, s⟩ := x;have hL : L = [] := h.l;have hoff' : off = false := hoff;subst hL hoff' hj;have hjn : Jn (3 + 100 * i) left c nn s t rs := ⟨h.dv, h.lie, h1, h2, by have := h.n; simp only at this; omega⟩
  have ht1 := h1.ok.1;obtain ⟨r, e3, ho⟩ := yld hjn (by omega) (by omega) hl hs
  have er : z5x ([], left, c, nn, false, s) (t, zq rs, (rs.length : Int), false) l = r := y49 (Option.some.inj (e1.symm.trans e3));rw [er] at hc ⊢;exact yqr hjn hi h.n h3 rfl (fun y hy => ⟨hl.b y hy, zm4 hs y hy⟩) ho hc
 ·have er : z5x x j l = (3, j, x) := by unfold z5x; rw [if_pos hj]
  rw [er] at hc ⊢;exact ⟨h.l, h.dv.mono (by omega) (by omega), hc, h.lie, h.n, ⟨t, rs, h1, h2, by omega, .inr ⟨hoff, hj⟩⟩, h.jo, h.jb, h.jl, h.jc⟩
theorem yup {n i : Nat} {x : zC} {ch : List Int × Int × Int} (j : JT) (h : PlX n i x ch) (hi : i <= 100) (hn : 6 <= n /\ n <= 14) :
  ∃ j' : JT, z74 (yd x ch j) x.1 x.2.1 x.2.2.1 x.2.2.2.1 x.2.2.2.2.1 j.1 j.2.1 j.2.2.1 j.2.2.2 x.2.2.2.2.2 =
   some (.inr (true, yd (x.1, x.2.1, x.2.2.1, x.2.2.2.1, false, x.2.2.2.2.2) ch j', x.1, x.2.1, x.2.2.1, x.2.2.2.1, false, j.1, j.2.1, j.2.2.1, j.2.2.2, j'.1, j'.2.1, j'.2.2.1, j'.2.2.2, x.2.2.2.2.2)) /\ PlS n (i + 1) (x.1, x.2.1, x.2.2.1, x.2.2.2.1, false, x.2.2.2.2.2) ch j' := by
 obtain ⟨t, rs, h1, h2, h3⟩ := h.st;obtain ⟨L, left, c, nn, off, s⟩ := x;have hL : L = [] := h.l;subst hL;have hd : Dv (3 + 100 * i) ([], left, c, nn, false, s) := yh7 h.dv.ok.left h.dv.ok.c h.dv;have hs := h.n;simp only at hs;obtain ⟨q1, q2, q3, q4⟩ := zzb h.lie h1 h2 false;refine ⟨(t, zq rs, (rs.length : Int), false), ?_, rfl, hd.mono (by omega) (by omega), h.c, h.lie, h.n, ⟨t, rs, h1, h2, by omega, .inl ⟨rfl, rfl⟩⟩, q1, q2, q3, q4⟩
 unfold z74;rw [beq_self, yqj];simp only [cond_true, kA, beq_self];unfold zfo;rw [beq_self, yja hd h.lie h1.fnd h2];simp only [cond_true, kA, beq_self, Sum.elim_inr];have e := ytx hd h.lie h1.fnd h2 ch;rw [show ((yd ([], left, c, nn, off, s) ch j).1.1, (yd ([], left, c, nn, off, s) ch j).1.2.1, (yd ([], left, c, nn, off, s) ch j).1.2.2.1, (yd ([], left, c, nn, off, s) ch j).1.2.2.2.1, (yd ([], left, c, nn, off, s) ch j).1.2.2.2.2.1, false) = yj ([], left, c, nn, false, s) ch from rfl, e]
 simp only [kA];have hcnt := z9l rs;have hroom := zzb h.lie h1 h2 false;rw [xj rfl, ql rfl];simp only [cond_true, cond_false, yx];rw [yfs (by omega)]
 simp only [cond_true, kA, beq_self, Sum.elim_inr]
theorem yy7 (a : Int) : 0 <= (xJ a).tmod 9 /\ (xJ a).tmod 9 <= 8 := by
 have h := zeq .u64 a;simp only [IntKind.min, IntKind.max, IntKind.bits, IntKind.signed] at h;have h0 : 0 <= xJ a := by simpa using h.1
 rw [kD h0];omega
theorem yvr {n i : Nat} {x : zC} {ch : List Int × Int × Int} (h : PlS n i x ch j) (hi : i <= 90) (hn : 6 <= n /\ n <= 14) {o : OpT} (ho : yih o) (hb : ∀ y, y ∈ o.2.1 -> isB y) :
  ∃ (x' : zC) (ch' : List Int × Int × Int) (j' : JT), z8l o (yd x ch j) x.1 x.2.1 x.2.2.1 x.2.2.2.1 x.2.2.2.2.1 j.1 j.2.1 j.2.2.1 j.2.2.2 x.2.2.2.2.2 =
   some (.inr (true, yd x' ch' j', x'.1, x'.2.1, x'.2.2.1, x'.2.2.2.1, x'.2.2.2.2.1, j'.1, j'.2.1, j'.2.2.1, j'.2.2.2, x'.2.2.2.2.2)) /\ PlS n (i + 2) x' ch' j' := by
 have hl := yv5 ho.1 ho.2.2 hb;have hs := ypz ho.2.2;have ho6 := ho.1;have hx : 2 <= x.2.2.2.2.2.length /\ x.2.2.2.2.2.length <= 5000 := by rw [h.n]; omega
 unfold z8l
 by_cases m0 : kW (xJ o.1) 5 = 0
 ·rw [ql m0];obtain ⟨r, e1, ch', e2, hp⟩ := yx8 h (by omega) hn hl hs
  have hx' : 2 <= r.2.2.2.2.2.2.2.length /\ r.2.2.2.2.2.2.2.length <= 5000 := by rw [hp.n]; omega
  refine ⟨r.2.2, ch', r.2.1, ?_, hp.next (by omega)⟩
  simp only [cond_true, beq_self];rw [e1];simp only [kA, z2m];rw [yg2 (by omega)]
  simp only [kA];rw [e2];simp only [kA, beq_self, cond_true, Sum.elim_inl];rw [zh3];simp only [cond_true, yx];rw [y9m hx' hp.jl];simp only [kA, beq_self, cond_true]
 rw [z00 m0]
 by_cases m1 : kW (xJ o.1) 5 = 1
 ·rw [ql m1];obtain ⟨r, e1, ch', e2, hp⟩ := yo6 h (by omega) hn hl hs
  have hx' : 2 <= r.2.2.2.2.2.2.2.length /\ r.2.2.2.2.2.2.2.length <= 5000 := by rw [hp.n]; omega
  refine ⟨r.2.2, ch', r.2.1, ?_, hp.next (by omega)⟩
  simp only [cond_true, cond_false, beq_self];rw [e1];simp only [kA, z2m];rw [yg2 (by omega)]
  simp only [kA];rw [e2];simp only [kA, beq_self, cond_true, Sum.elim_inl];rw [zh3];simp only [cond_true, yx];rw [y9m hx' hp.jl];simp only [kA, beq_self, cond_true]
 rw [z00 m1]
 by_cases m2 : kW (xJ o.1) 5 = 2
 ·rw [ql m2];obtain ⟨L, left, c, nn, off, s⟩ := x;have hL : L = [] := h.l;subst hL;have hc70 := ho.2.1;have e1 := ysh o.2.2.2 c (by omega) left nn off s h.lie.l
  have e2 := ymg (yj ([], left, c, nn, off, s) ch) o.2.2.2 (by simp [yj]) (by omega) h.dv.ok.d (by simp only at hx; show s.length < _; omega)
  obtain ⟨t, rs, h1, h2, h3, h4⟩ := h.st;obtain ⟨x2, ch2, g1, g2, hp2⟩ : ∃ (x2 : zC) (ch2 : List Int × Int × Int), qH o.2.2.2 [] left c nn off s = some x2 /\ z87 (yj ([], left, c, nn, off, s) ch) o.2.2.2 = some (yj x2 ch2) /\ PlX n i x2 ch2 := by
   cases off with
   | true => exact ⟨_, ch, e1, e2, rfl, h.dv, h.c, h.lie, h.n, ⟨t, rs, h1, h2, by omega⟩⟩
   | false => exact ⟨_, ([], 0, 0), e1, e2, rfl, yh7 (left' := -1) (off' := true) ⟨by decide, by decide⟩ h.dv.ok.c h.dv, .inl rfl, h.lie, h.n, ⟨t, rs, h1, h2, by omega⟩⟩
  obtain ⟨j', e, hp⟩ := yup j hp2 (by omega) hn
  refine ⟨_, ch2, j', ?_, hp.next (by omega)⟩
  simp only [cond_true, cond_false, beq_self];rw [g1];simp only [kA];rw [show (yd ([], left, c, nn, off, s) ch j).1 = yj ([], left, c, nn, off, s) ch from rfl, g2]
  simp only [kA, beq_self, cond_true];rw [show ((yj x2 ch2, (yd ([], left, c, nn, off, s) ch j).2) : RJT) = yd x2 ch2 j from rfl, e]
  simp only [kA, beq_self, cond_true, Sum.elim_inr]
 rw [z00 m2]
 by_cases m3 : kW (xJ o.1) 5 = 3
 ·rw [ql m3];have hp9 := yy7 o.2.2.1;obtain ⟨L, left, c, nn, off, s⟩ := x;have hL : L = [] := h.l;subst hL;have hc70 := ho.2.1;simp only [cond_true, cond_false, beq_self];rw [zo (n := (xJ o.2.2.1).tmod 9) (by omega), yvs _ hp9.1 _ (by omega)]
  unfold zr9;simp only [kA, beq_self, cond_true, Sum.elim_inl];have hm : zdp ((xJ o.2.2.1).tmod 9) (-1) = (xJ o.2.2.1).tmod 9 := by unfold zdp; rw [if_neg (by omega)]
  rw [zh3, hm];obtain ⟨t, rs, h1, h2, h3, h4⟩ := h.st;refine ⟨([], (xJ o.2.2.1).tmod 9, o.2.2.2, nn, off, s), o.2.2.2, j, ?_, rfl, (yh7 (by omega) (by omega) h.dv).mono (by omega) (by omega), .inr rfl, h.lie, h.n, ⟨t, rs, h1, h2, by omega, h4⟩, h.jo, h.jb, h.jl, h.jc⟩
  simp only [cond_true, yx];have := y9m (x := ([], (xJ o.2.2.1).tmod 9, o.2.2.2, nn, off, s)) (ch := o.2.2.2) (j := j) hx h.jl;have hl2 : z4v (s, [], (xJ o.2.2.1).tmod 9, o.2.2.2, nn, off) (s, [], (xJ o.2.2.1).tmod 9, o.2.2.2, nn, off) j.1 j.2.1 j.2.2.1 j.2.2.2 (yd ([], (xJ o.2.2.1).tmod 9, o.2.2.2, nn, off, s) o.2.2.2 j) = some true := this;rw [show ((((yd ([], left, c, nn, off, s) ch j).1.1, (yd ([], left, c, nn, off, s) ch j).1.2.1, (xJ o.2.2.1).tmod 9, o.2.2.2, (yd ([], left, c, nn, off, s) ch j).1.2.2.2.2), (yd ([], left, c, nn, off, s) ch j).2) : RJT) = yd ([], (xJ o.2.2.1).tmod 9, o.2.2.2, nn, off, s) o.2.2.2 j from rfl, hl2]
  simp only [kA, beq_self, cond_true]
 rw [z00 m3];obtain ⟨j', e, hp⟩ := yup j h.x (by omega) hn
 refine ⟨_, ch, j', ?_, hp.next (by omega)⟩
 simp only [cond_true, cond_false, beq_self];rw [e];simp only [kA, beq_self, cond_true, Sum.elim_inr]
theorem yqs {n : Nat} (hn : 6 <= n /\ n <= 14) {script : List OpT} (hl : script.length <= 30) (hf : ∀ o, o ∈ script -> yih o) (hb : ∀ o, o ∈ script -> ∀ y, y ∈ o.2.1 -> isB y) {x : zC} {ch : List Int × Int × Int} (h : PlS n 0 x ch j) :
  Ok (zb yc (.inr ((n : Int), script, ((script.length : Nat) : Int), 0, yd x ch j, x.1, x.2.1, x.2.2.1, x.2.2.2.1, x.2.2.2.2.1, j.1, j.2.1, j.2.2.1, j.2.2.2, x.2.2.2.2.2)))
   fun r => ∃ x ch j, r = .inr (.inl ((n : Int), yd x ch j, x.1, x.2.1, x.2.2.1, x.2.2.2.1, x.2.2.2.2.1, j.1, j.2.1, j.2.2.1, j.2.2.2, x.2.2.2.2.2)) /\ PlS n 60 x ch j := by
 refine ybt script.length (fun i (a : zC × (List Int × Int × Int) × JT) => .inr ((n : Int), script, ((script.length : Nat) : Int), (i : Int), yd a.1 a.2.1 a.2.2, a.1.1, a.1.2.1, a.1.2.2.1, a.1.2.2.2.1, a.1.2.2.2.2.1, a.2.2.1, a.2.2.2.1, a.2.2.2.2.1, a.2.2.2.2.2, a.1.2.2.2.2.2)) (fun i a => PlS n (2 * i) a.1 a.2.1 a.2.2) (x, ch, j) rfl h ?_ ?_
 ·rintro ⟨x, ch, j⟩ h;simp only at h;show Ok (yQ (n : Int) script ((script.length : Nat) : Int) ((script.length : Nat) : Int) (yd x ch j) x.1 x.2.1 x.2.2.1 x.2.2.2.1 x.2.2.2.2.1 j.1 j.2.1 j.2.2.1 j.2.2.2 x.2.2.2.2.2) _;unfold yQ;rw [zP (kL _)];refine zm5 (qb (qQ (zeo ⟨x, ch, j, rfl, ?_⟩)));obtain ⟨t, rs, h1, h2, h3, h4⟩ := h.st;exact ⟨h.l, h.dv.mono (by omega) (by omega), h.c, h.lie, h.n, ⟨t, rs, h1, h2, by omega, h4⟩, h.jo, h.jb, h.jl, h.jc⟩
 ·rintro i ⟨x, ch, j⟩ hi h;simp only at h;obtain ⟨x', ch', j', e, h'⟩ := yvr h (by omega) hn (hf _ (kF hi)) (hb _ (kF hi))
  show Ok (yQ (n : Int) script ((script.length : Nat) : Int) (i : Int) (yd x ch j) x.1 x.2.1 x.2.2.1 x.2.2.2.1 x.2.2.2.2.1 j.1 j.2.1 j.2.2.1 j.2.2.2 x.2.2.2.2.2) _;unfold yQ;rw [zY (by omega)]
  refine y6n (qx hi (qb (yxq e (yj8 ?_))));refine zm5 (qb (qQ (y6t ⟨(x', ch', j'), ?_, h'⟩)));rw [jh (by omega)]
theorem yo7 {n k : Nat} (hn : n <= 14) {x : zC} (h : Dv k x) (hs : x.2.2.2.2.2.length = n) (ho : x.2.2.2.2.1 = false) (ch : List Int × Int × Int) (j : JT) :
  zb zH ((n : Int), 0, yd x ch j, x.1, x.2.1, x.2.2.1, x.2.2.2.1, x.2.2.2.2.1, j.1, j.2.1, j.2.2.1, j.2.2.2, x.2.2.2.2.2) = some (.inl ()) := by
 have := y0g zH (fun i => ((n : Int), (i : Int), yd x ch j, x.1, x.2.1, x.2.2.1, x.2.2.2.1, x.2.2.2.2.1, j.1, j.2.1, j.2.2.1, j.2.2.2, x.2.2.2.2.2)) (fun _ => .inl ()) n ?_ ?_
 ·exact this
 ·show yq _ (n : Int) _ _ _ _ _ _ _ _ _ _ _ = _;unfold yq;rw [zP (kL _)]; rfl
 ·intro i hi;refine .inl ⟨?_, rfl⟩;show yq (n : Int) (i : Int) (yd x ch j) x.1 x.2.1 x.2.2.1 x.2.2.2.1 x.2.2.2.2.1 j.1 j.2.1 j.2.2.1 j.2.2.2 x.2.2.2.2.2 = _;unfold yq;rw [zY (by omega), beq_self, y9x h ho (by omega)]
  simp only [kA, cond_true, cond_false, yj1, yx];rw [show (yd x ch j).1 = yj x ch from rfl, yab h ch (by omega)]
  simp only [kA];rw [ze8 rfl, beq_self, jh (by omega)]
  rfl
theorem yo8 (n : Int) (script : List OpT) (hb : ∀ o, o ∈ script -> ∀ y, y ∈ o.2.1 -> isB y) (hl : script.length <= 9223372036854775807) (hs : ∀ o, o ∈ script -> o.2.1.length <= 9223372036854775807 /\ o.2.2.2.1.length <= 9223372036854775807 /\ ∀ y, y ∈ o.2.1 -> y.length <= 9223372036854775807) : zd9 n script = some true := by
 unfold zd9;rw [yq9];simp only [kA, kP, cond_false];obtain ⟨b, hb2, hfit⟩ := yv7 n script hl hs;rw [hb2];simp only [kA];cases b with
 | false => rfl
 | true =>
  obtain ⟨n1, n2, f0, hf⟩ := hfit rfl;obtain ⟨m, rfl⟩ : ∃ m : Nat, n = m := ⟨n.toNat, by omega⟩
  have hm : 6 <= m /\ m <= 14 := by omega
  rw [ym5 (m : Int) (by omega), yw4 m (by omega)]
  simp only [kA, kP, cond_false, beq_self, cond_true, kH];obtain ⟨ch, e1⟩ := yre m hm;have e0 : z4w (yj (z32 m) ([], 0, 0), 0, 0, [], 0, false) (z32 m).1 (z32 m).2.1 (z32 m).2.2.1 (z32 m).2.2.2.1 (z32 m).2.2.2.2.1 (z32 m).2.2.2.2.2 = some (.inr (true, yd ([], -1, ([], 0, 0), 2, false, zjm m) ch ((1, 0, 0), [], 0, false), [], -1, ([], 0, 0), 2, false, (1, 0, 0), [], 0, false, zjm m)) := by
   unfold z4w;have := yjb m (by omega)
   unfold z32;simp only [beq_self, cond_true];rw [this];simp only [kA, beq_self, cond_true, Sum.elim_inr];rw [show (([], -1, ([], 0, 0), 0, false, kB m (kB 256 0)) : zC) = z32 m from rfl, e1]
   simp only [kA, yj1, cond_false, zh3, cond_true, yx];rw [yfs (by simp)]
   simp only [kA, beq_self, cond_true]
  rw [e0];simp only [kA, beq_self, cond_true, Sum.elim_inr, Sum.elim_inl, kP, cond_false];rw [zi (by omega)]
  have hjn := ym4 m (by omega)
  obtain ⟨q1, q2, q3, q4⟩ := zzb hjn.lie hjn.st hjn.recs false;have h0 : PlS m 0 ([], -1, ([], 0, 0), 2, false, zjm m) ch ((1, 0, 0), [], 0, false) :=
   ⟨rfl, hjn.dv, .inl rfl, hjn.lie, zhb m, ⟨(1, 0, 0), [], hjn.st, hjn.recs, by decide, .inl ⟨rfl, rfl⟩⟩, q1, zrk, by decide, by decide⟩
  obtain ⟨r, hr, x, ch', j, rfl, hp⟩ := yqs hm f0 hf hb h0;refine (congrArg (fun z => kO (kO z _) _) hr).trans ?_
  simp only [kA, beq_self, cond_true, Sum.elim_inr, Sum.elim_inl];rw [yqj];simp only [kA, beq_self, cond_true];obtain ⟨L, left, c, nn, off, s⟩ := x;have hL : L = [] := hp.l;subst hL;have hd : Dv (3 + 100 * 60) ([], left, c, nn, false, s) := yh7 hp.dv.ok.left hp.dv.ok.c hp.dv;have := yo7 hm.2 hd hp.n rfl ch' j;refine (congrArg (fun z => kO z _) this).trans ?_
  rfl
end Go.Proofs.Ytpfjfldagldgnaa
