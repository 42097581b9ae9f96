import Derived.Test.YtpfjfldagldgnaaJrDtoJrQ
import Derived.Test.YtpfjfldagldgnaaJrItoJrA
open List renaming length → kA, replicate → kC, length_replicate → kE, eq_of_mem_replicate → kF
open Nat renaming beq → kB
open Int renaming tmod → kD, lt_irrefl → kH, tdiv → kI
open Option renaming bind_some → kG
set_option linter.unusedVariables false
set_option linter.unusedSimpArgs false
set_option maxRecDepth 100000
noncomputable section
namespace Go.Proofs.Ytpfjfldagldgnaa
open Go.Tm Go.Ab
structure Jn (k : Nat) (left : Int) (c : List Int × Int × Int) (nn : Int) (s : List (List Int)) (t : Int × Int × Int) (rs : List (List Int)) : Prop where
 dv : Dv k ([], left, c, nn, false, s)
 lie : Lie s
 st : St s t (zq rs)
 recs : ∀ y, y ∈ rs -> isB y /\ y.length <= 65531
 s : s.length <= 150
theorem ybj (a b : List (List Int)) : zq (a ++ b) = zq a ++ zq b := by unfold zq; rw [List.map_append, List.flatten_append]
theorem zm4 {l : List (List Int)} (h : ¬ za5 l) : ∀ x, x ∈ l -> x.length <= 65531 := fun x hx => by
 by_cases h2 : x.length <= 65531
 ·exact h2
 ·exact absurd ⟨x, hx, by omega⟩ h
variable {k : Nat}
theorem Jn.room {left : Int} {c : List Int × Int × Int} {nn : Int} {s : List (List Int)} {t : Int × Int × Int} {rs : List (List Int)} (h : Jn k left c nn s t rs) : (zq rs).length <= 640000 /\ ((zq rs).length : Int) <= zt s.length := by
 have h1 := h.st.ok.2.2.2.2.2.1;have h2 := h.st.used;have h3 := h.lie.n;have : zt s.length <= 640000 := by unfold zt zM; omega
 omega
def Out (k : Nat) (left : Int) (c : List Int × Int × Int) (nn : Int) (s : List (List Int)) (t t' : Int × Int × Int) (rs rs' : List (List Int)) (r : Int × JT × zC) : Prop :=
 (r = (5, (t, zq rs, (rs.length : Int), false), ([], left, c, nn, false, s)) /\ zt s.length < ((zq rs').length : Int)) \/
 (∃ left' nn' s', r = (0, (t', zq rs', (rs'.length : Int), false), ([], left', c, nn', false, s')) /\ s'.length = s.length /\ Jn (k + 100) left' c nn' s' t' rs' /\ (left < 0 -> left' = left)) \/
 (0 <= left /\ ∃ nn' s', r = (6, (t, zq rs, (rs.length : Int), true), ([], -1, c, nn', true, s')) /\ s'.length = s.length /\ Dv (k + 100) ([], -1, c, nn', true, s') /\ Lie s' /\ (St s' t (zq rs) \/ St s' t' (zq rs')))
theorem yqn {left : Int} {c : List Int × Int × Int} {nn : Int} {s : List (List Int)} {t : Int × Int × Int} {rs rs' : List (List Int)} (h : Jn k left c nn s t rs) (hk : k <= 80000) (hr : ∀ y, y ∈ rs' -> isB y /\ y.length <= 65531) {side' : Int} {there : Nat} (hm : May t (zq rs) side' there (zq rs')) :
  Out k left c nn s t (t.1 + 1, side', ((zq rs').length : Int)) rs rs' (layJ ([], left, c, nn, false, s) (t, zq rs, (rs.length : Int), false) side' there (zq rs') (rs'.length : Int)) := by
 have hd := h.dv.layJ (by omega) (j := (t, zq rs, (rs.length : Int), false)) (side := side') (there := there) hm.b (rs'.length : Int) h.s
 rcases yq7 h.lie h.st hm left c nn h.dv.ok.left.1 (rs.length : Int) (rs'.length : Int) with ⟨e, h1⟩ | ⟨left', nn', s', e, h1, h2, h3, h4, h5, h6⟩ | ⟨h0, nn', s', e, h1, h2, h3⟩
 ·exact .inl ⟨e, h1⟩
 ·rw [e] at hd;exact .inr (.inl ⟨left', nn', s', e, h1, ⟨hd, h2, h3, hr, by rw [h1]; exact h.s⟩, h6⟩)
 ·rw [e] at hd;exact .inr (.inr ⟨h0, nn', s', e, h1, hd, h2, h3⟩)
theorem ylo {left : Int} {c : List Int × Int × Int} {nn : Int} {s : List (List Int)} {t : Int × Int × Int} {rs : List (List Int)} (h : Jn k left c nn s t rs) (hk : k <= 80000) (hn : t.1 < 4611686018427387904) {l : List (List Int)} (hl : OkL l) (hs : ¬ za5 l) (hne : l ≠ []) :
  ∃ r, xN l t (zq rs) (rs.length : Int) false [] left c nn false s = some (z2m r) /\ Out k left c nn s t (t.1 + 1, t.2.1, ((zq (rs ++ l)).length : Int)) rs (rs ++ l) r := by
 have hx := h.lie.n;have hroom := h.room;have hc := z9l rs;have hj : OkJ (t, zq rs, (rs.length : Int), false) := ⟨⟨by have := h.st.ok.1; simp only; omega, h.st.ok.2.1⟩, h.st.ok.2.2.1, h.st.ok.2.2.2.1⟩
 have e := yhj h.dv (by omega) (by simp only; omega) hj (zef rs h.recs) (by simp only; omega) (by simp only; omega) hl
 have hrec : ∀ y, y ∈ rs ++ l -> isB y /\ y.length <= 65531 := fun y hy => by
  rcases List.mem_append.1 hy with h1 | h1
  ·exact h.recs y h1
  ·exact ⟨hl.b y h1, zm4 hs y h1⟩
 have hm : May t (zq rs) t.2.1 (zq rs).length (zq (rs ++ l)) := ⟨zef _ hrec, hn, .inl ⟨rfl, rfl, zq l, ybj rs l⟩⟩;have ho := yqn h hk hrec hm;refine ⟨_, e, ?_⟩;unfold zlb;rw [if_neg (by simp), if_neg hs, if_neg hne]
 simp only;rw [<- ybj, show (rs.length : Int) + (l.length : Int) = ((rs ++ l).length : Int) by rw [List.length_append]; simp]
 exact ho
theorem ys4 {left : Int} {c : List Int × Int × Int} {nn : Int} {s : List (List Int)} {t : Int × Int × Int} {rs : List (List Int)} (h : Jn k left c nn s t rs) (hk : k <= 80000) :
  xN [] t (zq rs) (rs.length : Int) false [] left c nn false s = some (0, t, zq rs, (rs.length : Int), false, [], left, c, nn, false, s) := by
 have hx := h.lie.n;have hroom := h.room;have hc := z9l rs;have hj : OkJ (t, zq rs, (rs.length : Int), false) := ⟨⟨by have := h.st.ok.1; simp only; omega, h.st.ok.2.1⟩, h.st.ok.2.2.1, h.st.ok.2.2.2.1⟩
 have e := yhj h.dv (by omega) (by simp only; omega) hj (zef rs h.recs) (by simp only; omega) (by simp only; omega) (l := []) ⟨by simp, fun x hx => (by cases hx), by simp [zq]⟩
 refine e.trans ?_;unfold zlb;rw [if_neg (by simp), if_neg (by rintro ⟨x, hx, _⟩; cases hx), if_pos rfl]
 rfl
theorem yld {left : Int} {c : List Int × Int × Int} {nn : Int} {s : List (List Int)} {t : Int × Int × Int} {rs : List (List Int)} (h : Jn k left c nn s t rs) (hk : k <= 80000) (hn : t.1 < 4611686018427387904) {l : List (List Int)} (hl : OkL l) (hs : ¬ za5 l) :
  ∃ r, qA l t (zq rs) (rs.length : Int) false [] left c nn false s = some (z2m r) /\ Out k left c nn s t (t.1 + 1, 1 - t.2.1, ((zq l).length : Int)) rs l r := by
 have hx := h.lie.n;have hj : OkJ (t, zq rs, (rs.length : Int), false) := ⟨⟨by have := h.st.ok.1; simp only; omega, h.st.ok.2.1⟩, h.st.ok.2.2.1, h.st.ok.2.2.2.1⟩
 have e := yce h.dv (by omega) (by simp only; omega) hj hl
 have hrec : ∀ y, y ∈ l -> isB y /\ y.length <= 65531 := fun y h1 => ⟨hl.b y h1, zm4 hs y h1⟩
 have hm : May t (zq rs) (1 - t.2.1) 0 (zq l) := ⟨zef _ hrec, hn, .inr ⟨rfl, rfl⟩⟩;have ho := yqn h hk hrec hm;refine ⟨_, e, ?_⟩;unfold z5x;rw [if_neg (by simp), if_neg hs]
 exact ho
theorem yja {left : Int} {c : List Int × Int × Int} {nn : Int} {s : List (List Int)} {t : Int × Int × Int} {rs : List (List Int)} (hd : Dv k ([], left, c, nn, false, s)) (hlie : Lie s) (h : Fnd s t (zq rs)) (hr : ∀ y, y ∈ rs -> isB y /\ y.length <= 65531) :
  qM [] left c nn false s = some (.inr (0, [], left, c, nn, false, t, zq rs, (rs.length : Int), false, rs, s)) := by
 have hx := hlie.n;have hok := h.ok;have hu := h.used;have hp : zeg ([], left, c, nn, false, s) = t := h.pick;have e : t.2.2.toNat = (zq rs).length := by omega
 refine yo2 hd rfl hx hp hok hr ?_;rw [e];exact yjz hd rfl hx ⟨hok.2.2.1, hok.2.2.2.1⟩ (by have := hok.2.2.2.2.2.1; simp only; omega) h.sec
def z2n : List Int := kC 256 0
def zjm (n : Nat) : List (List Int) := (kC n z2n).set 1 (yr (1, 0, 0))
theorem ym6 (n : Nat) (hn : n <= 5000) : Dv 1 (z32 n) :=
 ⟨yvh n (by omega), Nat.zero_le _, by show (0 : Int) <= 1; omega, by omega, fun y hy => by rw [kF hy]; exact zlq 256, fun w hw => by cases hw⟩
theorem zyk (n q : Nat) : (kC n z2n)[q]? = if q < n then some z2n else none := List.getElem?_replicate
theorem ym8 (n : Nat) (h : 6 <= n /\ n <= 5000) : Lie (kC n z2n) :=
 ⟨by rw [kE]; exact h, fun y hy => by rw [kF hy]; exact kE, fun y hy => by rw [kF hy]; exact zlq 256⟩
theorem zhb (n : Nat) : (zjm n).length = n := by unfold zjm; rw [List.length_set, kE]
theorem y9p (n : Nat) (h : 6 <= n /\ n <= 5000) : Lie (zjm n) := by
 refine ⟨by rw [zhb]; exact h, fun y hy => ?_, fun y hy => ?_⟩
 ·rcases List.mem_or_eq_of_mem_set hy with h2 | h2
  ·exact (ym8 n h).l y h2
  ·rw [h2]; exact z2e _
 ·rcases List.mem_or_eq_of_mem_set hy with h2 | h2
  ·exact (ym8 n h).b y h2
  ·rw [h2]; exact z3i _
theorem ymm (n : Nat) (h : 6 <= n /\ n <= 5000) : 512 <= zt n /\ zt n <= 640000 := by unfold zt zM; omega
theorem yvg (n : Nat) (h : 6 <= n /\ n <= 5000) : St (zjm n) (1, 0, 0) [] := by
 have hr := ymm n h;have hl : 1 < (kC n z2n).length := by rw [kE]; omega
 refine ⟨by rw [zhb]; exact ⟨by decide, by decide, by decide, by decide, by decide, by simp only; omega, by omega⟩, rfl, List.getElem?_set_self hl, ⟨z2n, ?_, Old.zero⟩, fun i y hi => absurd hi (by simp [clS])⟩
 show (zjm n)[0]? = _;unfold zjm;rw [zhm _ _ _ _ hl, if_neg (by omega), zyk, if_pos (by omega)]
theorem ym4 (n : Nat) (h0 : 6 <= n /\ n <= 150) : Jn 3 (-1) ([], 0, 0) 2 (zjm n) (1, 0, 0) [] := by
 have h : 6 <= n /\ n <= 5000 := by omega
 refine ⟨?_, y9p n h, yvg n h, fun y hy => (by cases hy), by rw [zhb]; exact h0.2⟩
 refine ⟨⟨⟨(y9p n h).l, fun w hw => by cases hw⟩, by simp, by simp, by simp, by simp, by simp only; rw [zhb]; omega⟩, Nat.zero_le _, by simp, by omega, (y9p n h).b, fun w hw => by cases hw⟩
theorem yjb (n : Nat) (h : 6 <= n /\ n <= 5000) :
  qM [] (-1) ([], 0, 0) 0 false (kC n (kC 256 0)) = some (.inr (0, [], -1, ([], 0, 0), 2, false, (1, 0, 0), [], 0, false, [], zjm n)) := by
 have hlen : (kC n z2n).length = n := kE;have htell : xk (z32 n) (1, 0, 0) = (0, ([], -1, ([], 0, 0), 2, false, zjm n)) := by
  rcases y63 (s := kC n z2n) (by omega) (-1) ([], 0, 0) 0 (by omega) (1, 0, 0) (by decide) with ⟨left', e, h1, h2, h3⟩ | ⟨h0, _⟩
  ·rw [h3 (by omega)] at e
   exact e
  ·omega
 have hp : (zeg (z32 n)).1 = 0 := by
  have h0 : z54 (z32 n) 0 = z2n := by
   show z28 [] 0 ((kC n z2n)[0]?.getD []) = _;rw [zyk, if_pos (by omega)]; rfl
  have h1 : z54 (z32 n) 1 = z2n := by
   show z28 [] 1 ((kC n z2n)[1]?.getD []) = _;rw [zyk, if_pos (by omega)]; rfl
  unfold zeg;rw [h0, h1, show z0n z2n _ = (0, 0, 0) from ych]; rfl
 have := yo3 (ym6 n h.2) (by omega) rfl (by show 6 <= (kC n _).length /\ (kC n _).length <= 5000; rw [kE]; exact h) hp (by rw [htell])
 rw [htell] at this;exact this
theorem yvk : OkL [[97, 98], []] := ⟨by simp, fun x hx => by
 simp only [List.mem_cons, List.not_mem_nil, or_false] at hx;rcases hx with rfl | rfl
 ·unfold isB; decide
 ·exact zrk, by simp [zq, z77, z2i]⟩
theorem yj1 (a : Int) : neI a a = false := xj rfl
theorem zh3 (a : Int) : eqI a a = true := ql rfl
theorem ysh (c c2 : List Int × Int × Int) (hc : c.1.length < 1000000) (left nn : Int) (off : Bool) (s : List (List Int)) (hl : ∀ y, y ∈ s -> y.length = 256) :
  qH c [] left c2 nn off s = some (if off then ([], left, c2, nn, off, s) else ([], -1, c2, nn, true, s)) :=
 ypt c [] left c2 nn off s (by simp) hc ⟨hl, fun w hw => by cases hw⟩
theorem yu9 {l : List (List Int)} (h : l.length <= 1000000) : zp8 l = some l := by
 unfold zp8;rw [zi (by omega), show kB 0 (kA ([] : List (List Int))) = true from rfl, cond_true]
 have := (z9m z52 l (fun i (a : List (List Int)) => (l, ((l.length : Nat) : Int), (i : Int), a)) (fun a => a) (fun a x => a ++ [x]) (fun i a => a = l.take i) ?_ ?_ (a := []) (by simp))
 ·obtain ⟨h1, h2⟩ := this;rw [List.take_length] at h2;rw [show (((0 : Nat) : Int)) = 0 from rfl, h2] at h1
  rw [h1];simp only [kG, beq_self, cond_true]
 ·intro a _;show jO l ((l.length : Nat) : Int) ((l.length : Nat) : Int) a = _;unfold jO;rw [zP (kH _), beq_self]; rfl
 ·intro i a hi ha;subst ha;refine ⟨?_, (List.take_append_getElem hi)⟩;show jO l ((l.length : Nat) : Int) (i : Int) (l.take i) = _;unfold jO;rw [zY (by omega), z3l hi]
  simp only [cond_true, kG, beq_self];rw [xS (by rw [List.length_take]; simp; omega), jh (by omega)]
theorem yfs {l : List (List Int)} (h : l.length <= 1000000) : za4 l l = some true := by
 unfold za4;rw [zi (by omega), zi (by omega), xj rfl, zi (by omega)]
 simp only [cond_false];have := y4t jF l (fun i => (l, l, ((l.length : Nat) : Int), (i : Int))) (fun _ => false) (.inr false) (.inl ()) ?_ ?_
 ·rw [show (((0 : Nat) : Int)) = 0 from rfl] at this
  rw [this];simp
 ·show z0l l l ((l.length : Nat) : Int) ((l.length : Nat) : Int) = _;unfold z0l;rw [zP (kH _)]; rfl
 ·intro i hi;show z0l l l ((l.length : Nat) : Int) (i : Int) = _;unfold z0l;rw [zY (by omega), z3l hi]
  simp only [cond_true, kG];rw [ze8 rfl, jh (by omega)]; rfl
theorem ysf {l : List Int} (h : l.length <= 1000000) : zk7 l = some l := by
 unfold zk7;cases l with
 | nil =>
  show yaq _ _ = _;unfold yaq;rw [xS (by simp)]
  simp
 | cons x l =>
  simp only [List.length_cons, yj4, cond_false];rw [xS (by simp at h ⊢; omega)]; rfl
theorem yqj (L : List (Int × List Int)) (d2 : Int) (d3 : List Int × Int × Int) (d4 : Int) (off : Bool) (s : List (List Int)) : qj L d2 d3 d4 off s = some (off, L, d2, d3, d4, false, s) := by
 unfold qj;simp only [beq_self, cond_true];cases off <;> rfl
theorem yh7 {nn left : Int} {c : List Int × Int × Int} {off off' : Bool} {s : List (List Int)} {left' : Int} (hl : -1 <= left' /\ left' <= 9223372036854775807) {c' : List Int × Int × Int} (hc : c'.1.length < 1000000) (h : Dv k ([], left, c, nn, off, s)) : Dv k ([], left', c', nn, off', s) :=
 ⟨⟨h.ok.d, h.ok.l, hl, hc, h.ok.n, h.ok.s⟩, h.l, h.n, h.k, h.bs, h.bw⟩
theorem yvs (p : Int) (hp : 0 <= p) (c : List Int × Int × Int) (hc : c.1.length <= 1000000) (L : List (Int × List Int)) (d2 : Int) (d3 : List Int × Int × Int) (d4 : Int) (d5 : Bool) (s : List (List Int)) :
  z1z p c L d2 d3 d4 d5 s = some (L, p, c, d4, d5, s) := by
 unfold z1z;rw [ysf hc];simp only [kG, beq_self, cond_true];have : zdp p (-1) = p := by unfold zdp; rw [if_neg (by omega)]
 rw [this]
abbrev OpT := Int × List (List Int) × Int × (List Int × Int × Int)
def yih (o : OpT) : Prop := o.2.1.length <= 6 /\ o.2.2.2.1.length <= 70 /\ ∀ y, y ∈ o.2.1 -> y.length <= 2000
theorem yv6 {o : OpT} (script : List OpT) (a b : Int) (t33 : List Int) (t34 : Int) (t35 : Bool) (h6 : o.2.1.length <= 6) (hy : ∀ y, y ∈ o.2.1 -> y.length <= 9223372036854775807) :
  Ok (zb ye (script, a, b, t33, t34, t35, o.2.1, ((o.2.1.length : Nat) : Int), 0, o)) fun r => (r = .inl (script, a, b, t33, t34, t35, o) /\ ∀ y, y ∈ o.2.1 -> y.length <= 2000) \/ r = .inr false := by
 refine ybt o.2.1.length (fun i (_ : Unit) => (script, a, b, t33, t34, t35, o.2.1, ((o.2.1.length : Nat) : Int), (i : Int), o)) (fun i _ => ∀ j (hj : j < o.2.1.length), j < i -> o.2.1[j].length <= 2000) () rfl (fun j hj h => by omega) ?_ ?_
 ·intro _ hI;show Ok (yG script a b t33 t34 t35 o.2.1 ((o.2.1.length : Nat) : Int) ((o.2.1.length : Nat) : Int) o) _;unfold yG;rw [zP (kH _)];refine zm5 (qQ (zeo (.inl ⟨rfl, fun y hy2 => ?_⟩)))
  obtain ⟨j, hj, rfl⟩ := List.mem_iff_getElem.1 hy2;exact hI j hj hj
 ·intro i _ hi hI;show Ok (yG script a b t33 t34 t35 o.2.1 ((o.2.1.length : Nat) : Int) (i : Int) o) _;unfold yG;rw [zY (by omega)]
  refine y6n (qx hi (qs ?_ (hy _ (List.getElem_mem hi))));refine y0l (fun h => qQ (zeo (.inr rfl))) fun h => ?_
  refine qQ (y6t ⟨(), ?_, fun j hj hji => ?_⟩)
  ·rw [jh (by omega)]
  ·by_cases e : j = i
   ·subst e; omega
   ·exact hI j hj (by omega)
theorem yv7 (n : Int) (script : List OpT) (hl : script.length <= 9223372036854775807) (hs : ∀ o, o ∈ script -> o.2.1.length <= 9223372036854775807 /\ o.2.2.2.1.length <= 9223372036854775807 /\ ∀ y, y ∈ o.2.1 -> y.length <= 9223372036854775807) :
  Ok (zr1 n script) fun r => r = true -> 6 <= n /\ n <= 14 /\ script.length <= 30 /\ ∀ o, o ∈ script -> yih o := by
 unfold zr1;refine y0l (fun h => qQ fun h => by cases h) fun h1 => ?_
 refine y0l (fun h => qQ fun h => by cases h) fun h2 => ?_
 refine qs ?_;refine y0l (fun h => qQ fun h => by cases h) fun h3 => ?_
 refine qs ?_;refine y6l (ybt (Q := fun r => (r = .inl () /\ ∀ o, o ∈ script -> yih o) \/ r = .inr false) script.length (fun i (_ : Unit) => (script, ((script.length : Nat) : Int), (i : Int))) (fun i _ => ∀ j (hj : j < script.length), j < i -> yih script[j]) () rfl (fun j hj h => by omega) ?_ ?_) ?_
 ·intro _ hI;show Ok (z0i script ((script.length : Nat) : Int) ((script.length : Nat) : Int)) _;unfold z0i;rw [zP (kH _)];refine zm5 (qQ (zeo (.inl ⟨rfl, fun o ho => ?_⟩)))
  obtain ⟨j, hj, rfl⟩ := List.mem_iff_getElem.1 ho;exact hI j hj hj
 ·intro i _ hi hI;show Ok (z0i script ((script.length : Nat) : Int) (i : Int)) _;unfold z0i;rw [zY (by omega)]
  obtain ⟨b1, b2, b3⟩ := hs _ (List.getElem_mem hi);refine y6n (qx hi (qs ?_ b1));refine y0l (fun h => qQ (zeo (.inr rfl))) fun h4 => ?_
  refine qs ?_ b2;refine y0l (fun h => qQ (zeo (.inr rfl))) fun h5 => ?_
  refine qs ?_ b1;refine y6l (yv6 script _ _ _ _ _ (by omega) b3) fun r hr => ?_
  rcases hr with ⟨rfl, h6⟩ | rfl
  ·refine yqh (qQ (y6t ⟨(), ?_, fun j hj hji => ?_⟩))
   ·rw [jh (by omega)]
   ·by_cases e : j = i
    ·subst e; exact ⟨by omega, by omega, h6⟩
    ·exact hI j hj (by omega)
  ·exact yj8 (qQ (zeo (.inr rfl)))
 ·intro r hr;rcases hr with ⟨rfl, h6⟩ | rfl
  ·exact yqh (qQ fun _ => ⟨by omega, by omega, by omega, h6⟩)
  ·exact yj8 (qQ fun h => by cases h)
theorem yv4 {l : List (List Int)} (h1 : l.length <= 6) (h2 : ∀ y, y ∈ l -> y.length <= 2000) : (zq l).length <= 12042 := by
 have key : ∀ (l : List (List Int)), (∀ y, y ∈ l -> y.length <= 2000) -> (zq l).length <= l.length * 2007 := by
  intro l
  induction l with
  | nil => intro _; simp [zq]
  | cons x l ih =>
   intro h;have := ih fun y hy => h y (by simp [hy])
   have hx := h x (by simp)
   rw [zsz, List.length_append, z77, z2i, List.length_cons];split <;> omega
 have := key l h2;omega
theorem yv5 {l : List (List Int)} (h1 : l.length <= 6) (h2 : ∀ y, y ∈ l -> y.length <= 2000) (h3 : ∀ y, y ∈ l -> isB y) : OkL l := ⟨by omega, h3, by have := yv4 h1 h2; omega⟩
theorem ypz {l : List (List Int)} (h2 : ∀ y, y ∈ l -> y.length <= 2000) : ¬ za5 l := fun ⟨x, hx, h⟩ => by have := h2 x hx; omega
def zuf : Env := ⟨[(zD z4k z3n)], [], []⟩
theorem zqt : EnvsOK Try.prog zuf := ⟨zd (zh z9h) (zj _), zg _, zf _⟩
def zbf : Shp := ⟨1, 0, [(0, .d (.int .i64))], []⟩
def zf5 : XS := .one .ret zbf.xe
theorem zow : zf5.OK := XS.one_ok (za zbf)
def zhz (records : List (List Int)) : Option ((Int)) :=
 (z5p).bind fun r =>
 bif r then
 some 3
 else
 none
def zf4 : Sig := ⟨11, [.c .nilp, .d c5], [], 0, zf5⟩
def zcs (x : (List (List Int))) : Option ((Int)) := zhz x
theorem zsi : FnOK Try.prog zf4 zcs :=
 zx zqt (h := .no) Try.func11 (ze [] (by kernel_rfl) trivial) (by kernel_rfl) zow (fun x => by kernel_rfl)
def zqv : Env := ⟨[(zD z4k z3n)], [], []⟩
theorem zne : EnvsOK Try.prog zqv := ⟨zd (zh z9h) (zj _), zg _, zf _⟩
def z9k : Shp := ⟨1, 0, [(0, .d (.int .i64))], []⟩
def zbi : XS := .one .ret z9k.xe
theorem zlu : zbi.OK := XS.one_ok (za z9k)
def zf7 (records : List (List Int)) : Option ((Int)) :=
 (z5p).bind fun r =>
 bif r then
 some 3
 else
 none
def zbh : Sig := ⟨12, [.c .nilp, .d c5], [], 0, zbi⟩
def zak (x : (List (List Int))) : Option ((Int)) := zf7 x
theorem zp0 : FnOK Try.prog zbh zak :=
 zx zne (h := .no) Try.func12 (ze [] (by kernel_rfl) trivial) (by kernel_rfl) zlu (fun x => by kernel_rfl)
def ygg : Env := ⟨[], [], []⟩
theorem zvg : EnvsOK Try.prog ygg := ⟨zj _, zg _, zf _⟩
def zbp : Shp := ⟨19, 0, [(3, .wn 0 .str)], [.row 9 .str]⟩
def vL : XS := .one (.exit 0) zbp.xe
theorem zpa : vL.OK := XS.one_ok (za zbp)
def vK : Shp := ⟨19, 0, [(3, .wn 0 .str), (6, .d c5), (7, .d (.int .i64)), (8, .d (.int .i64))], [.row 9 .str]⟩
abbrev z6m := (List (List Int)) × Int × Int × (List (List Int))
abbrev zfa := ((List (List Int)))
def zul (t6 : List (List Int)) (t7 : Int) (t8 : Int) (out : List (List Int)) : Option (z6m ⊕ zfa) :=
 bif ltI t8 t7 then
 (yn t6 t8).bind fun x =>
 bif kB (kA out) (kA out) then
 qL (kA out) (kA ([x] : List (List Int))) 16 fun _ =>
 bif kB (kA (out ++ ([x] : List (List Int)))) (kA (out ++ ([x] : List (List Int)))) then
 some (.inl (t6, t7, W64 (t8 + 1), out ++ ([x] : List (List Int))))
 else none
 else none
 else
 bif kB (kA out) (kA out) then
 some (.inr out)
 else none
def jg (s : z6m) : Option (z6m ⊕ zfa) := zul s.1 s.2.1 s.2.2.1 s.2.2.2
theorem zr5 : SoundD Try.prog (.loop (zN (zw Try.f19) [1, 1, 0, 1, 0, 0])) (zl vK.xe vL (zb jg)) :=
 zG (S := vK.xe) (X := vL) zvg (h := .no) (ze [] (by kernel_rfl) trivial) (za vK) zpa jg (fun s => by kernel_rfl)
def zvf : Shp := ⟨1, 0, [(0, .d (.sl .str))], []⟩
def y1y : XS := .one .ret zvf.xe
theorem y9k : y1y.OK := XS.one_ok (za zvf)
def z81 (l : List (List Int)) : Option (((List (List Int)))) :=
 zk (kA l) (
 bif kB 0 (kA ([] : List (List Int))) then
 (zb jg (l, (kA l : Nat), 0, ([] : List (List Int)))).bind fun o =>
 yf o 0 (kA o) fun w =>
 some w
 else none)
def zp9 : Sig := ⟨19, [.d c5], [], 0, y1y⟩
def zm0 (x : (List (List Int))) : Option (((List (List Int)))) := z81 x
theorem zye : FnOK Try.prog zp9 zm0 :=
 zx zvg (h := (.two .no (.two .no (.two (.two .no (.over (zl vK.xe vL (zb jg)))) .no)))) Try.func19 (ze [.den (.loop (zN (zw Try.f19) [1, 1, 0, 1, 0, 0])) (zl vK.xe vL (zb jg))] (by kernel_rfl) ⟨zr5, trivial⟩) (by kernel_rfl) y9k (fun x => by kernel_rfl)
def ydf : Env := ⟨[], [], []⟩
theorem y94 : EnvsOK Try.prog ydf := ⟨zj _, zg _, zf _⟩
def zsc : Shp := ⟨1, 0, [(0, .tu [.pt 0 r0 [], .d (.int .i64)])], [.var 71 (.ag [.wn 1 c1, .d c2, .d (.int .i64), .d c3, .d (.int .i64), .d .bool]), .row 86 c1]⟩
def zxt : XS := .one .ret zsc.xe
theorem y71 : zxt.OK := XS.one_ok (za zsc)
def zcl (sectors : Int) : Option ((Int × (List T0) × Int × T1 × Int × Bool × (List (List Int)))) :=
 bif ltI sectors 1 then
 none
 else
 bif ltI 4096 sectors then
 none
 else
 y0h sectors 256 (
 bif kB sectors.toNat (kA (kC sectors.toNat (kC 256 (0 : Int)))) then
 some (0, [], (-1), ([], 0, 0), 0, false, kC sectors.toNat (kC 256 (0 : Int)))
 else none)
def zll : Sig := ⟨9, [.d (.int .i64)], [], 0, zxt⟩
def ziz (x : Int) : Option ((Int × (List T0) × Int × T1 × Int × Bool × (List (List Int)))) := zcl x
theorem zv0 : FnOK Try.prog zll ziz :=
 zx y94 (h := .no) Try.func9 (ze [] (by kernel_rfl) trivial) (by kernel_rfl) y71 (fun x => by kernel_rfl)
def ybg : Env := ⟨[(zD z5r z51), (zD z6i z5q)], [(xz zll ziz), (xz za0 z8k), (xz z6h z5o)], []⟩
theorem y7b : EnvsOK Try.prog ybg := ⟨zd (zh zbj) (zd (zh zct) (zj _)), zy (zR zv0) (zy (zR zfl) (zy (zR zcr) (zg _))), zf _⟩
def zji : Shp := ⟨72, 0, [(1, .pt 0 r0 []), (3, .c .nilp), (4, .d c5), (5, .d (.int .i64))], [.var 71 (.ag [.wn 1 c1, .d c2, .d (.int .i64), .d c3, .d (.int .i64), .d .bool]), .row 86 c1]⟩
def zjj : Shp := ⟨72, 0, [(1, .pt 0 r0 []), (3, .pt 1 r6 []), (4, .wn 2 (.sl (.int .u8))), (5, .d (.int .i64))], [.var 71 (.ag [.wn 3 c1, .d c2, .d (.int .i64), .d c3, .d (.int .i64), .d .bool]), .var 75 (.ag [.pt 0 r0 [], .d c4, .d (.sl (.int .u8)), .d (.int .i64), .d .bool]), .row 34 (.sl (.int .u8)), .row 86 c1]⟩
def zdi : XS := .or .normal zji.xe (.one .normal zjj.xe)
theorem zyb : zdi.OK := XS.or_ok (za zji) (XS.one_ok (za zjj))
def zdj : Shp := ⟨72, 0, [(3, .pt 0 r6 []), (4, .d c5), (5, .d (.int .i64))], [.var 75 (.ag [.pt 1 r0 [], .d c4, .d (.sl (.int .u8)), .d (.int .i64), .d .bool]), .var 71 (.ag [.wn 2 c1, .d c2, .d (.int .i64), .d c3, .d (.int .i64), .d .bool]), .row 86 c1]⟩
def z7z : XS := .one .normal zdj.xe
theorem zr3 : z7z.OK := XS.one_ok (za zdj)
def zpw : Shp := ⟨1, 0, [(0, .d .bool)], []⟩
def zve : XS := .one .ret zpw.xe
theorem y4o : zve.OK := XS.one_ok (za zpw)
def z6s  : Option ((Bool)) :=
 (zcl 6).bind fun r =>
 (show Option (((List (List Int)) × Int × (List T0) × Int × T1 × Int × Bool × (List (List Int))) ⊕ (Int × (List T0) × Int × T1 × Int × Bool × T2 × (List Int) × Int × Bool × (List (List Int)) × (List (List Int)))) from
 bif kB (kA r.2.2.2.2.2.2) (kA r.2.2.2.2.2.2) then
 (qM r.2.1 r.2.2.1 r.2.2.2.1 r.2.2.2.2.1 r.2.2.2.2.2.1 r.2.2.2.2.2.2).bind fun r2 =>
 Sum.elim (fun y =>
 bif kB (kA y.2.2.2.2.2.2.2) (kA y.2.2.2.2.2.2.2) then
 some (.inl (y.1, y.2.1, y.2.2.1, y.2.2.2.1, y.2.2.2.2.1, y.2.2.2.2.2.1, y.2.2.2.2.2.2.1, y.2.2.2.2.2.2.2))
 else none) (fun y2 =>
 bif kB (kA y2.2.2.2.2.2.2.2.2.2.2.1) (kA y2.2.2.2.2.2.2.2.2.2.2.1) then
 bif kB (kA y2.2.2.2.2.2.2.2.2.2.2.2) (kA y2.2.2.2.2.2.2.2.2.2.2.2) then
 some (.inr (y2.1, y2.2.1, y2.2.2.1, y2.2.2.2.1, y2.2.2.2.2.1, y2.2.2.2.2.2.1, y2.2.2.2.2.2.2.1, y2.2.2.2.2.2.2.2.1, y2.2.2.2.2.2.2.2.2.1, y2.2.2.2.2.2.2.2.2.2.1, y2.2.2.2.2.2.2.2.2.2.2.1, y2.2.2.2.2.2.2.2.2.2.2.2))
 else none
 else none) r2
 else none).bind fun j =>
 Sum.elim (fun y3 =>
 some false) (fun y4 =>
 zk (kA y4.2.2.2.2.2.2.2.2.2.2.1) (
 bif neI (kA y4.2.2.2.2.2.2.2.2.2.2.1 : Nat) 0 then
 some false
 else
 bif neI y4.1 0 then
 some false
 else
 yf ([97, 98] : List Int) 0 (kA ([97, 98] : List Int)) fun w =>
 bif kB (kA y4.2.2.2.2.2.2.2.2.2.2.2) (kA y4.2.2.2.2.2.2.2.2.2.2.2) then
 (xN ([w, []] : List (List Int)) y4.2.2.2.2.2.2.1 y4.2.2.2.2.2.2.2.1 y4.2.2.2.2.2.2.2.2.1 y4.2.2.2.2.2.2.2.2.2.1 y4.2.1 y4.2.2.1 y4.2.2.2.1 y4.2.2.2.2.1 y4.2.2.2.2.2.1 y4.2.2.2.2.2.2.2.2.2.2.2).bind fun r3 =>
 bif neI r3.1 0 then
 some false
 else
 (show Option (((List (List Int)) × Int × T2 × (List Int) × Int × Bool × (List T0) × Int × T1 × Int × Bool × (List (List Int)))) from
 bif kB (kA r3.2.2.2.2.2.2.2.2.2.2) (kA r3.2.2.2.2.2.2.2.2.2.2) then
 (qM r3.2.2.2.2.2.1 r3.2.2.2.2.2.2.1 r3.2.2.2.2.2.2.2.1 r3.2.2.2.2.2.2.2.2.1 r3.2.2.2.2.2.2.2.2.2.1 r3.2.2.2.2.2.2.2.2.2.2).bind fun r4 =>
 Sum.elim (fun y5 =>
 bif kB (kA y5.2.2.2.2.2.2.2) (kA y5.2.2.2.2.2.2.2) then
 some (y5.1, y5.2.1, r3.2.1, r3.2.2.1, r3.2.2.2.1, r3.2.2.2.2.1, y5.2.2.1, y5.2.2.2.1, y5.2.2.2.2.1, y5.2.2.2.2.2.1, y5.2.2.2.2.2.2.1, y5.2.2.2.2.2.2.2)
 else none) (fun y6 =>
 yf y6.2.2.2.2.2.2.2.2.2.2.1 0 (kA y6.2.2.2.2.2.2.2.2.2.2.1) fun w2 =>
 bif kB (kA y6.2.2.2.2.2.2.2.2.2.2.2) (kA y6.2.2.2.2.2.2.2.2.2.2.2) then
 some (w2, y6.1, r3.2.1, r3.2.2.1, r3.2.2.2.1, r3.2.2.2.2.1, y6.2.1, y6.2.2.1, y6.2.2.2.1, y6.2.2.2.2.1, y6.2.2.2.2.2.1, y6.2.2.2.2.2.2.2.2.2.2.2)
 else none) r4
 else none).bind fun j2 =>
 bif eqI j2.2.1 0 then
 zk (kA j2.1) (
 bif eqI (kA j2.1 : Nat) 2 then
 (yn j2.1 0).bind fun x =>
 bif eqS x ([97, 98] : List Int) then
 (yn j2.1 1).bind fun x2 =>
 zk (kA x2) (
 bif eqI (kA x2 : Nat) 0 then
 yf j2.2.2.2.2.2.2.2.2.2.2.2 0 (kA j2.2.2.2.2.2.2.2.2.2.2.2) fun w3 =>
 (z0a (w3, j2.2.2.2.2.2.2.1, j2.2.2.2.2.2.2.2.1, j2.2.2.2.2.2.2.2.2.1, j2.2.2.2.2.2.2.2.2.2.1, j2.2.2.2.2.2.2.2.2.2.2.1) j2.2.2.1 j2.2.2.2.1 j2.2.2.2.2.1 j2.2.2.2.2.2.1).bind fun r5 =>
 bif eqI r5 500 then
 yf j2.2.2.2.2.2.2.2.2.2.2.2 0 (kA j2.2.2.2.2.2.2.2.2.2.2.2) fun w4 =>
 (z10 (w4, j2.2.2.2.2.2.2.1, j2.2.2.2.2.2.2.2.1, j2.2.2.2.2.2.2.2.2.1, j2.2.2.2.2.2.2.2.2.2.1, j2.2.2.2.2.2.2.2.2.2.2.1) j2.2.2.1 j2.2.2.2.1 j2.2.2.2.2.1 j2.2.2.2.2.2.1).bind fun r6 =>
 some (eqI r6 2)
 else
 some false
 else
 some false)
 else
 some false
 else
 some false)
 else
 some false
 else none)) j
def zvd : Sig := ⟨8, [], [], 0, zve⟩
def zsv (x : Unit) : Option ((Bool)) := z6s 
theorem y9j : FnOK Try.prog zvd zsv :=
 zx y7b (h := (.two .no (.two .no (.join (fun _ => zdi) .no (.two (.two (.reg [13, 2000015] []) .no) (.join (fun _ => z7z) .no .no)))))) Try.func8 (ze [.xs (fun _ => zdi), .xs (fun _ => z7z)] (by kernel_rfl) ⟨(qB zyb), (qB zr3), trivial⟩) (by kernel_rfl) y4o (fun x => by kernel_rfl)
def yl3 : Env := ⟨[], [], []⟩
theorem y2j : EnvsOK Try.prog yl3 := ⟨zj _, zg _, zf _⟩
def zbr : Shp := ⟨19, 0, [(2, .pt 0 r0 []), (4, .wn 1 .str)], [.var 57 (.ag [.wn 2 .str, .wn 3 c15, .d (.int .i64), .ag [.wn 4 (.int .i64), .d (.int .i64), .d (.int .i64)], .d (.int .i64), .d .bool]), .row 9 .str, .row 9 .str, .row 102 c15, .row 3 (.int .i64)]⟩
def vR : XS := .one (.exit 0) zbr.xe
theorem zpe : vR.OK := XS.one_ok (za zbr)
def vQ : Shp := ⟨19, 0, [(0, .d (.int .i64)), (2, .pt 0 r0 []), (3, .d .str), (4, .wn 1 .str), (5, .d (.int .i64))], [.var 57 (.ag [.wn 2 .str, .wn 3 c15, .d (.int .i64), .ag [.wn 4 (.int .i64), .d (.int .i64), .d (.int .i64)], .d (.int .i64), .d .bool]), .row 9 .str, .row 9 .str, .row 102 c15, .row 3 (.int .i64)]⟩
abbrev z6p := Int × (List Int) × Int × Int × Int × Int × Int × Bool × (List (List Int)) × (List (List Int)) × (List T6) × (List Int)
abbrev zfd := (Int × Int × Int × Int × Bool × (List (List Int)) × (List (List Int)) × (List T6) × (List Int))
def vS (n : Int) (t3 : List Int) (i : Int) (t2 : Int) (t22 : Int) (t23 : Int) (t24 : Int) (t25 : Bool) (l : List (List Int)) (t26 : List (List Int)) (t27 : List T6) (t28 : List Int) : Option (z6p ⊕ zfd) :=
 bif ltI i n then
 bif kB (kA l) (kA l) then
 qL (kA l) (kA ([t3] : List (List Int))) 16 fun _ =>
 bif kB (kA (l ++ ([t3] : List (List Int)))) (kA (l ++ ([t3] : List (List Int)))) then
 bif kB (kA t26) (kA t26) then
 bif kB (kA t27) (kA t27) then
 bif kB (kA t28) (kA t28) then
 some (.inl (n, t3, W64 (i + 1), t2, t22, t23, t24, t25, l ++ ([t3] : List (List Int)), t26, t27, t28))
 else none
 else none
 else none
 else none
 else none
 else
 bif kB (kA l) (kA l) then
 bif kB (kA t26) (kA t26) then
 bif kB (kA t27) (kA t27) then
 bif kB (kA t28) (kA t28) then
 some (.inr (t2, t22, t23, t24, t25, l, t26, t27, t28))
 else none
 else none
 else none
 else none
def qf (s : z6p) : Option (z6p ⊕ zfd) := vS s.1 s.2.1 s.2.2.1 s.2.2.2.1 s.2.2.2.2.1 s.2.2.2.2.2.1 s.2.2.2.2.2.2.1 s.2.2.2.2.2.2.2.1 s.2.2.2.2.2.2.2.2.1 s.2.2.2.2.2.2.2.2.2.1 s.2.2.2.2.2.2.2.2.2.2.1 s.2.2.2.2.2.2.2.2.2.2.2
theorem zr8 : SoundD Try.prog (.loop (zN (zw Try.f25) [1, 1, 1, 0, 1, 0, 0])) (zl vQ.xe vR (zb qf)) :=
 zG (S := vQ.xe) (X := vR) y2j (h := .no) (ze [] (by kernel_rfl) trivial) (za vQ) zpe qf (fun s => by kernel_rfl)
def y2i : Shp := ⟨1, 0, [(0, .d c16)], []⟩
def y88 : XS := .one .ret y2i.xe
theorem ye2 : y88.OK := XS.one_ok (za y2i)
def zvq (n : Int) : Option ((T7)) :=
 yf (kC 256 (0 : Int)) 0 256 fun w =>
 bif kB 0 (kA ([] : List (List Int))) then
 bif kB 0 (kA ([] : List (List Int))) then
 bif kB 0 (kA ([] : List T6)) then
 bif kB 0 (kA ([] : List Int)) then
 (zb qf (n, w, 0, 0, 0, 0, 0, false, ([] : List (List Int)), ([] : List (List Int)), ([] : List T6), ([] : List Int))).bind fun o =>
 yf o.2.2.2.2.2.1 0 (kA o.2.2.2.2.2.1) fun w2 =>
 some (w2, [], (-1), ([], 0, 0), 0, false)
 else none
 else none
 else none
 else none
def y87 : Sig := ⟨25, [.d (.int .i64)], [], 0, y88⟩
def y59 (x : Int) : Option ((T7)) := zvq x
theorem yjl : FnOK Try.prog y87 y59 :=
 zx y2j (h := (.two .no (.two .no (.two .no (.two (.two .no (.over (zl vQ.xe vR (zb qf)))) .no))))) Try.func25 (ze [.den (.loop (zN (zw Try.f25) [1, 1, 1, 0, 1, 0, 0])) (zl vQ.xe vR (zb qf))] (by kernel_rfl) ⟨zr8, trivial⟩) (by kernel_rfl) ye2 (fun x => by kernel_rfl)
def yl4 : Env := ⟨[], [], []⟩
theorem y2l : EnvsOK Try.prog yl4 := ⟨zj _, zg _, zf _⟩
def zig : Shp := ⟨33, 0, [(1, .d (.int .i64)), (2, .pt 0 r0 [])], [.var 57 (.d c16)]⟩
def zih : Shp := ⟨33, 0, [(4, .d .str)], []⟩
def z2u : XS := .or (.exit 0) zig.xe (.one .ret zih.xe)
theorem zx3 : z2u.OK := XS.or_ok (za zig) (XS.one_ok (za zih))
def z2t : Shp := ⟨33, 0, [(1, .d (.int .i64)), (2, .pt 0 r0 []), (5, .d (.int .i64))], [.var 57 (.d c16)]⟩
abbrev zb3 := Int × Int × T7
abbrev zl2 := (Int × T7) ⊕ ((List Int))
def z2v (i : Int) (k : Int) (d : T7) : Option (zb3 ⊕ zl2) :=
 bif leI 0 k then
 (yn d.2.1 k).bind fun x =>
 bif eqI x.1 i then
 (yn d.2.1 k).bind fun x2 =>
 some (.inr (.inr x2.2))
 else
 some (.inl (i, W64 (k - 1), d))
 else
 some (.inr (.inl (i, d)))
def xM (s : zb3) : Option (zb3 ⊕ zl2) := z2v s.1 s.2.1 s.2.2
theorem zys : SoundD Try.prog (.loop (zN (zw Try.f29) [1, 0, 1, 0, 0])) (zl z2t.xe z2u (zb xM)) :=
 zG (S := z2t.xe) (X := z2u) y2l (h := .no) (ze [] (by kernel_rfl) trivial) (za z2t) zx3 xM (fun s => by kernel_rfl)
def y2k : Shp := ⟨1, 0, [(0, .d .str)], []⟩
def y89 : XS := .one .ret y2k.xe
theorem ye3 : y89.OK := XS.one_ok (za y2k)
def z7b (d : T7) (i : Int) : Option (((List Int))) :=
 zk (kA d.2.1) (
 (zb xM (i, W64 ((kA d.2.1 : Nat) - 1), d)).bind fun o =>
 Sum.elim (fun y =>
 (yn y.2.1 y.1).bind fun x =>
 some x) (fun y2 =>
 some y2) o)
def zn0 : Sig := ⟨29, [.d c16, .d (.int .i64)], [], 0, y89⟩
def zju (x : T7 × Int) : Option (((List Int))) := z7b x.1 x.2
theorem zt8 : FnOK Try.prog zn0 zju :=
 zx y2l (h := (.two .no (.two (.two .no (.over (zl z2t.xe z2u (zb xM)))) .no))) Try.func29 (ze [.den (.loop (zN (zw Try.f29) [1, 0, 1, 0, 0])) (zl z2t.xe z2u (zb xM))] (by kernel_rfl) ⟨zys, trivial⟩) (by kernel_rfl) ye3 (fun x => by kernel_rfl)
def yeb : Env := ⟨[], [], []⟩
theorem ya5 : EnvsOK Try.prog yeb := ⟨zj _, zg _, zf _⟩
def ztj : Shp := ⟨1, 0, [(0, .d (.int .i64))], []⟩
def zyy : XS := .one .ret ztj.xe
theorem y7i : zyy.OK := XS.one_ok (za ztj)
def z3y (d : T7) : Option ((Int)) :=
 zk (kA d.1) (
 some (W64 ((W64 (kI (W64 ((kA d.1 : Nat) - 2)) 2)) * 256)))
def zel : Sig := ⟨64, [.d c16], [], 0, zyy⟩
def zbu (x : T7) : Option ((Int)) := z3y x
theorem zk1 : FnOK Try.prog zel zbu :=
 zx ya5 (h := .no) Try.func64 (ze [] (by kernel_rfl) trivial) (by kernel_rfl) y7i (fun x => by kernel_rfl)
def yeg : Env := ⟨[], [], []⟩
theorem ztr : EnvsOK Try.prog yeg := ⟨zj _, zg _, zf _⟩
def zau : Shp := ⟨19, 0, [(3, .d (.int .u64))], []⟩
def vm : XS := .one (.exit 0) zau.xe
theorem zoa : vm.OK := XS.one_ok (za zau)
def vl : Shp := ⟨19, 0, [(0, .d .str), (3, .d (.int .u64)), (4, .d (.int .i64))], []⟩
abbrev z5w := (List Int) × Int × Int
abbrev zdw := (Int)
def vn (t0 : List Int) (n : Int) (i : Int) : Option (z5w ⊕ zdw) :=
 zk (kA t0) (
 bif ltI i (kA t0 : Nat) then
 (yn t0 i).bind fun x =>
 some (.inl ((t0, xJ ((xJ (n * 256)) + (xJ (x))), W64 (i + 1))))
 else
 some (.inr n))
def qU (s : z5w) : Option (z5w ⊕ zdw) := vn s.1 s.2.1 s.2.2
theorem zph : SoundD Try.prog (.loop (zN (zw Try.f77) [1, 1, 0, 1, 0, 0])) (zl vl.xe vm (zb qU)) :=
 zG (S := vl.xe) (X := vm) ztr (h := .no) (ze [] (by kernel_rfl) trivial) (za vl) zoa qU (fun s => by kernel_rfl)
def ztq : Shp := ⟨1, 0, [(0, .d (.int .u64))], []⟩
def zz2 : XS := .one .ret ztq.xe
theorem y7k : zz2.OK := XS.one_ok (za ztq)
def z9a (t0 : List Int) : Option ((Int)) :=
 (zb qU (t0, 0, 0)).bind fun o =>
 some o
def zz1 : Sig := ⟨77, [.d .str], [], 0, zz2⟩
def zw0 (x : (List Int)) : Option ((Int)) := z9a x
theorem ycd : FnOK Try.prog zz1 zw0 :=
 zx ztr (h := (.two .no (.two .no (.two (.two .no (.over (zl vl.xe vm (zb qU)))) .no)))) Try.func77 (ze [.den (.loop (zN (zw Try.f77) [1, 1, 0, 1, 0, 0])) (zl vl.xe vm (zb qU))] (by kernel_rfl) ⟨zph, trivial⟩) (by kernel_rfl) y7k (fun x => by kernel_rfl)
def ycb : Env := ⟨[(zD zz1 zw0)], [], []⟩
theorem y7h : EnvsOK Try.prog ycb := ⟨zd (zh ycd) (zj _), zg _, zf _⟩
def zgk : Shp := ⟨64, 0, [(7, .d (.int .u64)), (8, .d (.int .u64)), (9, .d (.int .u64)), (58, .d .bool)], []⟩
def za8 : XS := .one .normal zgk.xe
theorem zuq : za8.OK := XS.one_ok (za zgk)
def zq2 : Shp := ⟨1, 0, [(0, .tu [.d (.int .u64), .d (.int .i64), .d (.int .i64)])], []⟩
def zvw : XS := .one .ret zq2.xe
theorem y5k : zvw.OK := XS.one_ok (za zq2)
def zgw (b : List Int) (room : Int) : Option ((Int × Int × Int)) :=
 bif zV 8 16 (kA b) then
 (z9a (zA b 8 16)).bind fun r =>
 bif zV 16 24 (kA b) then
 (z9a (zA b 16 24)).bind fun r2 =>
 bif zV 24 32 (kA b) then
 (z9a (zA b 24 32)).bind fun r3 =>
 (show Option ((Int × Int × Int × Bool)) from
 bif zV 0 8 (kA b) then
 bif !(eqS (zA b 0 8) ([119, 97, 114, 100, 115, 104, 105, 112] : List Int)) then
 some (r, r2, r3, true)
 else
 bif zV 32 40 (kA b) then
 bif !(eqS (zA b 32 40) ([119, 97, 114, 100, 115, 104, 105, 112] : List Int)) then
 some (r, r2, r3, true)
 else
 bif zV 16 32 (kA b) then
 bif zV 40 56 (kA b) then
 bif !(eqS (zA b 16 32) (zA b 40 56)) then
 some (r, r2, r3, true)
 else
 bif zV 8 16 (kA b) then
 bif zV 56 64 (kA b) then
 bif !(eqS (zA b 8 16) (zA b 56 64)) then
 some (r, r2, r3, true)
 else
 bif eqI r 0 then
 some (r, r2, r3, true)
 else
 bif ltI 4611686018427387904 r then
 some (r, r2, r3, true)
 else
 bif ltI 1 r2 then
 some (r, r2, r3, true)
 else
 some (r, r2, r3, ltI (xJ (room)) r3)
 else none
 else none
 else none
 else none
 else none
 else none).bind fun j =>
 bif j.2.2.2 then
 some (0, 0, 0)
 else
 some (j.1, W64 (j.2.1), W64 (j.2.2.1))
 else none
 else none
 else none
def zvv : Sig := ⟨63, [.d .str, .d (.int .i64)], [], 0, zvw⟩
def zti (x : (List Int) × Int) : Option ((Int × Int × Int)) := zgw x.1 x.2
theorem ya4 : FnOK Try.prog zvv zti :=
 zx y7h (h := (.two .no (.two .no (.two (.join (fun _ => za8) .no .no) .no)))) Try.func63 (ze [.xs (fun _ => za8)] (by kernel_rfl) ⟨(qB zuq), trivial⟩) (by kernel_rfl) y5k (fun x => by kernel_rfl)
def y2b : Shp := ⟨1, 0, [(0, .d .str)], []⟩
def y84 : XS := .one .ret y2b.xe
theorem zyp : y84.OK := XS.one_ok (za y2b)
def zmx : Sig := ⟨86, [.d (.int .u64)], [], 0, y84⟩
def yl1 (self : Int -> Option (((List Int)))) : Env := ⟨[(zD zmx self)], [], []⟩
theorem ygn {self : Int -> Option (((List Int)))} (hself : FnOK Try.prog zmx self) : EnvsOK Try.prog (yl1 self) := ⟨zd (zh hself) (zj _), zg _, zf _⟩
def zmy (self : Int -> Option (((List Int)))) (n : Int) : Option (((List Int))) :=
 bif eqI n 0 then
 some ([] : List Int)
 else
 (self (xJ (kI n 256))).bind fun r =>
 z5l r ([WU8 (kD n 256)] : List Int) fun _ =>
 some (r ++ ([WU8 (kD n 256)] : List Int))
def zgf (self : Int -> Option (((List Int)))) (x : Int) : Option (((List Int))) := zmy self x
def zjs : (Int) -> Option (((List Int))) := y9y zgf
def yfj (n : Int) : Option (((List Int))) := zjs n
theorem yji : FnOK Try.prog zmx zjs :=
 yxe (by kernel_rfl) zyp (fun self hself => zx (ygn hself) (h := .no) Try.func86 (ze [] (by kernel_rfl) trivial) (by kernel_rfl) zyp (fun x => by kernel_rfl))
def ygv : Env := ⟨[(zD zmx zjs)], [], []⟩
theorem zvz : EnvsOK Try.prog ygv := ⟨zd (zh yji) (zj _), zg _, zf _⟩
def zff : Shp := ⟨12, 0, [(3, .d .str)], []⟩
def z1c : XS := .one (.exit 0) zff.xe
theorem ztk : z1c.OK := XS.one_ok (za zff)
def z1b : Shp := ⟨12, 0, [(3, .d .str)], []⟩
abbrev z97 := (List Int)
abbrev zik := ((List Int))
def z96 (t3 : List Int) : Option (z97 ⊕ zik) :=
 zk (kA t3) (
 bif ltI (kA t3 : Nat) 8 then
 z5l ([0] : List Int) t3 fun _ =>
 some (.inl (([0] : List Int) ++ t3))
 else
 some (.inr t3))
def xd (s : z97) : Option (z97 ⊕ zik) := z96 s
theorem zur : SoundD Try.prog (.loop (zN (zw Try.f85) [1, 1, 0, 0, 0])) (zl z1b.xe z1c (zb xd)) :=
 zG (S := z1b.xe) (X := z1c) zvz (h := .no) (ze [] (by kernel_rfl) trivial) (za z1b) ztk xd (fun s => by kernel_rfl)
def zvy : Shp := ⟨1, 0, [(0, .d .str)], []⟩
def y2w : XS := .one .ret zvy.xe
theorem ya7 : y2w.OK := XS.one_ok (za zvy)
def z88 (n : Int) : Option (((List Int))) :=
 (yfj n).bind fun r =>
 (zb xd r).bind fun o =>
 some o
def y2v : Sig := ⟨85, [.d (.int .u64)], [], 0, y2w⟩
def zz0 (x : Int) : Option (((List Int))) := z88 x
theorem yed : FnOK Try.prog y2v zz0 :=
 zx zvz (h := (.two .no (.two .no (.two (.over (zl z1b.xe z1c (zb xd))) .no)))) Try.func85 (ze [.den (.loop (zN (zw Try.f85) [1, 1, 0, 0, 0])) (zl z1b.xe z1c (zb xd))] (by kernel_rfl) ⟨zur, trivial⟩) (by kernel_rfl) ya7 (fun x => by kernel_rfl)
def ygu : Env := ⟨[(zD y2v zz0)], [], []⟩
theorem ycc : EnvsOK Try.prog ygu := ⟨zd (zh yed) (zj _), zg _, zf _⟩
def zvx : Shp := ⟨1, 0, [(0, .d .str)], []⟩
def y2u : XS := .one .ret zvx.xe
theorem ya6 : y2u.OK := XS.one_ok (za zvx)
def zn1 (n : Int) (side : Int) (used : Int) : Option (((List Int))) :=
 (z88 side).bind fun r =>
 (z88 used).bind fun r2 =>
 z5l r r2 fun _ =>
 (z88 n).bind fun r3 =>
 z5l ([119, 97, 114, 100, 115, 104, 105, 112] : List Int) r3 fun _ =>
 z5l (([119, 97, 114, 100, 115, 104, 105, 112] : List Int) ++ r3) (r ++ r2) fun _ =>
 z5l ((([119, 97, 114, 100, 115, 104, 105, 112] : List Int) ++ r3) ++ (r ++ r2)) ([119, 97, 114, 100, 115, 104, 105, 112] : List Int) fun _ =>
 z5l (((([119, 97, 114, 100, 115, 104, 105, 112] : List Int) ++ r3) ++ (r ++ r2)) ++ ([119, 97, 114, 100, 115, 104, 105, 112] : List Int)) (r ++ r2) fun _ =>
 (z88 n).bind fun r4 =>
 z5l ((((([119, 97, 114, 100, 115, 104, 105, 112] : List Int) ++ r3) ++ (r ++ r2)) ++ ([119, 97, 114, 100, 115, 104, 105, 112] : List Int)) ++ (r ++ r2)) r4 fun _ =>
 yf (kC 192 (0 : Int)) 0 192 fun w =>
 z5l (((((([119, 97, 114, 100, 115, 104, 105, 112] : List Int) ++ r3) ++ (r ++ r2)) ++ ([119, 97, 114, 100, 115, 104, 105, 112] : List Int)) ++ (r ++ r2)) ++ r4) w fun _ =>
 some ((((((([119, 97, 114, 100, 115, 104, 105, 112] : List Int) ++ r3) ++ (r ++ r2)) ++ ([119, 97, 114, 100, 115, 104, 105, 112] : List Int)) ++ (r ++ r2)) ++ r4) ++ w)
def y2t : Sig := ⟨79, [.d (.int .u64), .d (.int .u64), .d (.int .u64)], [], 0, y2u⟩
def zyz (x : Int × Int × Int) : Option (((List Int))) := zn1 x.1 x.2.1 x.2.2
theorem yec : FnOK Try.prog y2t zyz :=
 zx ycc (h := .no) Try.func79 (ze [] (by kernel_rfl) trivial) (by kernel_rfl) ya6 (fun x => by kernel_rfl)
def yl6 : Env := ⟨[], [], []⟩
theorem ygr : EnvsOK Try.prog yl6 := ⟨zj _, zg _, zf _⟩
def y2o : Shp := ⟨1, 0, [(0, .d (.int .i64))], []⟩
def y8c : XS := .one .ret y2o.xe
theorem ye6 : y8c.OK := XS.one_ok (za y2o)
def zvr (d : T7) (i : Int) : Option ((Int)) :=
 bif d.2.2.2.2.2 then
 some 6
 else
 bif ltI i 0 then
 some 2
 else
 zk (kA d.1) (
 bif leI (kA d.1 : Nat) i then
 some 2
 else
 some 0)
def y8b : Sig := ⟨83, [.d c16, .d (.int .i64)], [], 0, y8c⟩
def y5c (x : T7 × Int) : Option ((Int)) := zvr x.1 x.2
theorem yjn : FnOK Try.prog y8b y5c :=
 zx ygr (h := .no) Try.func83 (ze [] (by kernel_rfl) trivial) (by kernel_rfl) ye6 (fun x => by kernel_rfl)
def yjo : Env := ⟨[], [], []⟩
theorem zyv : EnvsOK Try.prog yjo := ⟨zj _, zg _, zf _⟩
def zgh : Shp := ⟨18, 0, [], []⟩
def zgi : Shp := ⟨18, 0, [(4, .d .bool)], []⟩
def z2b : XS := .or (.exit 0) zgh.xe (.one .ret zgi.xe)
theorem zun : z2b.OK := XS.or_ok (za zgh) (XS.one_ok (za zgi))
def z2a : Shp := ⟨18, 0, [(0, .d (.sl (.int .i64))), (1, .d (.int .i64)), (5, .d (.int .i64))], []⟩
abbrev za6 := (List Int) × Int × Int
abbrev zjw := (Unit) ⊕ (Bool)
def z2c (l : List Int) (n : Int) (i : Int) : Option (za6 ⊕ zjw) :=
 zk (kA l) (
 bif ltI i (kA l : Nat) then
 (yn l i).bind fun x =>
 bif eqI x n then
 some (.inr (.inr true))
 else
 some (.inl (l, n, W64 (i + 1)))
 else
 some (.inr (.inl ())))
def qt (s : za6) : Option (za6 ⊕ zjw) := z2c s.1 s.2.1 s.2.2
theorem zx5 : SoundD Try.prog (.loop (zN (zw Try.f69) [1, 0, 1, 0, 0])) (zl z2a.xe z2b (zb qt)) :=
 zG (S := z2a.xe) (X := z2b) zyv (h := .no) (ze [] (by kernel_rfl) trivial) (za z2a) zun qt (fun s => by kernel_rfl)
def zyu : Shp := ⟨1, 0, [(0, .d .bool)], []⟩
def y5f : XS := .one .ret zyu.xe
theorem yc9 : y5f.OK := XS.one_ok (za zyu)
def zjv (l : List Int) (n : Int) : Option ((Bool)) :=
 (zb qt (l, n, 0)).bind fun o =>
 Sum.elim (fun y =>
 some false) (fun y2 =>
 some y2) o
def y5e : Sig := ⟨69, [.d (.sl (.int .i64)), .d (.int .i64)], [], 0, y5f⟩
def y2p (x : (List Int) × Int) : Option ((Bool)) := zjv x.1 x.2
theorem ygs : FnOK Try.prog y5e y2p :=
 zx zyv (h := (.two .no (.two (.two .no (.over (zl z2a.xe z2b (zb qt)))) .no))) Try.func69 (ze [.den (.loop (zN (zw Try.f69) [1, 0, 1, 0, 0])) (zl z2a.xe z2b (zb qt))] (by kernel_rfl) ⟨zx5, trivial⟩) (by kernel_rfl) yc9 (fun x => by kernel_rfl)
def ye7 : Env := ⟨[], [], []⟩
theorem ya3 : EnvsOK Try.prog ye7 := ⟨zj _, zg _, zf _⟩
def ztc : Shp := ⟨1, 0, [(0, .d (.sl .str))], []⟩
def zyw : XS := .one .ret ztc.xe
theorem y7d : zyw.OK := XS.one_ok (za ztc)
def zdu (l : List (List Int)) (t1 : Int) (t2 : List Int) : Option (((List (List Int)))) :=
 qL (kA ([] : List (List Int))) (kA l) 16 fun _ =>
 bif inI t1 (kA l) then
 (l[t1.toNat]?).bind fun _x =>
 yf (l.set t1.toNat t2) 0 (kA l) fun w =>
 some w
 else none
def zmc : Sig := ⟨70, [.d (.sl .str), .d (.int .i64), .d .str], [], 0, zyw⟩
def zjx (x : (List (List Int)) × Int × (List Int)) : Option (((List (List Int)))) := zdu x.1 x.2.1 x.2.2
theorem zvs : FnOK Try.prog zmc zjx :=
 zx ya3 (h := (.two .no (.two (.reg [2] []) .no))) Try.func70 (ze [] (by kernel_rfl) trivial) (by kernel_rfl) y7d (fun x => by kernel_rfl)
def ygp : Env := ⟨[(zD y5e y2p), (zD zmc zjx)], [], []⟩
theorem zvp : EnvsOK Try.prog ygp := ⟨zd (zh ygs) (zd (zh zvs) (zj _)), zg _, zf _⟩
def z3w : Shp := ⟨59, 0, [(2, .pt 0 r0 []), (3, .pt 1 r7 []), (4, .pt 2 r0 []), (5, .d (.int .i64)), (6, .pt 3 r17 []), (7, .d (.int .i64))], [.var 57 (.d c16), .var 38 (.d c3), .var 57 (.d c16), .var 102 (.d c15)]⟩
def vY : XS := .one .normal z3w.xe
theorem zc4 : vY.OK := XS.one_ok (za z3w)
def z2s : Shp := ⟨59, 0, [(2, .pt 0 r0 []), (3, .pt 1 r7 []), (4, .pt 2 r0 []), (5, .d (.int .i64)), (6, .pt 3 r17 []), (7, .d (.int .i64))], [.var 57 (.d c16), .var 38 (.d c3), .var 57 (.d c16), .var 102 (.d c15)]⟩
def vk : XS := .one .normal z2s.xe
theorem zat : vk.OK := XS.one_ok (za z2s)
def zbq : Shp := ⟨59, 0, [(2, .pt 0 r0 []), (4, .pt 1 r0 [])], [.var 57 (.d c16), .var 57 (.d c16)]⟩
def vO : XS := .one (.exit 0) zbq.xe
theorem zpd : vO.OK := XS.one_ok (za zbq)
def vN : Shp := ⟨59, 0, [(2, .pt 0 r0 []), (3, .pt 1 r7 []), (4, .pt 2 r0 []), (5, .d (.int .i64))], [.var 57 (.d c16), .var 38 (.d c3), .var 57 (.d c16)]⟩
abbrev z6o := Int × T7 × T1 × T7
abbrev zfc := (T7 × T7)
def vP (k : Int) (d : T7) (c : T1) (t4 : T7) : Option (z6o ⊕ zfc) :=
 zk (kA d.2.1) (
 bif ltI k (kA d.2.1 : Nat) then
 (yn d.2.1 k).bind fun x =>
 (show Option ((Int × Int × T7 × T1 × T7 × T6)) from
 bif eqI c.2.1 k then
 some (k, zdp 0 (y4w c.2.2 256), d, c, t4, x)
 else
 some (k, 0, d, c, t4, x)).bind fun j =>
 (show Option ((Int × Int × T7 × T1 × T7 × T6)) from
 (zjv j.2.2.2.1.1 j.1).bind fun r =>
 bif r then
 some (j.1, 256, j.2.2.1, j.2.2.2.1, j.2.2.2.2.1, j.2.2.2.2.2)
 else
 some (j.1, j.2.1, j.2.2.1, j.2.2.2.1, j.2.2.2.2.1, j.2.2.2.2.2)).bind fun j2 =>
 bif zV 0 j2.2.1 (kA j2.2.2.2.2.2.2) then
 (yn j2.2.2.1.1 j2.2.2.2.2.2.1).bind fun x2 =>
 bif zV j2.2.1 (kA x2 : Nat) (kA x2) then
 z5l (zA j2.2.2.2.2.2.2 0 j2.2.1) (zA x2 j2.2.1 (kA x2 : Nat)) fun _ =>
 (zdu j2.2.2.1.1 j2.2.2.2.2.2.1 ((zA j2.2.2.2.2.2.2 0 j2.2.1) ++ (zA x2 j2.2.1 (kA x2 : Nat)))).bind fun r2 =>
 some (.inl (W64 (j2.1 + 1), (r2, j2.2.2.1.2), j2.2.2.2.1, j2.2.2.2.2.1))
 else none
 else none
 else
 some (.inr (d, t4)))
def xg (s : z6o) : Option (z6o ⊕ zfc) := vP s.1 s.2.1 s.2.2.1 s.2.2.2
theorem zr7 : SoundD Try.prog (.loop (zN (zw Try.f47) [1, 1, 0, 1, 0, 0])) (zl vN.xe vO (zb xg)) :=
 zG (S := vN.xe) (X := vO) zvp (h := (.two .no (.two (.two .no (.two .no (.join (fun _ => vY) .no (.join (fun _ => vk) .no .no)))) .no))) (ze [.xs (fun _ => vY), .xs (fun _ => vk)] (by kernel_rfl) ⟨(qB zc4), (qB zat), trivial⟩) (za vN) zpd xg (fun s => by kernel_rfl)
def zvo : Shp := ⟨1, 0, [(0, .d c16)], []⟩
def y2h : XS := .one .ret zvo.xe
theorem ya1 : y2h.OK := XS.one_ok (za zvo)
def z87 (d : T7) (c : T1) : Option ((T7)) :=
 bif d.2.2.2.2.2 then
 some d
 else
 (zb xg (0, d, c, ([], [], 0, ([], 0, 0), 0, false))).bind fun o =>
 some (o.1.1, [], (-1), ([], 0, 0), o.1.2.2.2.2.1, true)
def zgv : Sig := ⟨47, [.d c16, .d c3], [], 0, y2h⟩
def zek (x : T7 × T1) : Option ((T7)) := z87 x.1 x.2
theorem zmb : FnOK Try.prog zgv zek :=
 zx zvp (h := (.two .no (.two .no (.two (.two .no (.over (zl vN.xe vO (zb xg)))) .no)))) Try.func47 (ze [.den (.loop (zN (zw Try.f47) [1, 1, 0, 1, 0, 0])) (zl vN.xe vO (zb xg))] (by kernel_rfl) ⟨zr7, trivial⟩) (by kernel_rfl) ya1 (fun x => by kernel_rfl)
def ya2 : Env := ⟨[(zD zgv zek)], [], []⟩
theorem y5d : EnvsOK Try.prog ya2 := ⟨zd (zh zmb) (zj _), zg _, zf _⟩
def zo1 : Shp := ⟨1, 0, [(0, .tu [.d c16, .d (.int .i64)])], []⟩
def ztb : XS := .one .ret zo1.xe
theorem y3l : ztb.OK := XS.one_ok (za zo1)
def z93 (d : T7) : Option ((T7 × Int)) :=
 bif eqI ((d.1, d.2.1, d.2.2.1, d.2.2.2.1, W64 (d.2.2.2.2.1 + 1), d.2.2.2.2.2).2.2.1) 0 then
 (z87 (d.1, d.2.1, d.2.2.1, d.2.2.2.1, W64 (d.2.2.2.2.1 + 1), d.2.2.2.2.2) ((d.1, d.2.1, d.2.2.1, d.2.2.2.1, W64 (d.2.2.2.2.1 + 1), d.2.2.2.2.2).2.2.2.1)).bind fun r =>
 some (r, 6)
 else
 bif ltI 0 ((d.1, d.2.1, d.2.2.1, d.2.2.2.1, W64 (d.2.2.2.2.1 + 1), d.2.2.2.2.2).2.2.1) then
 some ((((d.1, d.2.1, d.2.2.1, d.2.2.2.1, W64 (d.2.2.2.2.1 + 1), d.2.2.2.2.2).1, (d.1, d.2.1, d.2.2.1, d.2.2.2.1, W64 (d.2.2.2.2.1 + 1), d.2.2.2.2.2).2.1, W64 (((d.1, d.2.1, d.2.2.1, d.2.2.2.1, W64 (d.2.2.2.2.1 + 1), d.2.2.2.2.2).2.2.1) - 1), (d.1, d.2.1, d.2.2.1, d.2.2.2.1, W64 (d.2.2.2.2.1 + 1), d.2.2.2.2.2).2.2.2), 0))
 else
 some ((d.1, d.2.1, d.2.2.1, d.2.2.2.1, W64 (d.2.2.2.2.1 + 1), d.2.2.2.2.2), 0)
def zhh : Sig := ⟨84, [.d c16], [], 0, ztb⟩
def zfr (x : T7) : Option ((T7 × Int)) := z93 x
theorem zpy : FnOK Try.prog zhh zfr :=
 zx y5d (h := .no) Try.func84 (ze [] (by kernel_rfl) trivial) (by kernel_rfl) y3l (fun x => by kernel_rfl)
def yl5 : Env := ⟨[(zD y8b y5c), (zD zhh zfr)], [], []⟩
theorem ygq : EnvsOK Try.prog yl5 := ⟨zd (zh yjn) (zd (zh zpy) (zj _)), zg _, zf _⟩
def y2n : Shp := ⟨1, 0, [(0, .tu [.d c16, .d (.int .i64)])], []⟩
def y8a : XS := .one .ret y2n.xe
theorem ye5 : y8a.OK := XS.one_ok (za y2n)
def zo0 (d : T7) (i : Int) (t2 : List Int) : Option ((T7 × Int)) :=
 (zvr d i).bind fun r =>
 bif neI r 0 then
 some (d, r)
 else
 zk (kA t2) (
 bif neI (kA t2 : Nat) 256 then
 some (d, 1)
 else
 qL (kA ([] : List T6)) (kA d.2.1) 24 fun _ =>
 bif kB (kA d.2.1) (kA d.2.1) then
 qL (kA d.2.1) (kA ([(i, t2)] : List T6)) 24 fun _ =>
 yf (d.2.1 ++ ([(i, t2)] : List T6)) 0 (kA (d.2.1 ++ ([(i, t2)] : List T6))) fun w =>
 (z93 (d.1, w, d.2.2)).bind fun r2 =>
 some (r2.1, r2.2)
 else none)
def zx4 : Sig := ⟨78, [.d c16, .d (.int .i64), .d .str], [], 0, y8a⟩
def zta (x : T7 × Int × (List Int)) : Option ((T7 × Int)) := zo0 x.1 x.2.1 x.2.2
theorem y5b : FnOK Try.prog zx4 zta :=
 zx ygq (h := (.two .no (.two .no (.two .no (.two (.reg [3] []) (.two (.reg [7] []) .no)))))) Try.func78 (ze [] (by kernel_rfl) trivial) (by kernel_rfl) ye5 (fun x => by kernel_rfl)
def y7c : Env := ⟨[(zD zhh zfr), (zD zn0 zju), (zD zmc zjx)], [], []⟩
theorem zl1 : EnvsOK Try.prog y7c := ⟨zd (zh zpy) (zd (zh zt8) (zd (zh zvs) (zj _))), zg _, zf _⟩
def z5i : Shp := ⟨36, 0, [(2, .pt 0 r0 []), (4, .pt 1 r0 [])], [.var 57 (.d c16), .var 57 (.d c16)]⟩
def xY : XS := .one (.exit 0) z5i.xe
theorem zfq : xY.OK := XS.one_ok (za z5i)
def xX : Shp := ⟨36, 0, [(2, .pt 0 r0 []), (4, .pt 1 r0 []), (6, .d (.int .i64))], [.var 57 (.d c16), .var 57 (.d c16)]⟩
abbrev z1r := Int × T7 × T7
abbrev z66 := (T7 × T7)
def xZ (i : Int) (t2 : T7) (c : T7) : Option (z1r ⊕ z66) :=
 zk (kA c.1) (
 bif ltI i (kA c.1 : Nat) then
 (z7b c i).bind fun r =>
 (zdu c.1 i r).bind fun r2 =>
 some (.inl (W64 (i + 1), t2, (r2, c.2)))
 else
 some (.inr (t2, c)))
def yB (s : z1r) : Option (z1r ⊕ z66) := xZ s.1 s.2.1 s.2.2
theorem zgg : SoundD Try.prog (.loop (zN (zw Try.f80) [1, 1, 1, 1, 0, 1, 0, 0])) (zl xX.xe xY (zb yB)) :=
 zG (S := xX.xe) (X := xY) zl1 (h := .no) (ze [] (by kernel_rfl) trivial) (za xX) zfq yB (fun s => by kernel_rfl)
def zl0 : Shp := ⟨1, 0, [(0, .tu [.d c16, .d (.int .i64)])], []⟩
def zpx : XS := .one .ret zl0.xe
theorem y0u : zpx.OK := XS.one_ok (za zl0)
def z7a (d : T7) : Option ((T7 × Int)) :=
 bif d.2.2.2.2.2 then
 some (d, 6)
 else
 (z93 d).bind fun r =>
 bif neI r.2 0 then
 some (r.1, r.2)
 else
 (zb yB (0, ([], [], 0, ([], 0, 0), 0, false), r.1)).bind fun o =>
 some ((o.2.1, [], o.2.2.2), 0)
def zfp : Sig := ⟨80, [.d c16], [], 0, zpx⟩
def zdt (x : T7) : Option ((T7 × Int)) := z7a x
theorem znz : FnOK Try.prog zfp zdt :=
 zx zl1 (h := (.two .no (.two .no (.two .no (.two .no (.two (.two .no (.over (zl xX.xe xY (zb yB)))) .no)))))) Try.func80 (ze [.den (.loop (zN (zw Try.f80) [1, 1, 1, 1, 0, 1, 0, 0])) (zl xX.xe xY (zb yB))] (by kernel_rfl) ⟨zgg, trivial⟩) (by kernel_rfl) y0u (fun x => by kernel_rfl)
def yeh : Env := ⟨[(zD y2t zyz), (zD zx4 zta), (zD zfp zdt)], [], []⟩
theorem ya8 : EnvsOK Try.prog yeh := ⟨zd (zh yec) (zd (zh y5b) (zd (zh znz) (zj _))), zg _, zf _⟩
def zl5 : Shp := ⟨49, 0, [(1, .d (.int .u64)), (2, .d (.int .i64)), (3, .d .str), (4, .pt 0 r19 []), (8, .pt 1 r19 []), (10, .pt 2 r0 []), (11, .d (.int .i64))], [.var 61 (.d c18), .var 61 (.d c18), .var 57 (.d c16)]⟩
def zfs : XS := .one .normal zl5.xe
theorem y0w : zfs.OK := XS.one_ok (za zl5)
def zts : Shp := ⟨1, 0, [(0, .tu [.d c18, .d (.int .i64)])], []⟩
def zz3 : XS := .one .ret zts.xe
theorem y7l : zz3.OK := XS.one_ok (za zts)
def zdx (j : T8) (n : Int) (side : Int) (data : List Int) : Option ((T8 × Int)) :=
 zk (kA data) (
 (zn1 n (xJ (side)) (xJ ((kA data : Nat)))).bind fun r =>
 (zo0 j.1 (W64 (kD n 2)) r).bind fun r2 =>
 (show Option ((Int × Int × (List Int) × Int × T8 × T8 × T7)) from
 bif eqI r2.2 0 then
 (z7a r2.1).bind fun r3 =>
 some ((n, side, data, r3.2, j, (([], [], 0, ([], 0, 0), 0, false), 0, 0, [], 0, false), r3.1))
 else
 some ((n, side, data, r2.2, j, (([], [], 0, ([], 0, 0), 0, false), 0, 0, [], 0, false), r2.1))).bind fun j2 =>
 bif neI j2.2.2.2.1 0 then
 some (((j2.2.2.2.2.2.2, j2.2.2.2.2.1.2).1, (j2.2.2.2.2.2.2, j2.2.2.2.2.1.2).2.1, (j2.2.2.2.2.2.2, j2.2.2.2.2.1.2).2.2.1, (j2.2.2.2.2.2.2, j2.2.2.2.2.1.2).2.2.2.1, (j2.2.2.2.2.2.2, j2.2.2.2.2.1.2).2.2.2.2.1, true), j2.2.2.2.1)
 else
 some ((((((j2.2.2.2.2.2.2, j2.2.2.2.2.1.2).1, j2.1, (j2.2.2.2.2.2.2, j2.2.2.2.2.1.2).2.2).1, ((j2.2.2.2.2.2.2, j2.2.2.2.2.1.2).1, j2.1, (j2.2.2.2.2.2.2, j2.2.2.2.2.1.2).2.2).2.1, j2.2.1, ((j2.2.2.2.2.2.2, j2.2.2.2.2.1.2).1, j2.1, (j2.2.2.2.2.2.2, j2.2.2.2.2.1.2).2.2).2.2.2).1, (((j2.2.2.2.2.2.2, j2.2.2.2.2.1.2).1, j2.1, (j2.2.2.2.2.2.2, j2.2.2.2.2.1.2).2.2).1, ((j2.2.2.2.2.2.2, j2.2.2.2.2.1.2).1, j2.1, (j2.2.2.2.2.2.2, j2.2.2.2.2.1.2).2.2).2.1, j2.2.1, ((j2.2.2.2.2.2.2, j2.2.2.2.2.1.2).1, j2.1, (j2.2.2.2.2.2.2, j2.2.2.2.2.1.2).2.2).2.2.2).2.1, (((j2.2.2.2.2.2.2, j2.2.2.2.2.1.2).1, j2.1, (j2.2.2.2.2.2.2, j2.2.2.2.2.1.2).2.2).1, ((j2.2.2.2.2.2.2, j2.2.2.2.2.1.2).1, j2.1, (j2.2.2.2.2.2.2, j2.2.2.2.2.1.2).2.2).2.1, j2.2.1, ((j2.2.2.2.2.2.2, j2.2.2.2.2.1.2).1, j2.1, (j2.2.2.2.2.2.2, j2.2.2.2.2.1.2).2.2).2.2.2).2.2.1, j2.2.2.1, (((j2.2.2.2.2.2.2, j2.2.2.2.2.1.2).1, j2.1, (j2.2.2.2.2.2.2, j2.2.2.2.2.1.2).2.2).1, ((j2.2.2.2.2.2.2, j2.2.2.2.2.1.2).1, j2.1, (j2.2.2.2.2.2.2, j2.2.2.2.2.1.2).2.2).2.1, j2.2.1, ((j2.2.2.2.2.2.2, j2.2.2.2.2.1.2).1, j2.1, (j2.2.2.2.2.2.2, j2.2.2.2.2.1.2).2.2).2.2.2).2.2.2.2), 0)))
def zmh : Sig := ⟨65, [.d c18, .d (.int .u64), .d (.int .i64), .d .str], [], 0, zz3⟩
def zk2 (x : T8 × Int × Int × (List Int)) : Option ((T8 × Int)) := zdx x.1 x.2.1 x.2.2.1 x.2.2.2
theorem zw1 : FnOK Try.prog zmh zk2 :=
 zx ya8 (h := (.two .no (.two .no (.join (fun _ => zfs) .no .no)))) Try.func65 (ze [.xs (fun _ => zfs)] (by kernel_rfl) ⟨(qB y0w), trivial⟩) (by kernel_rfl) y7l (fun x => by kernel_rfl)
def ygo : Env := ⟨[], [], []⟩
theorem yc6 : EnvsOK Try.prog ygo := ⟨zj _, zg _, zf _⟩
def znx : Shp := ⟨42, 0, [(0, .d .str), (5, .d (.int .i64)), (6, .d (.int .i64))], []⟩
def zny : Shp := ⟨42, 0, [(2, .d .str), (3, .d .str), (4, .d (.int .i64))], []⟩
def zhg : XS := .or .normal znx.xe (.one .ret zny.xe)
theorem y3k : zhg.OK := XS.or_ok (za znx) (XS.one_ok (za zny))
def zvm : Shp := ⟨1, 0, [(0, .tu [.d .str, .d .str, .d (.int .i64)])], []⟩
def y2d : XS := .one .ret zvm.xe
theorem ya0 : y2d.OK := XS.one_ok (za zvm)
def zmz (t0 : List Int) : Option (((List Int) × (List Int) × Int)) :=
 (yn t0 0).bind fun x =>
 (show Option (((List Int) × Int × Int) ⊕ ((List Int) × (List Int) × Int)) from
 bif eqI (W64 (x)) 255 then
 zk (kA t0) (
 bif ltI (kA t0 : Nat) 3 then
 some (.inr (([] : List Int), ([] : List Int), 8))
 else
 (yn t0 1).bind fun x2 =>
 (yn t0 2).bind fun x3 =>
 bif ltI (W64 ((W64 ((W64 (x2)) * 256)) + (W64 (x3)))) 255 then
 some (.inr (([] : List Int), ([] : List Int), 7))
 else
 some (.inl ((t0, W64 ((W64 ((W64 (x2)) * 256)) + (W64 (x3))), 3))))
 else
 some (.inl (t0, W64 (x), 1))).bind fun j =>
 Sum.elim (fun y =>
 zk (kA y.1) (
 bif ltI (kA y.1 : Nat) (W64 (y.2.2 + y.2.1)) then
 some (([] : List Int), ([] : List Int), 8)
 else
 bif zV y.2.2 (W64 (y.2.2 + y.2.1)) (kA y.1) then
 bif zV (W64 (y.2.2 + y.2.1)) (kA y.1 : Nat) (kA y.1) then
 some (zA y.1 y.2.2 (W64 (y.2.2 + y.2.1)), zA y.1 (W64 (y.2.2 + y.2.1)) (kA y.1 : Nat), 0)
 else none
 else none)) (fun y2 =>
 some (y2.1, y2.2.1, y2.2.2)) j
def y2c : Sig := ⟨81, [.d .str], [], 0, y2d⟩
def zyq (x : (List Int)) : Option (((List Int) × (List Int) × Int)) := zmz x
theorem ydz : FnOK Try.prog y2c zyq :=
 zx yc6 (h := (.two .no (.two .no (.join (fun _ => zhg) .no .no)))) Try.func81 (ze [.xs (fun _ => zhg)] (by kernel_rfl) ⟨(qB y3k), trivial⟩) (by kernel_rfl) ya0 (fun x => by kernel_rfl)
def y7f : Env := ⟨[(zD y2c zyq), (zD zt6 zpc)], [], []⟩
theorem zl4 : EnvsOK Try.prog y7f := ⟨zd (zh ydz) (zd (zh y2e) (zj _)), zg _, zf _⟩
def z9o : Shp := ⟨40, 0, [(4, .wn 0 .str)], [.row 9 .str]⟩
def z9p : Shp := ⟨40, 0, [(2, .d (.sl .str)), (3, .d (.int .i64))], []⟩
def jR : XS := .or (.exit 0) z9o.xe (.one .ret z9p.xe)
theorem zme : jR.OK := XS.or_ok (za z9o) (XS.one_ok (za z9p))
def jQ : Shp := ⟨40, 0, [(0, .d .str), (4, .wn 0 .str)], [.row 9 .str]⟩
abbrev z58 := (List Int) × (List (List Int))
abbrev zbt := ((List (List Int))) ⊕ ((List (List Int)) × Int)
def jS (b : List Int) (out : List (List Int)) : Option (z58 ⊕ zbt) :=
 bif !(eqS b ([] : List Int)) then
 (zmz b).bind fun r =>
 bif neI r.2.2 0 then
 some (.inr (.inr ([], 7)))
 else
 zk (kA r.1) (
 bif ltI (W64 ((kA r.1 : Nat) - 4)) 0 then
 some (.inr (.inr ([], 9)))
 else
 bif zV 0 (W64 ((kA r.1 : Nat) - 4)) (kA r.1) then
 (zjt (zA r.1 0 (W64 ((kA r.1 : Nat) - 4)))).bind fun r2 =>
 bif !(eqS r2 r.1) then
 some (.inr (.inr ([], 9)))
 else
 bif zV 0 (W64 ((kA r.1 : Nat) - 4)) (kA r.1) then
 bif kB (kA out) (kA out) then
 qL (kA out) (kA (([zA r.1 0 (W64 ((kA r.1 : Nat) - 4))] : List (List Int)))) 16 fun _ =>
 bif kB (kA (out ++ (([zA r.1 0 (W64 ((kA r.1 : Nat) - 4))] : List (List Int))))) (kA (out ++ (([zA r.1 0 (W64 ((kA r.1 : Nat) - 4))] : List (List Int))))) then
 some (.inl ((r.2.1, out ++ (([zA r.1 0 (W64 ((kA r.1 : Nat) - 4))] : List (List Int))))))
 else none
 else none
 else none
 else none)
 else
 bif kB (kA out) (kA out) then
 some (.inr (.inl out))
 else none
def xB (s : z58) : Option (z58 ⊕ zbt) := jS s.1 s.2
theorem zo6 : SoundD Try.prog (.loop (zN (zw Try.f66) [1, 1, 0, 0, 0])) (zl jQ.xe jR (zb xB)) :=
 zG (S := jQ.xe) (X := jR) zl4 (h := .no) (ze [] (by kernel_rfl) trivial) (za jQ) zme xB (fun s => by kernel_rfl)
def zl3 : Shp := ⟨1, 0, [(0, .tu [.d (.sl .str), .d (.int .i64)])], []⟩
def zq0 : XS := .one .ret zl3.xe
theorem y0v : zq0.OK := XS.one_ok (za zl3)
def zbs (b : List Int) : Option (((List (List Int)) × Int)) :=
 bif kB 0 (kA ([] : List (List Int))) then
 (zb xB (b, ([] : List (List Int)))).bind fun o =>
 Sum.elim (fun y =>
 yf y 0 (kA y) fun w =>
 some (w, 0)) (fun y2 =>
 some (y2.1, y2.2)) o
 else none
def zpz : Sig := ⟨66, [.d .str], [], 0, zq0⟩
def zo5 (x : (List Int)) : Option (((List (List Int)) × Int)) := zbs x
theorem y5i : FnOK Try.prog zpz zo5 :=
 zx zl4 (h := (.two .no (.two .no (.two (.over (zl jQ.xe jR (zb xB))) .no)))) Try.func66 (ze [.den (.loop (zN (zw Try.f66) [1, 1, 0, 0, 0])) (zl jQ.xe jR (zb xB))] (by kernel_rfl) ⟨zo6, trivial⟩) (by kernel_rfl) y0v (fun x => by kernel_rfl)
def yea : Env := ⟨[(zD zn0 zju), (zD zel zbu), (zD zvv zti), (zD zmh zk2), (zD zpz zo5)], [], []⟩
theorem zhk : EnvsOK Try.prog yea := ⟨zd (zh zt8) (zd (zh zk1) (zd (zh ya4) (zd (zh zw1) (zd (zh y5i) (zj _))))), zg _, zf _⟩
def z7c : Shp := ⟨89, 0, [(1, .pt 0 r0 []), (2, .pt 1 r19 []), (5, .pt 2 r19 []), (6, .d (.int .i64))], [.var 57 (.d c16), .var 61 (.d c18), .var 61 (.d c18)]⟩
def qS : XS := .one (.exit 0) z7c.xe
theorem zir : qS.OK := XS.one_ok (za z7c)
def qR : Shp := ⟨89, 0, [(1, .pt 0 r0 []), (2, .pt 1 r19 []), (5, .pt 2 r19 []), (6, .d (.int .i64)), (7, .d (.int .i64))], [.var 57 (.d c16), .var 61 (.d c18), .var 61 (.d c18)]⟩
abbrev z34 := Int × Int × T7 × T8 × T8
abbrev z95 := (Int × T7 × T8 × T8)
def z33 (used : Int) (i : Int) (d : T7) (t2 : T8) (j : T8) : Option (z34 ⊕ z95) :=
 bif ltI i 2 then
 (z7b d i).bind fun r =>
 (z3y d).bind fun r2 =>
 (zgw r r2).bind fun r3 =>
 bif ltI j.2.1 r3.1 then
 some (.inl (r3.2.2, W64 (i + 1), d, t2, ((j.1, r3.1, j.2.2).1, (j.1, r3.1, j.2.2).2.1, r3.2.1, (j.1, r3.1, j.2.2).2.2.2)))
 else
 some (.inl (used, W64 (i + 1), d, t2, j))
 else
 some (.inr (used, d, t2, j))
def yM (s : z34) : Option (z34 ⊕ z95) := z33 s.1 s.2.1 s.2.2.1 s.2.2.2.1 s.2.2.2.2
theorem zjz : SoundD Try.prog (.loop (zN (zw Try.f44) [1, 1, 1, 1, 0, 1, 0, 0])) (zl qR.xe qS (zb yM)) :=
 zG (S := qR.xe) (X := qS) zhk (h := .no) (ze [] (by kernel_rfl) trivial) (za qR) zir yM (fun s => by kernel_rfl)
def z3x : Shp := ⟨89, 0, [(2, .pt 0 r19 []), (5, .pt 1 r19 []), (6, .d (.int .i64)), (13, .d .str)], [.var 61 (.d c18), .var 61 (.d c18)]⟩
def xv : XS := .one (.exit 2) z3x.xe
theorem zc5 : xv.OK := XS.one_ok (za z3x)
def xu : Shp := ⟨89, 0, [(1, .pt 0 r0 []), (2, .pt 1 r19 []), (5, .pt 2 r19 []), (6, .d (.int .i64)), (13, .d .str), (14, .d (.int .i64))], [.var 57 (.d c16), .var 61 (.d c18), .var 61 (.d c18)]⟩
abbrev vZ := Int × (List Int) × Int × T7 × T8 × T8
abbrev z4x := (Int × (List Int) × T8 × T8)
def xw (used : Int) (all : List Int) (i : Int) (d : T7) (t2 : T8) (j : T8) : Option (vZ ⊕ z4x) :=
 zk (kA all) (
 bif ltI (kA all : Nat) used then
 (z7b d i).bind fun r =>
 z5l all r fun _ =>
 some (.inl (used, all ++ r, W64 (i + 1), d, t2, j))
 else
 some (.inr (used, all, t2, j)))
def yi (s : vZ) : Option (vZ ⊕ z4x) := xw s.1 s.2.1 s.2.2.1 s.2.2.2.1 s.2.2.2.2.1 s.2.2.2.2.2
theorem zdv : SoundD Try.prog (.loop (zN (zw Try.f44) [1, 1, 1, 1, 1, 1, 1, 0, 1, 0, 0])) (zl xu.xe xv (zb yi)) :=
 zG (S := xu.xe) (X := xv) zhk (h := .no) (ze [] (by kernel_rfl) trivial) (za xu) zc5 yi (fun s => by kernel_rfl)
def ztg : Shp := ⟨1, 0, [(0, .tu [.d c18, .d (.sl .str), .d (.int .i64)])], []⟩
def zyx : XS := .one .ret ztg.xe
theorem y7e : zyx.OK := XS.one_ok (za ztg)
def z2d (d : T7) : Option ((T8 × (List (List Int)) × Int)) :=
 bif d.2.2.2.2.2 then
 some ((d, 0, 0, [], 0, false), [], 6)
 else
 (zb yM ((0, 0, d, (([], [], 0, ([], 0, 0), 0, false), 0, 0, [], 0, false), (d, 0, 0, [], 0, false)))).bind fun o =>
 bif eqI o.2.2.2.2.1 0 then
 (zdx o.2.2.2 1 0 ([] : List Int)).bind fun r =>
 some (r.1, [], r.2)
 else
 (z3y o.2.1).bind fun r2 =>
 (zb yi ((o.1, ([] : List Int), W64 (2 + (W64 (o.2.2.2.2.2.1 * (W64 (kI r2 256))))), o.2.1, o.2.2.1, o.2.2.2))).bind fun o2 =>
 bif zV 0 o2.1 (kA o2.2.1) then
 (zbs ((o2.2.2.2.1, o2.2.2.2.2.1, o2.2.2.2.2.2.1, zA o2.2.1 0 o2.1, o2.2.2.2.2.2.2.2).2.2.2.1)).bind fun r3 =>
 zk (kA r3.1) (
 some (((o2.2.2.2.1, o2.2.2.2.2.1, o2.2.2.2.2.2.1, zA o2.2.1 0 o2.1, o2.2.2.2.2.2.2.2).1, (o2.2.2.2.1, o2.2.2.2.2.1, o2.2.2.2.2.2.1, zA o2.2.1 0 o2.1, o2.2.2.2.2.2.2.2).2.1, (o2.2.2.2.1, o2.2.2.2.2.1, o2.2.2.2.2.2.1, zA o2.2.1 0 o2.1, o2.2.2.2.2.2.2.2).2.2.1, (o2.2.2.2.1, o2.2.2.2.2.1, o2.2.2.2.2.2.1, zA o2.2.1 0 o2.1, o2.2.2.2.2.2.2.2).2.2.2.1, (kA r3.1 : Nat), (o2.2.2.2.1, o2.2.2.2.2.1, o2.2.2.2.2.2.1, zA o2.2.1 0 o2.1, o2.2.2.2.2.2.2.2).2.2.2.2.2), r3.1, r3.2))
 else none
def zmd : Sig := ⟨44, [.d c16], [], 0, zyx⟩
def zjy (x : T7) : Option ((T8 × (List (List Int)) × Int)) := z2d x
theorem zvt : FnOK Try.prog zmd zjy :=
 zx zhk (h := (.two .no (.two .no (.two .no (.two .no (.two (.two .no (.over (zl qR.xe qS (zb yM)))) (.two .no (.two .no (.two (.two .no (.over (zl xu.xe xv (zb yi)))) .no))))))))) Try.func44 (ze [.den (.loop (zN (zw Try.f44) [1, 1, 1, 1, 0, 1, 0, 0])) (zl qR.xe qS (zb yM)), .den (.loop (zN (zw Try.f44) [1, 1, 1, 1, 1, 1, 1, 0, 1, 0, 0])) (zl xu.xe xv (zb yi))] (by kernel_rfl) ⟨zjz, zdv, trivial⟩) (by kernel_rfl) y7e (fun x => by kernel_rfl)
def y3g : Env := ⟨[(zD zmd zjy), (zD zsw zp7)], [(xz za0 z8k)], []⟩
theorem zy6 : EnvsOK Try.prog y3g := ⟨zd (zh zvt) (zd (zh y1x) (zj _)), zy (zR zfl) (zg _), zf _⟩
def zg6 : Shp := ⟨61, 2, [(0, .pt 0 r20 []), (3, .c .nilp), (4, .d c5), (5, .d (.int .i64))], [.var 63 (.ag [.pt 1 r0 [], .c .nilp, .d c18]), .var 71 (.ag [.wn 2 c1, .d c2, .d (.int .i64), .d c3, .d (.int .i64), .d .bool]), .row 86 c1]⟩
def zg7 : Shp := ⟨61, 2, [(0, .pt 0 r20 []), (3, .pt 2 r6 []), (4, .wn 3 (.sl (.int .u8))), (5, .d (.int .i64))], [.var 63 (.ag [.pt 1 r0 [], .c .nilp, .d c18]), .var 71 (.ag [.wn 4 c1, .d c2, .d (.int .i64), .d c3, .d (.int .i64), .d .bool]), .var 75 (.ag [.pt 1 r0 [], .d c4, .d (.sl (.int .u8)), .d (.int .i64), .d .bool]), .row 34 (.sl (.int .u8)), .row 86 c1]⟩
def za2 : XS := .or .normal zg6.xe (.one .normal zg7.xe)
theorem zuj : za2.OK := XS.or_ok (za zg6) (XS.one_ok (za zg7))
def zi3 : Shp := ⟨1, 2, [(0, .d .bool)], [.var 63 (.ag [.pt 1 r0 [], .c .nilp, .d c18]), .var 71 (.ag [.wn 2 c1, .d c2, .d (.int .i64), .d c3, .d (.int .i64), .d .bool]), .row 86 c1]⟩
def zi4 : Shp := ⟨1, 2, [(0, .d .bool)], [.var 63 (.ag [.pt 1 r0 [], .pt 2 r6 [], .d c18]), .var 71 (.ag [.wn 3 c1, .d c2, .d (.int .i64), .d c3, .d (.int .i64), .d .bool]), .var 75 (.ag [.pt 1 r0 [], .d c4, .d (.sl (.int .u8)), .d (.int .i64), .d .bool]), .row 86 c1]⟩
def zkt : XS := .or .ret zi3.xe (.one .ret zi4.xe)
theorem zwv : zkt.OK := XS.or_ok (za zi3) (XS.one_ok (za zi4))
def z4w (b : T8) (b2 : List T0) (b3 : Int) (b4 : T1) (b5 : Int) (b6 : Bool) (b7 : List (List Int)) : Option ((Bool × T8 × (List T0) × Int × T1 × Int × Bool × (List (List Int))) ⊕ (Bool × T8 × (List T0) × Int × T1 × Int × Bool × T2 × (List Int) × Int × Bool × (List (List Int)))) :=
 (show Option (((List (List Int)) × Int × T8 × (List T0) × Int × T1 × Int × Bool × (List (List Int))) ⊕ (Int × T8 × (List T0) × Int × T1 × Int × Bool × T2 × (List Int) × Int × Bool × (List (List Int)) × (List (List Int)))) from
 bif kB (kA b7) (kA b7) then
 (qM b2 b3 b4 b5 b6 b7).bind fun r =>
 Sum.elim (fun y =>
 bif kB (kA y.2.2.2.2.2.2.2) (kA y.2.2.2.2.2.2.2) then
 some (.inl (y.1, y.2.1, b, y.2.2.1, y.2.2.2.1, y.2.2.2.2.1, y.2.2.2.2.2.1, y.2.2.2.2.2.2.1, y.2.2.2.2.2.2.2))
 else none) (fun y2 =>
 bif kB (kA y2.2.2.2.2.2.2.2.2.2.2.1) (kA y2.2.2.2.2.2.2.2.2.2.2.1) then
 bif kB (kA y2.2.2.2.2.2.2.2.2.2.2.2) (kA y2.2.2.2.2.2.2.2.2.2.2.2) then
 some (.inr (y2.1, b, y2.2.1, y2.2.2.1, y2.2.2.2.1, y2.2.2.2.2.1, y2.2.2.2.2.2.1, y2.2.2.2.2.2.2.1, y2.2.2.2.2.2.2.2.1, y2.2.2.2.2.2.2.2.2.1, y2.2.2.2.2.2.2.2.2.2.1, y2.2.2.2.2.2.2.2.2.2.2.1, y2.2.2.2.2.2.2.2.2.2.2.2))
 else none
 else none) r
 else none).bind fun j =>
 Sum.elim (fun y3 =>
 (z2d y3.2.2.1.1).bind fun r2 =>
 bif neI r2.2.2 0 then
 bif eqI y3.2.1 r2.2.2 then
 zk (kA y3.1) (
 bif kB (kA y3.2.2.2.2.2.2.2.2) (kA y3.2.2.2.2.2.2.2.2) then
 some (.inl (eqI (kA y3.1 : Nat) 0, (r2.1.1, r2.1.2.1, r2.1.2.2.1, r2.1.2.2.2.1, r2.1.2.2.2.2.1, true), y3.2.2.2.1, y3.2.2.2.2.1, y3.2.2.2.2.2.1, y3.2.2.2.2.2.2.1, y3.2.2.2.2.2.2.2.1, y3.2.2.2.2.2.2.2.2))
 else none)
 else
 bif kB (kA y3.2.2.2.2.2.2.2.2) (kA y3.2.2.2.2.2.2.2.2) then
 some (.inl (false, (r2.1.1, r2.1.2.1, r2.1.2.2.1, r2.1.2.2.2.1, r2.1.2.2.2.2.1, true), y3.2.2.2.1, y3.2.2.2.2.1, y3.2.2.2.2.2.1, y3.2.2.2.2.2.2.1, y3.2.2.2.2.2.2.2.1, y3.2.2.2.2.2.2.2.2))
 else none
 else
 bif eqI y3.2.1 0 then
 (za4 y3.1 r2.2.1).bind fun r3 =>
 bif kB (kA y3.2.2.2.2.2.2.2.2) (kA y3.2.2.2.2.2.2.2.2) then
 some (.inl (r3, r2.1, y3.2.2.2.1, y3.2.2.2.2.1, y3.2.2.2.2.2.1, y3.2.2.2.2.2.2.1, y3.2.2.2.2.2.2.2.1, y3.2.2.2.2.2.2.2.2))
 else none
 else
 bif kB (kA y3.2.2.2.2.2.2.2.2) (kA y3.2.2.2.2.2.2.2.2) then
 some (.inl (false, r2.1, y3.2.2.2.1, y3.2.2.2.2.1, y3.2.2.2.2.2.1, y3.2.2.2.2.2.2.1, y3.2.2.2.2.2.2.2.1, y3.2.2.2.2.2.2.2.2))
 else none) (fun y4 =>
 (z2d y4.2.1.1).bind fun r4 =>
 bif neI r4.2.2 0 then
 bif eqI y4.1 r4.2.2 then
 bif kB (kA y4.2.2.2.2.2.2.2.2.2.2.2.2) (kA y4.2.2.2.2.2.2.2.2.2.2.2.2) then
 some (.inr (false, (r4.1.1, r4.1.2.1, r4.1.2.2.1, r4.1.2.2.2.1, r4.1.2.2.2.2.1, true), y4.2.2.1, y4.2.2.2.1, y4.2.2.2.2.1, y4.2.2.2.2.2.1, y4.2.2.2.2.2.2.1, y4.2.2.2.2.2.2.2.1, y4.2.2.2.2.2.2.2.2.1, y4.2.2.2.2.2.2.2.2.2.1, y4.2.2.2.2.2.2.2.2.2.2.1, y4.2.2.2.2.2.2.2.2.2.2.2.2))
 else none
 else
 bif kB (kA y4.2.2.2.2.2.2.2.2.2.2.2.2) (kA y4.2.2.2.2.2.2.2.2.2.2.2.2) then
 some (.inr (false, (r4.1.1, r4.1.2.1, r4.1.2.2.1, r4.1.2.2.2.1, r4.1.2.2.2.2.1, true), y4.2.2.1, y4.2.2.2.1, y4.2.2.2.2.1, y4.2.2.2.2.2.1, y4.2.2.2.2.2.2.1, y4.2.2.2.2.2.2.2.1, y4.2.2.2.2.2.2.2.2.1, y4.2.2.2.2.2.2.2.2.2.1, y4.2.2.2.2.2.2.2.2.2.2.1, y4.2.2.2.2.2.2.2.2.2.2.2.2))
 else none
 else
 bif eqI y4.1 0 then
 yf y4.2.2.2.2.2.2.2.2.2.2.2.1 0 (kA y4.2.2.2.2.2.2.2.2.2.2.2.1) fun w =>
 (za4 w r4.2.1).bind fun r5 =>
 bif kB (kA y4.2.2.2.2.2.2.2.2.2.2.2.2) (kA y4.2.2.2.2.2.2.2.2.2.2.2.2) then
 some (.inr (r5, r4.1, y4.2.2.1, y4.2.2.2.1, y4.2.2.2.2.1, y4.2.2.2.2.2.1, y4.2.2.2.2.2.2.1, y4.2.2.2.2.2.2.2.1, y4.2.2.2.2.2.2.2.2.1, y4.2.2.2.2.2.2.2.2.2.1, y4.2.2.2.2.2.2.2.2.2.2.1, y4.2.2.2.2.2.2.2.2.2.2.2.2))
 else none
 else
 bif kB (kA y4.2.2.2.2.2.2.2.2.2.2.2.2) (kA y4.2.2.2.2.2.2.2.2.2.2.2.2) then
 some (.inr (false, r4.1, y4.2.2.1, y4.2.2.2.1, y4.2.2.2.2.1, y4.2.2.2.2.2.1, y4.2.2.2.2.2.2.1, y4.2.2.2.2.2.2.2.1, y4.2.2.2.2.2.2.2.2.1, y4.2.2.2.2.2.2.2.2.2.1, y4.2.2.2.2.2.2.2.2.2.2.1, y4.2.2.2.2.2.2.2.2.2.2.2.2))
 else none) j
def zb1 : Sig := ⟨26, [.pt 0 r20 []], [.var 63 (.ag [.pt 1 r0 [], .c .nilp, .d c18]), .var 71 (.ag [.wn 2 c1, .d c2, .d (.int .i64), .d c3, .d (.int .i64), .d .bool]), .row 86 c1], 2, zkt⟩
def za1 (x : T8 × (List T0) × Int × T1 × Int × Bool × (List (List Int))) : Option ((Bool × T8 × (List T0) × Int × T1 × Int × Bool × (List (List Int))) ⊕ (Bool × T8 × (List T0) × Int × T1 × Int × Bool × T2 × (List Int) × Int × Bool × (List (List Int)))) := z4w x.1 x.2.1 x.2.2.1 x.2.2.2.1 x.2.2.2.2.1 x.2.2.2.2.2.1 x.2.2.2.2.2.2
theorem zje : FnOK Try.prog zb1 za1 :=
 zx zy6 (h := (.two .no (.join (fun _ => za2) .no .no))) Try.func26 (ze [.xs (fun _ => za2)] (by kernel_rfl) ⟨(qB zuj), trivial⟩) (by kernel_rfl) zwv (fun x => by kernel_rfl)
def yla : Env := ⟨[], [], []⟩
theorem y2z : EnvsOK Try.prog yla := ⟨zj _, zg _, zf _⟩
def zfh : Shp := ⟨20, 0, [], []⟩
def zfi : Shp := ⟨20, 0, [(4, .d (.int .i64))], []⟩
def z1h : XS := .or (.exit 0) zfh.xe (.one .ret zfi.xe)
theorem ztp : z1h.OK := XS.or_ok (za zfh) (XS.one_ok (za zfi))
def z1g : Shp := ⟨20, 0, [(1, .d (.sl .str)), (5, .d (.int .i64))], []⟩
abbrev z99 := (List (List Int)) × Int
abbrev zim := (Unit) ⊕ (Int)
def z1i (l : List (List Int)) (i : Int) : Option (z99 ⊕ zim) :=
 zk (kA l) (
 bif ltI i (kA l : Nat) then
 (yn l i).bind fun x =>
 zk (kA x) (
 bif ltI 65531 (kA x : Nat) then
 some (.inr (.inr 4))
 else
 some (.inl (l, W64 (i + 1))))
 else
 some (.inr (.inl ())))
def vd (s : z99) : Option (z99 ⊕ zim) := z1i s.1 s.2
theorem zut : SoundD Try.prog (.loop (zN (zw Try.f67) [1, 1, 0, 1, 0, 0])) (zl z1g.xe z1h (zb vd)) :=
 zG (S := z1g.xe) (X := z1h) y2z (h := .no) (ze [] (by kernel_rfl) trivial) (za z1g) ztp vd (fun s => by kernel_rfl)
def y2y : Shp := ⟨1, 0, [(0, .d (.int .i64))], []⟩
def y8g : XS := .one .ret y2y.xe
theorem yef : y8g.OK := XS.one_ok (za y2y)
def zo9 (j : T8) (l : List (List Int)) : Option ((Int)) :=
 bif j.2.2.2.2.2 then
 some 3
 else
 (zb vd (l, 0)).bind fun o =>
 Sum.elim (fun y =>
 some 0) (fun y2 =>
 some y2) o
def zx9 : Sig := ⟨67, [.d c18, .d (.sl .str)], [], 0, y8g⟩
def zto (x : T8 × (List (List Int))) : Option ((Int)) := zo9 x.1 x.2
theorem y5m : FnOK Try.prog zx9 zto :=
 zx y2z (h := (.two .no (.two .no (.two (.two .no (.over (zl z1g.xe z1h (zb vd)))) .no)))) Try.func67 (ze [.den (.loop (zN (zw Try.f67) [1, 1, 0, 1, 0, 0])) (zl z1g.xe z1h (zb vd))] (by kernel_rfl) ⟨zut, trivial⟩) (by kernel_rfl) yef (fun x => by kernel_rfl)
def yl9 : Env := ⟨[(zD zel zbu), (zD zx4 zta), (zD zfp zdt), (zD zmh zk2)], [], []⟩
theorem zpg : EnvsOK Try.prog yl9 := ⟨zd (zh zk1) (zd (zh y5b) (zd (zh znz) (zd (zh zw1) (zj _)))), zg _, zf _⟩
def ztm : Shp := ⟨95, 0, [(1, .d (.int .i64)), (2, .d (.int .i64)), (3, .d .str), (4, .pt 0 r19 []), (8, .pt 1 r19 []), (26, .d .bool)], [.var 61 (.d c18), .var 61 (.d c18)]⟩
def zmf : XS := .one .normal ztm.xe
theorem y7j : zmf.OK := XS.one_ok (za ztm)
def zfg : Shp := ⟨95, 0, [(1, .d (.int .i64)), (2, .d (.int .i64)), (3, .d .str), (4, .pt 0 r19 []), (8, .pt 1 r19 []), (10, .d .str)], [.var 61 (.d c18), .var 61 (.d c18)]⟩
def z1e : XS := .one (.exit 0) zfg.xe
theorem ztn : z1e.OK := XS.one_ok (za zfg)
def z1d : Shp := ⟨95, 0, [(1, .d (.int .i64)), (2, .d (.int .i64)), (3, .d .str), (4, .pt 0 r19 []), (8, .pt 1 r19 []), (10, .d .str)], [.var 61 (.d c18), .var 61 (.d c18)]⟩
abbrev z98 := Int × Int × (List Int) × (List Int) × T8 × T8
abbrev zil := (Int × Int × (List Int) × (List Int) × T8 × T8)
def z1f (side : Int) (there : Int) (all : List Int) (laid : List Int) (j : T8) (t8 : T8) : Option (z98 ⊕ zil) :=
 zk (kA laid) (
 bif neI (kD (kA laid : Nat) 256) 0 then
 z5l laid ([0] : List Int) fun _ =>
 some (.inl (side, there, all, laid ++ ([0] : List Int), j, t8))
 else
 some (.inr (side, there, all, laid, j, t8)))
def qT (s : z98) : Option (z98 ⊕ zil) := z1f s.1 s.2.1 s.2.2.1 s.2.2.2.1 s.2.2.2.2.1 s.2.2.2.2.2
theorem zus : SoundD Try.prog (.loop (zN (zw Try.f68) [1, 1, 1, 0, 0, 0])) (zl z1d.xe z1e (zb qT)) :=
 zG (S := z1d.xe) (X := z1e) zpg (h := .no) (ze [] (by kernel_rfl) trivial) (za z1d) ztn qT (fun s => by kernel_rfl)
def z9q : Shp := ⟨95, 0, [(1, .d (.int .i64)), (3, .d .str), (4, .pt 0 r19 []), (8, .pt 1 r19 [])], [.var 61 (.d c18), .var 61 (.d c18)]⟩
def z9r : Shp := ⟨95, 0, [(8, .pt 0 r19 []), (9, .d (.int .i64))], [.var 61 (.d c18)]⟩
def jU : XS := .or (.exit 2) z9q.xe (.one .ret z9r.xe)
theorem zmg : jU.OK := XS.or_ok (za z9q) (XS.one_ok (za z9r))
def jT : Shp := ⟨95, 0, [(1, .d (.int .i64)), (3, .d .str), (4, .pt 0 r19 []), (8, .pt 1 r19 []), (10, .d .str), (11, .d (.int .i64))], [.var 61 (.d c18), .var 61 (.d c18)]⟩
abbrev z59 := Int × (List Int) × (List Int) × Int × T8 × T8
abbrev zbv := (Int × (List Int) × T8 × T8) ⊕ (Int × T8)
def jV (side : Int) (all : List Int) (laid : List Int) (i : Int) (j : T8) (t8 : T8) : Option (z59 ⊕ zbv) :=
 zk (kA laid) (
 bif ltI i (W64 (kI (kA laid : Nat) 256)) then
 (z3y j.1).bind fun r =>
 bif zV (W64 (i * 256)) (W64 ((W64 (i + 1)) * 256)) (kA laid) then
 (zo0 j.1 (W64 ((W64 (2 + (W64 (side * (W64 (kI r 256)))))) + i)) (zA laid (W64 (i * 256)) (W64 ((W64 (i + 1)) * 256)))).bind fun r2 =>
 bif neI r2.2 0 then
 some (.inr (.inr (r2.2, ((r2.1, j.2).1, (r2.1, j.2).2.1, (r2.1, j.2).2.2.1, (r2.1, j.2).2.2.2.1, (r2.1, j.2).2.2.2.2.1, true))))
 else
 some (.inl (side, all, laid, W64 (i + 1), (r2.1, j.2), t8))
 else none
 else
 some (.inr (.inl (side, all, j, t8))))
def qC (s : z59) : Option (z59 ⊕ zbv) := jV s.1 s.2.1 s.2.2.1 s.2.2.2.1 s.2.2.2.2.1 s.2.2.2.2.2
theorem zo8 : SoundD Try.prog (.loop (zN (zw Try.f68) [1, 1, 1, 1, 0, 1, 0, 0])) (zl jT.xe jU (zb qC)) :=
 zG (S := jT.xe) (X := jU) zpg (h := .no) (ze [] (by kernel_rfl) trivial) (za jT) zmg qC (fun s => by kernel_rfl)
def y2x : Shp := ⟨1, 0, [(0, .tu [.d c18, .d (.int .i64)])], []⟩
def y8f : XS := .one .ret y2x.xe
theorem yee : y8f.OK := XS.one_ok (za y2x)
def zo7 (j : T8) (side : Int) (there : Int) (all : List Int) : Option ((T8 × Int)) :=
 (show Option ((Int × Int × (List Int) × Bool × T8 × T8)) from
 zk (kA all) (
 (z3y j.1).bind fun r =>
 bif ltI r (kA all : Nat) then
 some ((side, there, all, true, j, (([], [], 0, ([], 0, 0), 0, false), 0, 0, [], 0, false)))
 else
 some ((side, there, all, eqI j.2.1 4611686018427387904, j, (([], [], 0, ([], 0, 0), 0, false), 0, 0, [], 0, false))))).bind fun j2 =>
 bif j2.2.2.2.1 then
 some (j2.2.2.2.2.1, 5)
 else
 (zb qT (j2.1, j2.2.1, j2.2.2.1, j2.2.2.1, j2.2.2.2.2.1, j2.2.2.2.2.2)).bind fun o =>
 (zb qC (o.1, o.2.2.1, o.2.2.2.1, W64 (kI o.2.1 256), o.2.2.2.2.1, o.2.2.2.2.2)).bind fun o2 =>
 Sum.elim (fun y =>
 (z7a y.2.2.1.1).bind fun r2 =>
 bif neI r2.2 0 then
 some (((r2.1, y.2.2.1.2).1, (r2.1, y.2.2.1.2).2.1, (r2.1, y.2.2.1.2).2.2.1, (r2.1, y.2.2.1.2).2.2.2.1, (r2.1, y.2.2.1.2).2.2.2.2.1, true), r2.2)
 else
 (zdx (r2.1, y.2.2.1.2) (xJ (((r2.1, y.2.2.1.2).2.1) + 1)) y.1 y.2.1).bind fun r3 =>
 some (r3.1, r3.2)) (fun y2 =>
 some (y2.2, y2.1)) o2
def zx8 : Sig := ⟨68, [.d c18, .d (.int .i64), .d (.int .i64), .d .str], [], 0, y8f⟩
def ztl (x : T8 × Int × Int × (List Int)) : Option ((T8 × Int)) := zo7 x.1 x.2.1 x.2.2.1 x.2.2.2
theorem y5l : FnOK Try.prog zx8 ztl :=
 zx zpg (h := (.two .no (.two (.join (fun _ => zmf) .no .no) (.two .no (.two (.over (zl z1d.xe z1e (zb qT))) (.two (.two .no (.over (zl jT.xe jU (zb qC)))) .no)))))) Try.func68 (ze [.xs (fun _ => zmf), .den (.loop (zN (zw Try.f68) [1, 1, 1, 0, 0, 0])) (zl z1d.xe z1e (zb qT)), .den (.loop (zN (zw Try.f68) [1, 1, 1, 1, 0, 1, 0, 0])) (zl jT.xe jU (zb qC))] (by kernel_rfl) ⟨(qB y7j), zus, zo8, trivial⟩) (by kernel_rfl) yee (fun x => by kernel_rfl)
def yl7 : Env := ⟨[(zD zx9 zto), (zD zx7 zte), (zD zx8 ztl)], [], []⟩
theorem ygt : EnvsOK Try.prog yl7 := ⟨zd (zh y5m) (zd (zh y5h) (zd (zh y5l) (zj _))), zg _, zf _⟩
def zo2 : Shp := ⟨46, 0, [(1, .d (.sl .str)), (2, .pt 0 r19 []), (4, .pt 1 r19 []), (6, .d (.int .i64)), (18, .d .bool)], [.var 61 (.d c18), .var 61 (.d c18)]⟩
def zhi : XS := .one .normal zo2.xe
theorem y3m : zhi.OK := XS.one_ok (za zo2)
def zo3 : Shp := ⟨46, 0, [(4, .pt 0 r19 []), (7, .pt 1 r19 []), (8, .d (.int .i64))], [.var 61 (.d c18), .var 61 (.d c18)]⟩
def zhj : XS := .one .normal zo3.xe
theorem y3n : zhj.OK := XS.one_ok (za zo3)
def y2q : Shp := ⟨1, 0, [(0, .tu [.d c18, .d (.int .i64)])], []⟩
def y8d : XS := .one .ret y2q.xe
theorem ye8 : y8d.OK := XS.one_ok (za y2q)
def zii (j : T8) (l : List (List Int)) : Option ((T8 × Int)) :=
 (zo9 j l).bind fun r =>
 (show Option (((List (List Int)) × Int × Bool × T8 × T8)) from
 bif neI r 0 then
 some ((l, r, true, j, (([], [], 0, ([], 0, 0), 0, false), 0, 0, [], 0, false)))
 else
 zk (kA l) (
 some ((l, r, eqI (kA l : Nat) 0, j, (([], [], 0, ([], 0, 0), 0, false), 0, 0, [], 0, false))))).bind fun j2 =>
 bif j2.2.2.1 then
 some (j2.2.2.2.1, j2.2.1)
 else
 zk (kA j2.2.2.2.1.2.2.2.1) (
 (zo4 j2.1).bind fun r2 =>
 z5l j2.2.2.2.1.2.2.2.1 r2 fun _ =>
 (zo7 j2.2.2.2.1 j2.2.2.2.1.2.2.1 (kA j2.2.2.2.1.2.2.2.1 : Nat) (j2.2.2.2.1.2.2.2.1 ++ r2)).bind fun r3 =>
 (show Option ((Int × T8 × T8)) from
 bif eqI r3.2 0 then
 zk (kA j2.1) (
 some ((r3.2, j2.2.2.2.2, (r3.1.1, r3.1.2.1, r3.1.2.2.1, r3.1.2.2.2.1, W64 (r3.1.2.2.2.2.1 + (kA j2.1 : Nat)), r3.1.2.2.2.2.2))))
 else
 some (r3.2, j2.2.2.2.2, r3.1)).bind fun j3 =>
 some (j3.2.2, j3.1))
def zx6 : Sig := ⟨45, [.d c18, .d (.sl .str)], [], 0, y8d⟩
def ztd (x : T8 × (List (List Int))) : Option ((T8 × Int)) := zii x.1 x.2
theorem y5g : FnOK Try.prog zx6 ztd :=
 zx ygt (h := (.two .no (.two (.two .no (.join (fun _ => zhi) .no .no)) (.two .no (.join (fun _ => zhj) .no .no))))) Try.func45 (ze [.xs (fun _ => zhi), .xs (fun _ => zhj)] (by kernel_rfl) ⟨(qB y3m), (qB y3n), trivial⟩) (by kernel_rfl) ye8 (fun x => by kernel_rfl)
def yca : Env := ⟨[(zD zx9 zto), (zD zx7 zte), (zD zx8 ztl)], [], []⟩
theorem y7g : EnvsOK Try.prog yca := ⟨zd (zh y5m) (zd (zh y5h) (zd (zh y5l) (zj _))), zg _, zf _⟩
def zgj : Shp := ⟨33, 0, [(4, .pt 0 r19 []), (7, .pt 1 r19 []), (8, .d (.int .i64))], [.var 61 (.d c18), .var 61 (.d c18)]⟩
def za7 : XS := .one .normal zgj.xe
theorem zup : za7.OK := XS.one_ok (za zgj)
def zq1 : Shp := ⟨1, 0, [(0, .tu [.d c18, .d (.int .i64)])], []⟩
def zvu : XS := .one .ret zq1.xe
theorem y5j : zvu.OK := XS.one_ok (za zq1)
def z6t (j : T8) (l : List (List Int)) : Option ((T8 × Int)) :=
 (zo9 j l).bind fun r =>
 bif neI r 0 then
 some (j, r)
 else
 (zo4 l).bind fun r2 =>
 (zo7 j (W64 (1 - j.2.2.1)) 0 r2).bind fun r3 =>
 (show Option ((Int × T8 × T8)) from
 bif eqI r3.2 0 then
 zk (kA l) (
 some ((r3.2, (([], [], 0, ([], 0, 0), 0, false), 0, 0, [], 0, false), (r3.1.1, r3.1.2.1, r3.1.2.2.1, r3.1.2.2.2.1, (kA l : Nat), r3.1.2.2.2.2.2))))
 else
 some ((r3.2, (([], [], 0, ([], 0, 0), 0, false), 0, 0, [], 0, false), r3.1))).bind fun j2 =>
 some (j2.2.2, j2.1)
def zk0 : Sig := ⟨46, [.d c18, .d (.sl .str)], [], 0, zvu⟩
def zhl (x : T8 × (List (List Int))) : Option ((T8 × Int)) := z6t x.1 x.2
theorem zth : FnOK Try.prog zk0 zhl :=
 zx y7g (h := (.two .no (.two .no (.two .no (.join (fun _ => za7) .no .no))))) Try.func46 (ze [.xs (fun _ => za7)] (by kernel_rfl) ⟨(qB zup), trivial⟩) (by kernel_rfl) y5j (fun x => by kernel_rfl)
def y79 : Env := ⟨[], [(xz z4z z46), (xz zb1 za1)], []⟩
theorem y3e : EnvsOK Try.prog y79 := ⟨zj _, zy (zR z8n) (zy (zR zje) (zg _)), zf _⟩
def zkp : Shp := ⟨1, 2, [(0, .d .bool)], [.var 63 (.ag [.pt 1 r0 [], .c .nilp, .d c18]), .var 71 (.ag [.wn 2 c1, .d c2, .d (.int .i64), .d c3, .d (.int .i64), .d .bool]), .row 86 c1]⟩
def zkq : Shp := ⟨1, 2, [(0, .d .bool)], [.var 63 (.ag [.pt 1 r0 [], .pt 2 r6 [], .d c18]), .var 71 (.ag [.wn 3 c1, .d c2, .d (.int .i64), .d c3, .d (.int .i64), .d .bool]), .var 75 (.ag [.pt 1 r0 [], .d c4, .d (.sl (.int .u8)), .d (.int .i64), .d .bool]), .row 86 c1]⟩
def zps : XS := .or .ret zkp.xe (.one .ret zkq.xe)
theorem y07 : zps.OK := XS.or_ok (za zkp) (XS.one_ok (za zkq))
def zjd (b : T8) (b2 : List T0) (b3 : Int) (b4 : T1) (b5 : Int) (b6 : Bool) (b7 : List (List Int)) : Option ((Bool × T8 × (List T0) × Int × T1 × Int × Bool × (List (List Int))) ⊕ (Bool × T8 × (List T0) × Int × T1 × Int × Bool × T2 × (List Int) × Int × Bool × (List (List Int)))) :=
 bif kB (kA b7) (kA b7) then
 (qj b2 b3 b4 b5 b6 b7).bind fun r =>
 bif kB (kA r.2.2.2.2.2.2) (kA r.2.2.2.2.2.2) then
 (z4w ((b.1.1, b.1.2.1, b.1.2.2.1, b.1.2.2.2.1, b.1.2.2.2.2.1, false), b.2) r.2.1 r.2.2.1 r.2.2.2.1 r.2.2.2.2.1 r.2.2.2.2.2.1 r.2.2.2.2.2.2).bind fun r2 =>
 Sum.elim (fun y =>
 bif kB (kA y.2.2.2.2.2.2.2) (kA y.2.2.2.2.2.2.2) then
 some (.inl (y.1, y.2.1, y.2.2.1, y.2.2.2.1, y.2.2.2.2.1, y.2.2.2.2.2.1, y.2.2.2.2.2.2.1, y.2.2.2.2.2.2.2))
 else none) (fun y2 =>
 bif kB (kA y2.2.2.2.2.2.2.2.2.2.2.2) (kA y2.2.2.2.2.2.2.2.2.2.2.2) then
 some (.inr (y2.1, y2.2.1, y2.2.2.1, y2.2.2.2.1, y2.2.2.2.2.1, y2.2.2.2.2.2.1, y2.2.2.2.2.2.2.1, y2.2.2.2.2.2.2.2.1, y2.2.2.2.2.2.2.2.2.1, y2.2.2.2.2.2.2.2.2.2.1, y2.2.2.2.2.2.2.2.2.2.2.1, y2.2.2.2.2.2.2.2.2.2.2.2))
 else none) r2
 else none
 else none
def zpr : Sig := ⟨48, [.pt 0 r20 []], [.var 63 (.ag [.pt 1 r0 [], .c .nilp, .d c18]), .var 71 (.ag [.wn 2 c1, .d c2, .d (.int .i64), .d c3, .d (.int .i64), .d .bool]), .row 86 c1], 2, zps⟩
def znr (x : T8 × (List T0) × Int × T1 × Int × Bool × (List (List Int))) : Option ((Bool × T8 × (List T0) × Int × T1 × Int × Bool × (List (List Int))) ⊕ (Bool × T8 × (List T0) × Int × T1 × Int × Bool × T2 × (List Int) × Int × Bool × (List (List Int)))) := zjd x.1 x.2.1 x.2.2.1 x.2.2.2.1 x.2.2.2.2.1 x.2.2.2.2.2.1 x.2.2.2.2.2.2
theorem y4k : FnOK Try.prog zpr znr :=
 zx y3e (h := .no) Try.func48 (ze [] (by kernel_rfl) trivial) (by kernel_rfl) y07 (fun x => by kernel_rfl)
def yjm : Env := ⟨[], [], []⟩
theorem ye4 : EnvsOK Try.prog yjm := ⟨zj _, zg _, zf _⟩
def zyt : Shp := ⟨1, 0, [(0, .d c16)], []⟩
def y5a : XS := .one .ret zyt.xe
theorem yc8 : y5a.OK := XS.one_ok (za zyt)
def zr9 (d : T7) (after : Int) (c : T1) : Option ((T7)) :=
 some ((d.1, d.2.1, zdp after (-1), d.2.2.2).1, (d.1, d.2.1, zdp after (-1), d.2.2.2).2.1, (d.1, d.2.1, zdp after (-1), d.2.2.2).2.2.1, c, (d.1, d.2.1, zdp after (-1), d.2.2.2).2.2.2.2)
def zt9 : Sig := ⟨49, [.d c16, .d (.int .i64), .d c3], [], 0, y5a⟩
def zpf (x : T7 × Int × T1) : Option ((T7)) := zr9 x.1 x.2.1 x.2.2
theorem y2m : FnOK Try.prog zt9 zpf :=
 zx ye4 (h := .no) Try.func49 (ze [] (by kernel_rfl) trivial) (by kernel_rfl) yc8 (fun x => by kernel_rfl)
def y78 : Env := ⟨[], [], []⟩
theorem y3d : EnvsOK Try.prog y78 := ⟨zj _, zg _, zf _⟩
def zko : Shp := ⟨1, 0, [(0, .d .bool)], []⟩
def zpq : XS := .one .ret zko.xe
theorem y06 : zpq.OK := XS.one_ok (za zko)
def zvc (b : T3) (b2 : T8) : Option ((Bool)) :=
 some true
def zpp : Sig := ⟨50, [.rf (.ag [.rf (.d c8), .c .nilp, .d c18])], [], 0, zpq⟩
def znq (x : T3 × T8) : Option ((Bool)) := zvc x.1 x.2
theorem y4j : FnOK Try.prog zpp znq :=
 zx y3d (h := .no) Try.func50 (ze [] (by kernel_rfl) trivial) (by kernel_rfl) y06 (fun x => by kernel_rfl)
def y3i : Env := ⟨[(zD zf4 zcs), (zD zp9 zm0), (zD zx6 ztd), (zD zbh zak), (zD zk0 zhl), (zD zgv zek), (zD zt9 zpf), (zD zpp znq)], [(xz z44 z39), (xz zpr znr), (xz z7p z6c)], []⟩
theorem zy8 : EnvsOK Try.prog y3i := ⟨zd (zh zsi) (zd (zh zye) (zd (zh y5g) (zd (zh zp0) (zd (zh zth) (zd (zh zmb) (zd (zh y2m) (zd (zh y4j) (zj _)))))))), zy (zR z7n) (zy (zR y4k) (zy (zR zev) (zg _))), zf _⟩
def zda : Shp := ⟨118, 2, [(0, .pt 0 r20 []), (5, .d (.int .i64)), (6, .d (.int .i64))], [.var 63 (.ag [.pt 1 r0 [], .c .nilp, .d c18]), .var 71 (.ag [.wn 2 c1, .d c2, .d (.int .i64), .d c3, .d (.int .i64), .d .bool]), .row 86 c1]⟩
def zdb : Shp := ⟨118, 2, [(4, .d .bool)], [.var 63 (.ag [.pt 1 r0 [], .c .nilp, .d c18]), .var 71 (.ag [.wn 2 c1, .d c2, .d (.int .i64), .d c3, .d (.int .i64), .d .bool]), .row 86 c1]⟩
def zdc : Shp := ⟨118, 2, [(4, .d .bool)], [.var 63 (.ag [.pt 1 r0 [], .pt 2 r6 [], .d c18]), .var 71 (.ag [.wn 3 c1, .d c2, .d (.int .i64), .d c3, .d (.int .i64), .d .bool]), .var 75 (.ag [.pt 1 r0 [], .d c4, .d (.sl (.int .u8)), .d (.int .i64), .d .bool]), .row 86 c1]⟩
def z7w : XS := .or .normal zda.xe (.or .ret zdb.xe (.one .ret zdc.xe))
theorem zqz : z7w.OK := XS.or_ok (za zda) (XS.or_ok (za zdb) (XS.one_ok (za zdc)))
def zi7 : Shp := ⟨1, 2, [(0, .d .bool)], [.var 63 (.ag [.pt 1 r0 [], .c .nilp, .d c18]), .var 71 (.ag [.wn 2 c1, .d c2, .d (.int .i64), .d c3, .d (.int .i64), .d .bool]), .row 86 c1]⟩
def zi8 : Shp := ⟨1, 2, [(0, .d .bool)], [.var 63 (.ag [.pt 1 r0 [], .pt 2 r6 [], .d c18]), .var 71 (.ag [.wn 3 c1, .d c2, .d (.int .i64), .d c3, .d (.int .i64), .d .bool]), .var 75 (.ag [.pt 1 r0 [], .d c4, .d (.sl (.int .u8)), .d (.int .i64), .d .bool]), .row 86 c1]⟩
def zkx : XS := .or .ret zi7.xe (.one .ret zi8.xe)
theorem zwx : zkx.OK := XS.or_ok (za zi7) (XS.one_ok (za zi8))
def zpv (o : T4) (b : T8) (b2 : List T0) (b3 : Int) (b4 : T1) (b5 : Int) (b6 : Bool) (b7 : List (List Int)) : Option ((Bool × T8 × (List T0) × Int × T1 × Int × Bool × (List (List Int))) ⊕ (Bool × T8 × (List T0) × Int × T1 × Int × Bool × T2 × (List Int) × Int × Bool × (List (List Int)))) :=
 (show Option ((Int × Int × T8 × (List T0) × Int × T1 × Int × Bool × (List (List Int))) ⊕ (Bool × T8 × (List T0) × Int × T1 × Int × Bool × (List (List Int))) ⊕ (Bool × T8 × (List T0) × Int × T1 × Int × Bool × T2 × (List Int) × Int × Bool × (List (List Int)))) from
 bif eqI (kD (xJ (o.1)) 5) 0 then
 (zhz o.2.1).bind fun r =>
 (z81 o.2.1).bind fun r2 =>
 (zii b r2).bind fun r3 =>
 bif kB (kA b7) (kA b7) then
 some (.inl (r, r3.2, r3.1, b2, b3, b4, b5, b6, b7))
 else none
 else
 bif eqI (kD (xJ (o.1)) 5) 1 then
 (zf7 o.2.1).bind fun r4 =>
 (z81 o.2.1).bind fun r5 =>
 (z6t b r5).bind fun r6 =>
 bif kB (kA b7) (kA b7) then
 some (.inl (r4, r6.2, r6.1, b2, b3, b4, b5, b6, b7))
 else none
 else
 bif eqI (kD (xJ (o.1)) 5) 2 then
 bif kB (kA b7) (kA b7) then
 (qH o.2.2.2 b2 b3 b4 b5 b6 b7).bind fun r7 =>
 (z87 b.1 o.2.2.2).bind fun r8 =>
 bif kB (kA r7.2.2.2.2.2) (kA r7.2.2.2.2.2) then
 (zjd (r8, b.2) r7.1 r7.2.1 r7.2.2.1 r7.2.2.2.1 r7.2.2.2.2.1 r7.2.2.2.2.2).bind fun r9 =>
 Sum.elim (fun y =>
 bif kB (kA y.2.2.2.2.2.2.2) (kA y.2.2.2.2.2.2.2) then
 some (.inr (.inl (y.1, y.2.1, y.2.2.1, y.2.2.2.1, y.2.2.2.2.1, y.2.2.2.2.2.1, y.2.2.2.2.2.2.1, y.2.2.2.2.2.2.2)))
 else none) (fun y2 =>
 bif kB (kA y2.2.2.2.2.2.2.2.2.2.2.2) (kA y2.2.2.2.2.2.2.2.2.2.2.2) then
 some (.inr (.inr (y2.1, y2.2.1, y2.2.2.1, y2.2.2.2.1, y2.2.2.2.2.1, y2.2.2.2.2.2.1, y2.2.2.2.2.2.2.1, y2.2.2.2.2.2.2.2.1, y2.2.2.2.2.2.2.2.2.1, y2.2.2.2.2.2.2.2.2.2.1, y2.2.2.2.2.2.2.2.2.2.2.1, y2.2.2.2.2.2.2.2.2.2.2.2)))
 else none) r9
 else none
 else none
 else
 bif eqI (kD (xJ (o.1)) 5) 3 then
 bif kB (kA b7) (kA b7) then
 (z1z (W64 (kD (xJ (o.2.2.1)) 9)) o.2.2.2 b2 b3 b4 b5 b6 b7).bind fun r10 =>
 (zr9 b.1 (W64 (kD (xJ (o.2.2.1)) 9)) o.2.2.2).bind fun r11 =>
 bif kB (kA r10.2.2.2.2.2) (kA r10.2.2.2.2.2) then
 some (.inl (0, 0, (r11, b.2), r10.1, r10.2.1, r10.2.2.1, r10.2.2.2.1, r10.2.2.2.2.1, r10.2.2.2.2.2))
 else none
 else none
 else
 bif kB (kA b7) (kA b7) then
 (zjd b b2 b3 b4 b5 b6 b7).bind fun r12 =>
 Sum.elim (fun y3 =>
 bif kB (kA y3.2.2.2.2.2.2.2) (kA y3.2.2.2.2.2.2.2) then
 some (.inr (.inl (y3.1, y3.2.1, y3.2.2.1, y3.2.2.2.1, y3.2.2.2.2.1, y3.2.2.2.2.2.1, y3.2.2.2.2.2.2.1, y3.2.2.2.2.2.2.2)))
 else none) (fun y4 =>
 bif kB (kA y4.2.2.2.2.2.2.2.2.2.2.2) (kA y4.2.2.2.2.2.2.2.2.2.2.2) then
 some (.inr (.inr (y4.1, y4.2.1, y4.2.2.1, y4.2.2.2.1, y4.2.2.2.2.1, y4.2.2.2.2.2.1, y4.2.2.2.2.2.2.1, y4.2.2.2.2.2.2.2.1, y4.2.2.2.2.2.2.2.2.1, y4.2.2.2.2.2.2.2.2.2.1, y4.2.2.2.2.2.2.2.2.2.2.1, y4.2.2.2.2.2.2.2.2.2.2.2)))
 else none) r12
 else none).bind fun j =>
 Sum.elim (fun y5 =>
 bif eqI y5.1 y5.2.1 then
 yf y5.2.2.2.2.2.2.2.2 0 (kA y5.2.2.2.2.2.2.2.2) fun w =>
 (zvc (w, y5.2.2.2.1, y5.2.2.2.2.1, y5.2.2.2.2.2.1, y5.2.2.2.2.2.2.1, y5.2.2.2.2.2.2.2.1) y5.2.2.1).bind fun r13 =>
 bif kB (kA y5.2.2.2.2.2.2.2.2) (kA y5.2.2.2.2.2.2.2.2) then
 some (.inl (r13, y5.2.2.1, y5.2.2.2.1, y5.2.2.2.2.1, y5.2.2.2.2.2.1, y5.2.2.2.2.2.2.1, y5.2.2.2.2.2.2.2.1, y5.2.2.2.2.2.2.2.2))
 else none
 else
 bif kB (kA y5.2.2.2.2.2.2.2.2) (kA y5.2.2.2.2.2.2.2.2) then
 some (.inl (false, y5.2.2.1, y5.2.2.2.1, y5.2.2.2.2.1, y5.2.2.2.2.2.1, y5.2.2.2.2.2.2.1, y5.2.2.2.2.2.2.2.1, y5.2.2.2.2.2.2.2.2))
 else none) (fun y6 =>
 Sum.elim (fun y7 =>
 bif kB (kA y7.2.2.2.2.2.2.2) (kA y7.2.2.2.2.2.2.2) then
 some (.inl (y7.1, y7.2.1, y7.2.2.1, y7.2.2.2.1, y7.2.2.2.2.1, y7.2.2.2.2.2.1, y7.2.2.2.2.2.2.1, y7.2.2.2.2.2.2.2))
 else none) (fun y8 =>
 bif kB (kA y8.2.2.2.2.2.2.2.2.2.2.2) (kA y8.2.2.2.2.2.2.2.2.2.2.2) then
 some (.inr (y8.1, y8.2.1, y8.2.2.1, y8.2.2.2.1, y8.2.2.2.2.1, y8.2.2.2.2.2.1, y8.2.2.2.2.2.2.1, y8.2.2.2.2.2.2.2.1, y8.2.2.2.2.2.2.2.2.1, y8.2.2.2.2.2.2.2.2.2.1, y8.2.2.2.2.2.2.2.2.2.2.1, y8.2.2.2.2.2.2.2.2.2.2.2))
 else none) y6) j
def zkw : Sig := ⟨27, [.pt 0 r20 [], .d c13], [.var 63 (.ag [.pt 1 r0 [], .c .nilp, .d c18]), .var 71 (.ag [.wn 2 c1, .d c2, .d (.int .i64), .d c3, .d (.int .i64), .d .bool]), .row 86 c1], 2, zkx⟩
def zjg (x : T4 × T8 × (List T0) × Int × T1 × Int × Bool × (List (List Int))) : Option ((Bool × T8 × (List T0) × Int × T1 × Int × Bool × (List (List Int))) ⊕ (Bool × T8 × (List T0) × Int × T1 × Int × Bool × T2 × (List Int) × Int × Bool × (List (List Int)))) := zpv x.1 x.2.1 x.2.2.1 x.2.2.2.1 x.2.2.2.2.1 x.2.2.2.2.2.1 x.2.2.2.2.2.2.1 x.2.2.2.2.2.2.2
theorem y0a : FnOK Try.prog zkw zjg :=
 zx zy8 (h := (.two .no (.two .no (.join (fun _ => z7w) (.two .no (.two .no (.two .no (.two .no (.two .no (.two .no (.two (.two (.reg [] [6, 0]) .no) (.two .no (.two (.two .no (.two (.reg [] [7, 0]) .no)) .no))))))))) .no)))) Try.func27 (ze [.xs (fun _ => z7w)] (by kernel_rfl) ⟨(qB zqz), trivial⟩) (by kernel_rfl) zwx (fun x => by kernel_rfl)
def y3h : Env := ⟨[(zD zmd zjy), (zD zsw zp7)], [(xz za0 z8k)], []⟩
theorem zy7 : EnvsOK Try.prog y3h := ⟨zd (zh zvt) (zd (zh y1x) (zj _)), zy (zR zfl) (zg _), zf _⟩
def zg8 : Shp := ⟨61, 3, [(0, .pt 0 r20 []), (3, .c .nilp), (4, .d c5), (5, .d (.int .i64))], [.var 63 (.ag [.pt 1 r0 [], .pt 2 r6 [], .d c18]), .var 71 (.ag [.wn 3 c1, .d c2, .d (.int .i64), .d c3, .d (.int .i64), .d .bool]), .var 75 (.ag [.pt 1 r0 [], .d c4, .d (.sl (.int .u8)), .d (.int .i64), .d .bool]), .row 86 c1]⟩
def zg9 : Shp := ⟨61, 3, [(0, .pt 0 r20 []), (3, .pt 3 r6 []), (4, .wn 4 (.sl (.int .u8))), (5, .d (.int .i64))], [.var 63 (.ag [.pt 1 r0 [], .pt 2 r6 [], .d c18]), .var 71 (.ag [.wn 5 c1, .d c2, .d (.int .i64), .d c3, .d (.int .i64), .d .bool]), .var 75 (.ag [.pt 1 r0 [], .d c4, .d (.sl (.int .u8)), .d (.int .i64), .d .bool]), .var 75 (.ag [.pt 1 r0 [], .d c4, .d (.sl (.int .u8)), .d (.int .i64), .d .bool]), .row 34 (.sl (.int .u8)), .row 86 c1]⟩
def za3 : XS := .or .normal zg8.xe (.one .normal zg9.xe)
theorem zuk : za3.OK := XS.or_ok (za zg8) (XS.one_ok (za zg9))
def zi5 : Shp := ⟨1, 3, [(0, .d .bool)], [.var 63 (.ag [.pt 1 r0 [], .c .nilp, .d c18]), .var 71 (.ag [.wn 3 c1, .d c2, .d (.int .i64), .d c3, .d (.int .i64), .d .bool]), .var 75 (.ag [.pt 1 r0 [], .d c4, .d (.sl (.int .u8)), .d (.int .i64), .d .bool]), .row 86 c1]⟩
def zi6 : Shp := ⟨1, 3, [(0, .d .bool)], [.var 63 (.ag [.pt 1 r0 [], .pt 3 r6 [], .d c18]), .var 71 (.ag [.wn 4 c1, .d c2, .d (.int .i64), .d c3, .d (.int .i64), .d .bool]), .var 75 (.ag [.pt 1 r0 [], .d c4, .d (.sl (.int .u8)), .d (.int .i64), .d .bool]), .var 75 (.ag [.pt 1 r0 [], .d c4, .d (.sl (.int .u8)), .d (.int .i64), .d .bool]), .row 86 c1]⟩
def zkv : XS := .or .ret zi5.xe (.one .ret zi6.xe)
theorem zww : zkv.OK := XS.or_ok (za zi5) (XS.one_ok (za zi6))
def zfo (b : T8) (b2 : List T0) (b3 : Int) (b4 : T1) (b5 : Int) (b6 : Bool) (b7 : T2) (b8 : List Int) (b9 : Int) (b10 : Bool) (b11 : List (List Int)) : Option ((Bool × T8 × (List T0) × Int × T1 × Int × Bool × T2 × (List Int) × Int × Bool × (List (List Int))) ⊕ (Bool × T8 × (List T0) × Int × T1 × Int × Bool × T2 × (List Int) × Int × Bool × T2 × (List Int) × Int × Bool × (List (List Int)))) :=
 (show Option (((List (List Int)) × Int × T8 × (List T0) × Int × T1 × Int × Bool × T2 × (List Int) × Int × Bool × (List (List Int))) ⊕ (Int × T8 × (List T0) × Int × T1 × Int × Bool × T2 × (List Int) × Int × Bool × T2 × (List Int) × Int × Bool × (List (List Int)) × (List (List Int)))) from
 bif kB (kA b11) (kA b11) then
 (qM b2 b3 b4 b5 b6 b11).bind fun r =>
 Sum.elim (fun y =>
 bif kB (kA y.2.2.2.2.2.2.2) (kA y.2.2.2.2.2.2.2) then
 some (.inl (y.1, y.2.1, b, y.2.2.1, y.2.2.2.1, y.2.2.2.2.1, y.2.2.2.2.2.1, y.2.2.2.2.2.2.1, b7, b8, b9, b10, y.2.2.2.2.2.2.2))
 else none) (fun y2 =>
 bif kB (kA y2.2.2.2.2.2.2.2.2.2.2.1) (kA y2.2.2.2.2.2.2.2.2.2.2.1) then
 bif kB (kA y2.2.2.2.2.2.2.2.2.2.2.2) (kA y2.2.2.2.2.2.2.2.2.2.2.2) then
 some (.inr (y2.1, b, y2.2.1, y2.2.2.1, y2.2.2.2.1, y2.2.2.2.2.1, y2.2.2.2.2.2.1, b7, b8, b9, b10, y2.2.2.2.2.2.2.1, y2.2.2.2.2.2.2.2.1, y2.2.2.2.2.2.2.2.2.1, y2.2.2.2.2.2.2.2.2.2.1, y2.2.2.2.2.2.2.2.2.2.2.1, y2.2.2.2.2.2.2.2.2.2.2.2))
 else none
 else none) r
 else none).bind fun j =>
 Sum.elim (fun y3 =>
 (z2d y3.2.2.1.1).bind fun r2 =>
 bif neI r2.2.2 0 then
 bif eqI y3.2.1 r2.2.2 then
 zk (kA y3.1) (
 bif kB (kA y3.2.2.2.2.2.2.2.2.2.2.2.2) (kA y3.2.2.2.2.2.2.2.2.2.2.2.2) then
 some (.inl (eqI (kA y3.1 : Nat) 0, (r2.1.1, r2.1.2.1, r2.1.2.2.1, r2.1.2.2.2.1, r2.1.2.2.2.2.1, true), y3.2.2.2.1, y3.2.2.2.2.1, y3.2.2.2.2.2.1, y3.2.2.2.2.2.2.1, y3.2.2.2.2.2.2.2.1, y3.2.2.2.2.2.2.2.2.1, y3.2.2.2.2.2.2.2.2.2.1, y3.2.2.2.2.2.2.2.2.2.2.1, y3.2.2.2.2.2.2.2.2.2.2.2.1, y3.2.2.2.2.2.2.2.2.2.2.2.2))
 else none)
 else
 bif kB (kA y3.2.2.2.2.2.2.2.2.2.2.2.2) (kA y3.2.2.2.2.2.2.2.2.2.2.2.2) then
 some (.inl (false, (r2.1.1, r2.1.2.1, r2.1.2.2.1, r2.1.2.2.2.1, r2.1.2.2.2.2.1, true), y3.2.2.2.1, y3.2.2.2.2.1, y3.2.2.2.2.2.1, y3.2.2.2.2.2.2.1, y3.2.2.2.2.2.2.2.1, y3.2.2.2.2.2.2.2.2.1, y3.2.2.2.2.2.2.2.2.2.1, y3.2.2.2.2.2.2.2.2.2.2.1, y3.2.2.2.2.2.2.2.2.2.2.2.1, y3.2.2.2.2.2.2.2.2.2.2.2.2))
 else none
 else
 bif eqI y3.2.1 0 then
 (za4 y3.1 r2.2.1).bind fun r3 =>
 bif kB (kA y3.2.2.2.2.2.2.2.2.2.2.2.2) (kA y3.2.2.2.2.2.2.2.2.2.2.2.2) then
 some (.inl (r3, r2.1, y3.2.2.2.1, y3.2.2.2.2.1, y3.2.2.2.2.2.1, y3.2.2.2.2.2.2.1, y3.2.2.2.2.2.2.2.1, y3.2.2.2.2.2.2.2.2.1, y3.2.2.2.2.2.2.2.2.2.1, y3.2.2.2.2.2.2.2.2.2.2.1, y3.2.2.2.2.2.2.2.2.2.2.2.1, y3.2.2.2.2.2.2.2.2.2.2.2.2))
 else none
 else
 bif kB (kA y3.2.2.2.2.2.2.2.2.2.2.2.2) (kA y3.2.2.2.2.2.2.2.2.2.2.2.2) then
 some (.inl (false, r2.1, y3.2.2.2.1, y3.2.2.2.2.1, y3.2.2.2.2.2.1, y3.2.2.2.2.2.2.1, y3.2.2.2.2.2.2.2.1, y3.2.2.2.2.2.2.2.2.1, y3.2.2.2.2.2.2.2.2.2.1, y3.2.2.2.2.2.2.2.2.2.2.1, y3.2.2.2.2.2.2.2.2.2.2.2.1, y3.2.2.2.2.2.2.2.2.2.2.2.2))
 else none) (fun y4 =>
 (z2d y4.2.1.1).bind fun r4 =>
 bif neI r4.2.2 0 then
 bif eqI y4.1 r4.2.2 then
 bif kB (kA y4.2.2.2.2.2.2.2.2.2.2.2.2.2.2.2.2) (kA y4.2.2.2.2.2.2.2.2.2.2.2.2.2.2.2.2) then
 some (.inr (false, (r4.1.1, r4.1.2.1, r4.1.2.2.1, r4.1.2.2.2.1, r4.1.2.2.2.2.1, true), y4.2.2.1, y4.2.2.2.1, y4.2.2.2.2.1, y4.2.2.2.2.2.1, y4.2.2.2.2.2.2.1, y4.2.2.2.2.2.2.2.1, y4.2.2.2.2.2.2.2.2.1, y4.2.2.2.2.2.2.2.2.2.1, y4.2.2.2.2.2.2.2.2.2.2.1, y4.2.2.2.2.2.2.2.2.2.2.2.1, y4.2.2.2.2.2.2.2.2.2.2.2.2.1, y4.2.2.2.2.2.2.2.2.2.2.2.2.2.1, y4.2.2.2.2.2.2.2.2.2.2.2.2.2.2.1, y4.2.2.2.2.2.2.2.2.2.2.2.2.2.2.2.2))
 else none
 else
 bif kB (kA y4.2.2.2.2.2.2.2.2.2.2.2.2.2.2.2.2) (kA y4.2.2.2.2.2.2.2.2.2.2.2.2.2.2.2.2) then
 some (.inr (false, (r4.1.1, r4.1.2.1, r4.1.2.2.1, r4.1.2.2.2.1, r4.1.2.2.2.2.1, true), y4.2.2.1, y4.2.2.2.1, y4.2.2.2.2.1, y4.2.2.2.2.2.1, y4.2.2.2.2.2.2.1, y4.2.2.2.2.2.2.2.1, y4.2.2.2.2.2.2.2.2.1, y4.2.2.2.2.2.2.2.2.2.1, y4.2.2.2.2.2.2.2.2.2.2.1, y4.2.2.2.2.2.2.2.2.2.2.2.1, y4.2.2.2.2.2.2.2.2.2.2.2.2.1, y4.2.2.2.2.2.2.2.2.2.2.2.2.2.1, y4.2.2.2.2.2.2.2.2.2.2.2.2.2.2.1, y4.2.2.2.2.2.2.2.2.2.2.2.2.2.2.2.2))
 else none
 else
 bif eqI y4.1 0 then
 yf y4.2.2.2.2.2.2.2.2.2.2.2.2.2.2.2.1 0 (kA y4.2.2.2.2.2.2.2.2.2.2.2.2.2.2.2.1) fun w =>
 (za4 w r4.2.1).bind fun r5 =>
 bif kB (kA y4.2.2.2.2.2.2.2.2.2.2.2.2.2.2.2.2) (kA y4.2.2.2.2.2.2.2.2.2.2.2.2.2.2.2.2) then
 some (.inr (r5, r4.1, y4.2.2.1, y4.2.2.2.1, y4.2.2.2.2.1, y4.2.2.2.2.2.1, y4.2.2.2.2.2.2.1, y4.2.2.2.2.2.2.2.1, y4.2.2.2.2.2.2.2.2.1, y4.2.2.2.2.2.2.2.2.2.1, y4.2.2.2.2.2.2.2.2.2.2.1, y4.2.2.2.2.2.2.2.2.2.2.2.1, y4.2.2.2.2.2.2.2.2.2.2.2.2.1, y4.2.2.2.2.2.2.2.2.2.2.2.2.2.1, y4.2.2.2.2.2.2.2.2.2.2.2.2.2.2.1, y4.2.2.2.2.2.2.2.2.2.2.2.2.2.2.2.2))
 else none
 else
 bif kB (kA y4.2.2.2.2.2.2.2.2.2.2.2.2.2.2.2.2) (kA y4.2.2.2.2.2.2.2.2.2.2.2.2.2.2.2.2) then
 some (.inr (false, r4.1, y4.2.2.1, y4.2.2.2.1, y4.2.2.2.2.1, y4.2.2.2.2.2.1, y4.2.2.2.2.2.2.1, y4.2.2.2.2.2.2.2.1, y4.2.2.2.2.2.2.2.2.1, y4.2.2.2.2.2.2.2.2.2.1, y4.2.2.2.2.2.2.2.2.2.2.1, y4.2.2.2.2.2.2.2.2.2.2.2.1, y4.2.2.2.2.2.2.2.2.2.2.2.2.1, y4.2.2.2.2.2.2.2.2.2.2.2.2.2.1, y4.2.2.2.2.2.2.2.2.2.2.2.2.2.2.1, y4.2.2.2.2.2.2.2.2.2.2.2.2.2.2.2.2))
 else none) j
def zku : Sig := ⟨26, [.pt 0 r20 []], [.var 63 (.ag [.pt 1 r0 [], .pt 2 r6 [], .d c18]), .var 71 (.ag [.wn 3 c1, .d c2, .d (.int .i64), .d c3, .d (.int .i64), .d .bool]), .var 75 (.ag [.pt 1 r0 [], .d c4, .d (.sl (.int .u8)), .d (.int .i64), .d .bool]), .row 86 c1], 3, zkv⟩
def zjf (x : T8 × (List T0) × Int × T1 × Int × Bool × T2 × (List Int) × Int × Bool × (List (List Int))) : Option ((Bool × T8 × (List T0) × Int × T1 × Int × Bool × T2 × (List Int) × Int × Bool × (List (List Int))) ⊕ (Bool × T8 × (List T0) × Int × T1 × Int × Bool × T2 × (List Int) × Int × Bool × T2 × (List Int) × Int × Bool × (List (List Int)))) := zfo x.1 x.2.1 x.2.2.1 x.2.2.2.1 x.2.2.2.2.1 x.2.2.2.2.2.1 x.2.2.2.2.2.2.1 x.2.2.2.2.2.2.2.1 x.2.2.2.2.2.2.2.2.1 x.2.2.2.2.2.2.2.2.2.1 x.2.2.2.2.2.2.2.2.2.2
theorem y09 : FnOK Try.prog zku zjf :=
 zx zy7 (h := (.two .no (.join (fun _ => za3) .no .no))) Try.func26 (ze [.xs (fun _ => za3)] (by kernel_rfl) ⟨(qB zuk), trivial⟩) (by kernel_rfl) zww (fun x => by kernel_rfl)
def y7a : Env := ⟨[], [(xz z4z z46), (xz zku zjf)], []⟩
theorem y3f : EnvsOK Try.prog y7a := ⟨zj _, zy (zR z8n) (zy (zR y09) (zg _)), zf _⟩
def zkr : Shp := ⟨1, 3, [(0, .d .bool)], [.var 63 (.ag [.pt 1 r0 [], .c .nilp, .d c18]), .var 71 (.ag [.wn 3 c1, .d c2, .d (.int .i64), .d c3, .d (.int .i64), .d .bool]), .var 75 (.ag [.pt 1 r0 [], .d c4, .d (.sl (.int .u8)), .d (.int .i64), .d .bool]), .row 86 c1]⟩
def zks : Shp := ⟨1, 3, [(0, .d .bool)], [.var 63 (.ag [.pt 1 r0 [], .pt 3 r6 [], .d c18]), .var 71 (.ag [.wn 4 c1, .d c2, .d (.int .i64), .d c3, .d (.int .i64), .d .bool]), .var 75 (.ag [.pt 1 r0 [], .d c4, .d (.sl (.int .u8)), .d (.int .i64), .d .bool]), .var 75 (.ag [.pt 1 r0 [], .d c4, .d (.sl (.int .u8)), .d (.int .i64), .d .bool]), .row 86 c1]⟩
def zpu : XS := .or .ret zkr.xe (.one .ret zks.xe)
theorem y08 : zpu.OK := XS.or_ok (za zkr) (XS.one_ok (za zks))
def z74 (b : T8) (b2 : List T0) (b3 : Int) (b4 : T1) (b5 : Int) (b6 : Bool) (b7 : T2) (b8 : List Int) (b9 : Int) (b10 : Bool) (b11 : List (List Int)) : Option ((Bool × T8 × (List T0) × Int × T1 × Int × Bool × T2 × (List Int) × Int × Bool × (List (List Int))) ⊕ (Bool × T8 × (List T0) × Int × T1 × Int × Bool × T2 × (List Int) × Int × Bool × T2 × (List Int) × Int × Bool × (List (List Int)))) :=
 bif kB (kA b11) (kA b11) then
 (qj b2 b3 b4 b5 b6 b11).bind fun r =>
 bif kB (kA r.2.2.2.2.2.2) (kA r.2.2.2.2.2.2) then
 (zfo ((b.1.1, b.1.2.1, b.1.2.2.1, b.1.2.2.2.1, b.1.2.2.2.2.1, false), b.2) r.2.1 r.2.2.1 r.2.2.2.1 r.2.2.2.2.1 r.2.2.2.2.2.1 b7 b8 b9 b10 r.2.2.2.2.2.2).bind fun r2 =>
 Sum.elim (fun y =>
 bif kB (kA y.2.2.2.2.2.2.2.2.2.2.2) (kA y.2.2.2.2.2.2.2.2.2.2.2) then
 some (.inl (y.1, y.2.1, y.2.2.1, y.2.2.2.1, y.2.2.2.2.1, y.2.2.2.2.2.1, y.2.2.2.2.2.2.1, y.2.2.2.2.2.2.2.1, y.2.2.2.2.2.2.2.2.1, y.2.2.2.2.2.2.2.2.2.1, y.2.2.2.2.2.2.2.2.2.2.1, y.2.2.2.2.2.2.2.2.2.2.2))
 else none) (fun y2 =>
 bif kB (kA y2.2.2.2.2.2.2.2.2.2.2.2.2.2.2.2) (kA y2.2.2.2.2.2.2.2.2.2.2.2.2.2.2.2) then
 some (.inr (y2.1, y2.2.1, y2.2.2.1, y2.2.2.2.1, y2.2.2.2.2.1, y2.2.2.2.2.2.1, y2.2.2.2.2.2.2.1, y2.2.2.2.2.2.2.2.1, y2.2.2.2.2.2.2.2.2.1, y2.2.2.2.2.2.2.2.2.2.1, y2.2.2.2.2.2.2.2.2.2.2.1, y2.2.2.2.2.2.2.2.2.2.2.2.1, y2.2.2.2.2.2.2.2.2.2.2.2.2.1, y2.2.2.2.2.2.2.2.2.2.2.2.2.2.1, y2.2.2.2.2.2.2.2.2.2.2.2.2.2.2.1, y2.2.2.2.2.2.2.2.2.2.2.2.2.2.2.2))
 else none) r2
 else none
 else none
def zpt : Sig := ⟨48, [.pt 0 r20 []], [.var 63 (.ag [.pt 1 r0 [], .pt 2 r6 [], .d c18]), .var 71 (.ag [.wn 3 c1, .d c2, .d (.int .i64), .d c3, .d (.int .i64), .d .bool]), .var 75 (.ag [.pt 1 r0 [], .d c4, .d (.sl (.int .u8)), .d (.int .i64), .d .bool]), .row 86 c1], 3, zpu⟩
def zns (x : T8 × (List T0) × Int × T1 × Int × Bool × T2 × (List Int) × Int × Bool × (List (List Int))) : Option ((Bool × T8 × (List T0) × Int × T1 × Int × Bool × T2 × (List Int) × Int × Bool × (List (List Int))) ⊕ (Bool × T8 × (List T0) × Int × T1 × Int × Bool × T2 × (List Int) × Int × Bool × T2 × (List Int) × Int × Bool × (List (List Int)))) := z74 x.1 x.2.1 x.2.2.1 x.2.2.2.1 x.2.2.2.2.1 x.2.2.2.2.2.1 x.2.2.2.2.2.2.1 x.2.2.2.2.2.2.2.1 x.2.2.2.2.2.2.2.2.1 x.2.2.2.2.2.2.2.2.2.1 x.2.2.2.2.2.2.2.2.2.2
theorem y4l : FnOK Try.prog zpt zns :=
 zx y3f (h := .no) Try.func48 (ze [] (by kernel_rfl) trivial) (by kernel_rfl) y08 (fun x => by kernel_rfl)
def y3c : Env := ⟨[(zD z5r z51), (zD zel zbu), (zD z6i z5q), (zD z0r z01), (zD zb8 zag)], [], []⟩
theorem zy5 : EnvsOK Try.prog y3c := ⟨zd (zh zbj) (zd (zh zk1) (zd (zh zct) (zd (zh z3m) (zd (zh zon) (zj _))))), zg _, zf _⟩
def zi2 : Shp := ⟨1, 0, [(0, .d .bool)], []⟩
def zkn : XS := .one .ret zi2.xe
theorem zwu : zkn.OK := XS.one_ok (za zi2)
def z4v (b : T3) (b2 : T3) (b3 : T2) (b4 : List Int) (b5 : Int) (b6 : Bool) (b7 : T8) : Option ((Bool)) :=
 (z0a b2 b3 b4 b5 b6).bind fun r =>
 (z3y b7.1).bind fun r2 =>
 zk (kA b7.2.2.2.1) (
 bif eqI r (W64 (r2 - (kA b7.2.2.2.1 : Nat))) then
 (z10 b2 b3 b4 b5 b6).bind fun r3 =>
 bif eqI r3 b7.2.2.2.2.1 then
 (xK b2 b3 b4 b5 b6).bind fun r4 =>
 bif r4 == b7.2.2.2.2.2 then
 (z6b b).bind fun r5 =>
 some (eqI r5 b7.1.2.2.2.2.1)
 else
 some false
 else
 some false
 else
 some false)
def zkm : Sig := ⟨50, [.rf (.ag [.rf (.d c8), .rf (.ag [.rf (.d c8), .d c4, .d (.sl (.int .u8)), .d (.int .i64), .d .bool]), .d c18])], [], 0, zkn⟩
def zjc (x : T3 × T3 × T2 × (List Int) × Int × Bool × T8) : Option ((Bool)) := z4v x.1 x.2.1 x.2.2.1 x.2.2.2.1 x.2.2.2.2.1 x.2.2.2.2.2.1 x.2.2.2.2.2.2
theorem y05 : FnOK Try.prog zkm zjc :=
 zx zy5 (h := .no) Try.func50 (ze [] (by kernel_rfl) trivial) (by kernel_rfl) zwu (fun x => by kernel_rfl)
def y3j : Env := ⟨[(zD zp9 zm0), (zD zx6 ztd), (zD zk0 zhl), (zD zgv zek), (zD zt9 zpf), (zD zkm zjc)], [(xz z6h z5o), (xz z9i z8u), (xz z44 z39), (xz zpt zns), (xz z7p z6c)], []⟩
theorem zy9 : EnvsOK Try.prog y3j := ⟨zd (zh zye) (zd (zh y5g) (zd (zh zth) (zd (zh zmb) (zd (zh y2m) (zd (zh y05) (zj _)))))), zy (zR zcr) (zy (zR zlt) (zy (zR z7n) (zy (zR y4l) (zy (zR zev) (zg _))))), zf _⟩
def zdd : Shp := ⟨118, 1, [(0, .pt 0 r20 []), (5, .d (.int .i64)), (6, .d (.int .i64))], [.var 63 (.ag [.pt 1 r0 [], .pt 2 r6 [], .d c18]), .var 71 (.ag [.wn 3 c1, .d c2, .d (.int .i64), .d c3, .d (.int .i64), .d .bool]), .var 75 (.ag [.pt 1 r0 [], .d c4, .d (.sl (.int .u8)), .d (.int .i64), .d .bool]), .row 86 c1]⟩
def zde : Shp := ⟨118, 1, [(4, .d .bool)], [.var 63 (.ag [.pt 1 r0 [], .c .nilp, .d c18]), .var 71 (.ag [.wn 2 c1, .d c2, .d (.int .i64), .d c3, .d (.int .i64), .d .bool]), .row 86 c1]⟩
def zdf : Shp := ⟨118, 1, [(4, .d .bool)], [.var 63 (.ag [.pt 1 r0 [], .pt 2 r6 [], .d c18]), .var 71 (.ag [.wn 3 c1, .d c2, .d (.int .i64), .d c3, .d (.int .i64), .d .bool]), .var 75 (.ag [.pt 1 r0 [], .d c4, .d (.sl (.int .u8)), .d (.int .i64), .d .bool]), .row 86 c1]⟩
def z7x : XS := .or .normal zdd.xe (.or .ret zde.xe (.one .ret zdf.xe))
theorem zr0 : z7x.OK := XS.or_ok (za zdd) (XS.or_ok (za zde) (XS.one_ok (za zdf)))
def zi9 : Shp := ⟨1, 1, [(0, .d .bool)], [.var 63 (.ag [.pt 1 r0 [], .c .nilp, .d c18]), .var 71 (.ag [.wn 2 c1, .d c2, .d (.int .i64), .d c3, .d (.int .i64), .d .bool]), .row 86 c1]⟩
def zia : Shp := ⟨1, 1, [(0, .d .bool)], [.var 63 (.ag [.pt 1 r0 [], .pt 2 r6 [], .d c18]), .var 71 (.ag [.wn 3 c1, .d c2, .d (.int .i64), .d c3, .d (.int .i64), .d .bool]), .var 75 (.ag [.pt 1 r0 [], .d c4, .d (.sl (.int .u8)), .d (.int .i64), .d .bool]), .row 86 c1]⟩
def zkz : XS := .or .ret zi9.xe (.one .ret zia.xe)
theorem zwy : zkz.OK := XS.or_ok (za zi9) (XS.one_ok (za zia))
def z8l (o : T4) (b : T8) (b2 : List T0) (b3 : Int) (b4 : T1) (b5 : Int) (b6 : Bool) (b7 : T2) (b8 : List Int) (b9 : Int) (b10 : Bool) (b11 : List (List Int)) : Option ((Bool × T8 × (List T0) × Int × T1 × Int × Bool × (List (List Int))) ⊕ (Bool × T8 × (List T0) × Int × T1 × Int × Bool × T2 × (List Int) × Int × Bool × (List (List Int)))) :=
 (show Option ((Int × Int × T8 × (List T0) × Int × T1 × Int × Bool × T2 × (List Int) × Int × Bool × (List (List Int))) ⊕ (Bool × T8 × (List T0) × Int × T1 × Int × Bool × (List (List Int))) ⊕ (Bool × T8 × (List T0) × Int × T1 × Int × Bool × T2 × (List Int) × Int × Bool × (List (List Int)))) from
 bif eqI (kD (xJ (o.1)) 5) 0 then
 bif kB (kA b11) (kA b11) then
 (xN o.2.1 b7 b8 b9 b10 b2 b3 b4 b5 b6 b11).bind fun r =>
 (z81 o.2.1).bind fun r2 =>
 (zii b r2).bind fun r3 =>
 bif kB (kA r.2.2.2.2.2.2.2.2.2.2) (kA r.2.2.2.2.2.2.2.2.2.2) then
 some (.inl (r.1, r3.2, r3.1, r.2.2.2.2.2.1, r.2.2.2.2.2.2.1, r.2.2.2.2.2.2.2.1, r.2.2.2.2.2.2.2.2.1, r.2.2.2.2.2.2.2.2.2.1, r.2.1, r.2.2.1, r.2.2.2.1, r.2.2.2.2.1, r.2.2.2.2.2.2.2.2.2.2))
 else none
 else none
 else
 bif eqI (kD (xJ (o.1)) 5) 1 then
 bif kB (kA b11) (kA b11) then
 (qA o.2.1 b7 b8 b9 b10 b2 b3 b4 b5 b6 b11).bind fun r4 =>
 (z81 o.2.1).bind fun r5 =>
 (z6t b r5).bind fun r6 =>
 bif kB (kA r4.2.2.2.2.2.2.2.2.2.2) (kA r4.2.2.2.2.2.2.2.2.2.2) then
 some (.inl (r4.1, r6.2, r6.1, r4.2.2.2.2.2.1, r4.2.2.2.2.2.2.1, r4.2.2.2.2.2.2.2.1, r4.2.2.2.2.2.2.2.2.1, r4.2.2.2.2.2.2.2.2.2.1, r4.2.1, r4.2.2.1, r4.2.2.2.1, r4.2.2.2.2.1, r4.2.2.2.2.2.2.2.2.2.2))
 else none
 else none
 else
 bif eqI (kD (xJ (o.1)) 5) 2 then
 bif kB (kA b11) (kA b11) then
 (qH o.2.2.2 b2 b3 b4 b5 b6 b11).bind fun r7 =>
 (z87 b.1 o.2.2.2).bind fun r8 =>
 bif kB (kA r7.2.2.2.2.2) (kA r7.2.2.2.2.2) then
 (z74 (r8, b.2) r7.1 r7.2.1 r7.2.2.1 r7.2.2.2.1 r7.2.2.2.2.1 b7 b8 b9 b10 r7.2.2.2.2.2).bind fun r9 =>
 Sum.elim (fun y =>
 bif kB (kA y.2.2.2.2.2.2.2.2.2.2.2) (kA y.2.2.2.2.2.2.2.2.2.2.2) then
 some (.inr (.inl (y.1, y.2.1, y.2.2.1, y.2.2.2.1, y.2.2.2.2.1, y.2.2.2.2.2.1, y.2.2.2.2.2.2.1, y.2.2.2.2.2.2.2.2.2.2.2)))
 else none) (fun y2 =>
 bif kB (kA y2.2.2.2.2.2.2.2.2.2.2.2.2.2.2.2) (kA y2.2.2.2.2.2.2.2.2.2.2.2.2.2.2.2) then
 some (.inr (.inr (y2.1, y2.2.1, y2.2.2.1, y2.2.2.2.1, y2.2.2.2.2.1, y2.2.2.2.2.2.1, y2.2.2.2.2.2.2.1, y2.2.2.2.2.2.2.2.2.2.2.2.1, y2.2.2.2.2.2.2.2.2.2.2.2.2.1, y2.2.2.2.2.2.2.2.2.2.2.2.2.2.1, y2.2.2.2.2.2.2.2.2.2.2.2.2.2.2.1, y2.2.2.2.2.2.2.2.2.2.2.2.2.2.2.2)))
 else none) r9
 else none
 else none
 else
 bif eqI (kD (xJ (o.1)) 5) 3 then
 bif kB (kA b11) (kA b11) then
 (z1z (W64 (kD (xJ (o.2.2.1)) 9)) o.2.2.2 b2 b3 b4 b5 b6 b11).bind fun r10 =>
 (zr9 b.1 (W64 (kD (xJ (o.2.2.1)) 9)) o.2.2.2).bind fun r11 =>
 bif kB (kA r10.2.2.2.2.2) (kA r10.2.2.2.2.2) then
 some (.inl (0, 0, (r11, b.2), r10.1, r10.2.1, r10.2.2.1, r10.2.2.2.1, r10.2.2.2.2.1, b7, b8, b9, b10, r10.2.2.2.2.2))
 else none
 else none
 else
 bif kB (kA b11) (kA b11) then
 (z74 b b2 b3 b4 b5 b6 b7 b8 b9 b10 b11).bind fun r12 =>
 Sum.elim (fun y3 =>
 bif kB (kA y3.2.2.2.2.2.2.2.2.2.2.2) (kA y3.2.2.2.2.2.2.2.2.2.2.2) then
 some (.inr (.inl (y3.1, y3.2.1, y3.2.2.1, y3.2.2.2.1, y3.2.2.2.2.1, y3.2.2.2.2.2.1, y3.2.2.2.2.2.2.1, y3.2.2.2.2.2.2.2.2.2.2.2)))
 else none) (fun y4 =>
 bif kB (kA y4.2.2.2.2.2.2.2.2.2.2.2.2.2.2.2) (kA y4.2.2.2.2.2.2.2.2.2.2.2.2.2.2.2) then
 some (.inr (.inr (y4.1, y4.2.1, y4.2.2.1, y4.2.2.2.1, y4.2.2.2.2.1, y4.2.2.2.2.2.1, y4.2.2.2.2.2.2.1, y4.2.2.2.2.2.2.2.2.2.2.2.1, y4.2.2.2.2.2.2.2.2.2.2.2.2.1, y4.2.2.2.2.2.2.2.2.2.2.2.2.2.1, y4.2.2.2.2.2.2.2.2.2.2.2.2.2.2.1, y4.2.2.2.2.2.2.2.2.2.2.2.2.2.2.2)))
 else none) r12
 else none).bind fun j =>
 Sum.elim (fun y5 =>
 bif eqI y5.1 y5.2.1 then
 yf y5.2.2.2.2.2.2.2.2.2.2.2.2 0 (kA y5.2.2.2.2.2.2.2.2.2.2.2.2) fun w =>
 yf y5.2.2.2.2.2.2.2.2.2.2.2.2 0 (kA y5.2.2.2.2.2.2.2.2.2.2.2.2) fun w2 =>
 (z4v (w, y5.2.2.2.1, y5.2.2.2.2.1, y5.2.2.2.2.2.1, y5.2.2.2.2.2.2.1, y5.2.2.2.2.2.2.2.1) (w2, y5.2.2.2.1, y5.2.2.2.2.1, y5.2.2.2.2.2.1, y5.2.2.2.2.2.2.1, y5.2.2.2.2.2.2.2.1) y5.2.2.2.2.2.2.2.2.1 y5.2.2.2.2.2.2.2.2.2.1 y5.2.2.2.2.2.2.2.2.2.2.1 y5.2.2.2.2.2.2.2.2.2.2.2.1 y5.2.2.1).bind fun r13 =>
 bif kB (kA y5.2.2.2.2.2.2.2.2.2.2.2.2) (kA y5.2.2.2.2.2.2.2.2.2.2.2.2) then
 some (.inr (r13, y5.2.2.1, y5.2.2.2.1, y5.2.2.2.2.1, y5.2.2.2.2.2.1, y5.2.2.2.2.2.2.1, y5.2.2.2.2.2.2.2.1, y5.2.2.2.2.2.2.2.2.1, y5.2.2.2.2.2.2.2.2.2.1, y5.2.2.2.2.2.2.2.2.2.2.1, y5.2.2.2.2.2.2.2.2.2.2.2.1, y5.2.2.2.2.2.2.2.2.2.2.2.2))
 else none
 else
 bif kB (kA y5.2.2.2.2.2.2.2.2.2.2.2.2) (kA y5.2.2.2.2.2.2.2.2.2.2.2.2) then
 some (.inr (false, y5.2.2.1, y5.2.2.2.1, y5.2.2.2.2.1, y5.2.2.2.2.2.1, y5.2.2.2.2.2.2.1, y5.2.2.2.2.2.2.2.1, y5.2.2.2.2.2.2.2.2.1, y5.2.2.2.2.2.2.2.2.2.1, y5.2.2.2.2.2.2.2.2.2.2.1, y5.2.2.2.2.2.2.2.2.2.2.2.1, y5.2.2.2.2.2.2.2.2.2.2.2.2))
 else none) (fun y6 =>
 Sum.elim (fun y7 =>
 bif kB (kA y7.2.2.2.2.2.2.2) (kA y7.2.2.2.2.2.2.2) then
 some (.inl (y7.1, y7.2.1, y7.2.2.1, y7.2.2.2.1, y7.2.2.2.2.1, y7.2.2.2.2.2.1, y7.2.2.2.2.2.2.1, y7.2.2.2.2.2.2.2))
 else none) (fun y8 =>
 bif kB (kA y8.2.2.2.2.2.2.2.2.2.2.2) (kA y8.2.2.2.2.2.2.2.2.2.2.2) then
 some (.inr (y8.1, y8.2.1, y8.2.2.1, y8.2.2.2.1, y8.2.2.2.2.1, y8.2.2.2.2.2.1, y8.2.2.2.2.2.2.1, y8.2.2.2.2.2.2.2.1, y8.2.2.2.2.2.2.2.2.1, y8.2.2.2.2.2.2.2.2.2.1, y8.2.2.2.2.2.2.2.2.2.2.1, y8.2.2.2.2.2.2.2.2.2.2.2))
 else none) y6) j
def zky : Sig := ⟨27, [.pt 0 r20 [], .d c13], [.var 63 (.ag [.pt 1 r0 [], .pt 2 r6 [], .d c18]), .var 71 (.ag [.wn 3 c1, .d c2, .d (.int .i64), .d c3, .d (.int .i64), .d .bool]), .var 75 (.ag [.pt 1 r0 [], .d c4, .d (.sl (.int .u8)), .d (.int .i64), .d .bool]), .row 86 c1], 1, zkz⟩
def zjh (x : T4 × T8 × (List T0) × Int × T1 × Int × Bool × T2 × (List Int) × Int × Bool × (List (List Int))) : Option ((Bool × T8 × (List T0) × Int × T1 × Int × Bool × (List (List Int))) ⊕ (Bool × T8 × (List T0) × Int × T1 × Int × Bool × T2 × (List Int) × Int × Bool × (List (List Int)))) := z8l x.1 x.2.1 x.2.2.1 x.2.2.2.1 x.2.2.2.2.1 x.2.2.2.2.2.1 x.2.2.2.2.2.2.1 x.2.2.2.2.2.2.2.1 x.2.2.2.2.2.2.2.2.1 x.2.2.2.2.2.2.2.2.2.1 x.2.2.2.2.2.2.2.2.2.2.1 x.2.2.2.2.2.2.2.2.2.2.2
theorem y0b : FnOK Try.prog zky zjh :=
 zx zy9 (h := (.two .no (.two .no (.join (fun _ => z7x) (.two .no (.two .no (.two (.two (.reg [] [6, 0, 1]) .no) (.two .no (.two (.two (.reg [] [6, 0, 1]) .no) (.two .no (.two (.two (.reg [] [6, 0]) .no) (.two .no (.two (.two .no (.two (.reg [] [7, 0]) .no)) .no))))))))) .no)))) Try.func27 (ze [.xs (fun _ => z7x)] (by kernel_rfl) ⟨(qB zr0), trivial⟩) (by kernel_rfl) zwy (fun x => by kernel_rfl)
def y04 : Env := ⟨[(zD zvd zsv), (zD y4m y1w), (zD y87 y59), (zD zn0 zju)], [(xz zll ziz), (xz zb1 za1), (xz zkw zjg), (xz zky zjh), (xz z4z z46), (xz z7q z6d)], []⟩
theorem z3f : EnvsOK Try.prog y04 := ⟨zd (zh y9j) (zd (zh ygf) (zd (zh yjl) (zd (zh zt8) (zj _)))), zy (zR zv0) (zy (zR zje) (zy (zR y0a) (zy (zR y0b) (zy (zR z8n) (zy (zR zew) (zg _)))))), zf _⟩
def z8e : Shp := ⟨85, 0, [(0, .d (.int .i64)), (1, .d c11), (7, .pt 0 r20 [])], [.var 63 (.ag [.pt 1 r0 [], .c .nilp, .d c18]), .var 71 (.ag [.wn 2 c1, .d c2, .d (.int .i64), .d c3, .d (.int .i64), .d .bool]), .row 86 c1]⟩
def z8f : Shp := ⟨85, 0, [(0, .d (.int .i64)), (1, .d c11), (7, .pt 0 r20 [])], [.var 63 (.ag [.pt 1 r0 [], .pt 2 r6 [], .d c18]), .var 71 (.ag [.wn 3 c1, .d c2, .d (.int .i64), .d c3, .d (.int .i64), .d .bool]), .var 75 (.ag [.pt 1 r0 [], .d c4, .d (.sl (.int .u8)), .d (.int .i64), .d .bool]), .row 86 c1]⟩
def z8g : Shp := ⟨85, 0, [(4, .d .bool)], []⟩
def z3s : XS := .or .normal z8e.xe (.or .normal z8f.xe (.one .ret z8g.xe))
theorem zjb : z3s.OK := XS.or_ok (za z8e) (XS.or_ok (za z8f) (XS.one_ok (za z8g)))
def z63 : Shp := ⟨85, 0, [(0, .d (.int .i64)), (7, .pt 0 r20 [])], [.var 63 (.ag [.pt 1 r0 [], .c .nilp, .d c18]), .var 71 (.ag [.wn 2 c1, .d c2, .d (.int .i64), .d c3, .d (.int .i64), .d .bool]), .row 86 c1]⟩
def z64 : Shp := ⟨85, 0, [(0, .d (.int .i64)), (7, .pt 0 r20 [])], [.var 63 (.ag [.pt 1 r0 [], .pt 2 r6 [], .d c18]), .var 71 (.ag [.wn 3 c1, .d c2, .d (.int .i64), .d c3, .d (.int .i64), .d .bool]), .var 75 (.ag [.pt 1 r0 [], .d c4, .d (.sl (.int .u8)), .d (.int .i64), .d .bool]), .row 86 c1]⟩
def z65 : Shp := ⟨85, 0, [(4, .d .bool)], []⟩
def z2k : XS := .or .normal z63.xe (.or .normal z64.xe (.one .ret z65.xe))
theorem zh9 : z2k.OK := XS.or_ok (za z63) (XS.or_ok (za z64) (XS.one_ok (za z65)))
def z72 : Shp := ⟨85, 0, [(0, .d (.int .i64)), (1, .d c11), (7, .pt 0 r20 [])], [.var 63 (.ag [.pt 1 r0 [], .c .nilp, .d c18]), .var 71 (.ag [.wn 2 c1, .d c2, .d (.int .i64), .d c3, .d (.int .i64), .d .bool]), .row 86 c1]⟩
def z2p : Shp := ⟨85, 0, [(0, .d (.int .i64)), (7, .pt 0 r20 [])], [.var 63 (.ag [.pt 1 r0 [], .c .nilp, .d c18]), .var 71 (.ag [.wn 2 c1, .d c2, .d (.int .i64), .d c3, .d (.int .i64), .d .bool]), .row 86 c1]⟩
def z2q : Shp := ⟨85, 0, [(0, .d (.int .i64)), (7, .pt 0 r20 [])], [.var 63 (.ag [.pt 1 r0 [], .pt 2 r6 [], .d c18]), .var 71 (.ag [.wn 3 c1, .d c2, .d (.int .i64), .d c3, .d (.int .i64), .d .bool]), .var 75 (.ag [.pt 1 r0 [], .d c4, .d (.sl (.int .u8)), .d (.int .i64), .d .bool]), .row 86 c1]⟩
def z2r : Shp := ⟨85, 0, [(4, .d .bool)], []⟩
def yU : XS := .or (.exit 0) z2p.xe (.or (.exit 0) z2q.xe (.one .ret z2r.xe))
theorem zas : yU.OK := XS.or_ok (za z2p) (XS.or_ok (za z2q) (XS.one_ok (za z2r)))
def z37 : Shp := ⟨85, 0, [(0, .d (.int .i64)), (7, .pt 0 r20 []), (36, .d c11), (37, .d (.int .i64)), (38, .d (.int .i64))], [.var 63 (.ag [.pt 1 r0 [], .c .nilp, .d c18]), .var 71 (.ag [.wn 2 c1, .d c2, .d (.int .i64), .d c3, .d (.int .i64), .d .bool]), .row 86 c1]⟩
def z38 : Shp := ⟨85, 0, [(0, .d (.int .i64)), (7, .pt 0 r20 []), (36, .d c11), (37, .d (.int .i64)), (38, .d (.int .i64))], [.var 63 (.ag [.pt 1 r0 [], .pt 2 r6 [], .d c18]), .var 71 (.ag [.wn 3 c1, .d c2, .d (.int .i64), .d c3, .d (.int .i64), .d .bool]), .var 75 (.ag [.pt 1 r0 [], .d c4, .d (.sl (.int .u8)), .d (.int .i64), .d .bool]), .row 86 c1]⟩
def qp : XE := XE.alt z37.xe z38.xe
abbrev qq := (Int × (List T4) × Int × Int × T8 × (List T0) × Int × T1 × Int × Bool × (List (List Int))) ⊕ (Int × (List T4) × Int × Int × T8 × (List T0) × Int × T1 × Int × Bool × T2 × (List Int) × Int × Bool × (List (List Int)))
abbrev vj := (Int × T8 × (List T0) × Int × T1 × Int × Bool × (List (List Int))) ⊕ (Int × T8 × (List T0) × Int × T1 × Int × Bool × T2 × (List Int) × Int × Bool × (List (List Int))) ⊕ (Bool)
def zc3 (sectors : Int) (t36 : List T4) (t37 : Int) (t38 : Int) (b : T8) (b2 : List T0) (b3 : Int) (b4 : T1) (b5 : Int) (b6 : Bool) (b7 : List (List Int)) : Option (qq ⊕ vj) :=
 bif ltI t38 t37 then
 (yn t36 t38).bind fun x =>
 bif kB (kA b7) (kA b7) then
 (zpv x b b2 b3 b4 b5 b6 b7).bind fun r =>
 Sum.elim (fun y =>
 bif !y.1 then
 some (.inr (.inr (.inr false)))
 else
 bif kB (kA y.2.2.2.2.2.2.2) (kA y.2.2.2.2.2.2.2) then
 some (.inl (.inl (sectors, t36, t37, W64 (t38 + 1), y.2.1, y.2.2.1, y.2.2.2.1, y.2.2.2.2.1, y.2.2.2.2.2.1, y.2.2.2.2.2.2.1, y.2.2.2.2.2.2.2)))
 else none) (fun y2 =>
 bif !y2.1 then
 some (.inr (.inr (.inr false)))
 else
 bif kB (kA y2.2.2.2.2.2.2.2.2.2.2.2) (kA y2.2.2.2.2.2.2.2.2.2.2.2) then
 some (.inl (.inr (sectors, t36, t37, W64 (t38 + 1), y2.2.1, y2.2.2.1, y2.2.2.2.1, y2.2.2.2.2.1, y2.2.2.2.2.2.1, y2.2.2.2.2.2.2.1, y2.2.2.2.2.2.2.2.1, y2.2.2.2.2.2.2.2.2.1, y2.2.2.2.2.2.2.2.2.2.1, y2.2.2.2.2.2.2.2.2.2.2.1, y2.2.2.2.2.2.2.2.2.2.2.2)))
 else none) r
 else none
 else
 bif kB (kA b7) (kA b7) then
 some (.inr (.inl (sectors, b, b2, b3, b4, b5, b6, b7)))
 else none
def yQ (sectors : Int) (t36 : List T4) (t37 : Int) (t38 : Int) (b : T8) (b2 : List T0) (b3 : Int) (b4 : T1) (b5 : Int) (b6 : Bool) (b7 : T2) (b8 : List Int) (b9 : Int) (b10 : Bool) (b11 : List (List Int)) : Option (qq ⊕ vj) :=
 bif ltI t38 t37 then
 (yn t36 t38).bind fun x =>
 bif kB (kA b11) (kA b11) then
 (z8l x b b2 b3 b4 b5 b6 b7 b8 b9 b10 b11).bind fun r =>
 Sum.elim (fun y =>
 bif !y.1 then
 some (.inr (.inr (.inr false)))
 else
 bif kB (kA y.2.2.2.2.2.2.2) (kA y.2.2.2.2.2.2.2) then
 some (.inl (.inl (sectors, t36, t37, W64 (t38 + 1), y.2.1, y.2.2.1, y.2.2.2.1, y.2.2.2.2.1, y.2.2.2.2.2.1, y.2.2.2.2.2.2.1, y.2.2.2.2.2.2.2)))
 else none) (fun y2 =>
 bif !y2.1 then
 some (.inr (.inr (.inr false)))
 else
 bif kB (kA y2.2.2.2.2.2.2.2.2.2.2.2) (kA y2.2.2.2.2.2.2.2.2.2.2.2) then
 some (.inl (.inr (sectors, t36, t37, W64 (t38 + 1), y2.2.1, y2.2.2.1, y2.2.2.2.1, y2.2.2.2.2.1, y2.2.2.2.2.2.1, y2.2.2.2.2.2.2.1, y2.2.2.2.2.2.2.2.1, y2.2.2.2.2.2.2.2.2.1, y2.2.2.2.2.2.2.2.2.2.1, y2.2.2.2.2.2.2.2.2.2.2.1, y2.2.2.2.2.2.2.2.2.2.2.2)))
 else none) r
 else none
 else
 bif kB (kA b11) (kA b11) then
 some (.inr (.inr (.inl (sectors, b, b2, b3, b4, b5, b6, b7, b8, b9, b10, b11))))
 else none
def yc (s : qq) : Option (qq ⊕ vj) := (Sum.elim (fun y => zc3 y.1 y.2.1 y.2.2.1 y.2.2.2.1 y.2.2.2.2.1 y.2.2.2.2.2.1 y.2.2.2.2.2.2.1 y.2.2.2.2.2.2.2.1 y.2.2.2.2.2.2.2.2.1 y.2.2.2.2.2.2.2.2.2.1 y.2.2.2.2.2.2.2.2.2.2) (fun y => yQ y.1 y.2.1 y.2.2.1 y.2.2.2.1 y.2.2.2.2.1 y.2.2.2.2.2.1 y.2.2.2.2.2.2.1 y.2.2.2.2.2.2.2.1 y.2.2.2.2.2.2.2.2.1 y.2.2.2.2.2.2.2.2.2.1 y.2.2.2.2.2.2.2.2.2.2.1 y.2.2.2.2.2.2.2.2.2.2.2.1 y.2.2.2.2.2.2.2.2.2.2.2.2.1 y.2.2.2.2.2.2.2.2.2.2.2.2.2.1 y.2.2.2.2.2.2.2.2.2.2.2.2.2.2)) s
theorem zb0 : SoundD Try.prog (.loop (zN (zw Try.f7) [1, 1, 1, 1, 1, 0, 1, 0, 0])) (zl qp yU (zb yc)) :=
 zG (S := qp) (X := yU) z3f (h := .no) (ze [] (by kernel_rfl) trivial) (XE.alt_ok (za z37) (za z38)) zas yc (fun s => by cases s with | inl s => kernel_rfl | inr s => (kernel_rfl))
def z0c : Shp := ⟨85, 0, [], []⟩
def z0d : Shp := ⟨85, 0, [(4, .d .bool)], []⟩
def yz : XS := .or (.exit 2) z0c.xe (.one .ret z0d.xe)
theorem z73 : yz.OK := XS.or_ok (za z0c) (XS.one_ok (za z0d))
def zT : Shp := ⟨85, 0, [(7, .pt 0 r20 []), (57, .d (.int .i64)), (58, .d (.int .i64))], [.var 63 (.ag [.pt 1 r0 [], .c .nilp, .d c18]), .var 71 (.ag [.wn 2 c1, .d c2, .d (.int .i64), .d c3, .d (.int .i64), .d .bool]), .row 86 c1]⟩
abbrev qO := Int × Int × T8 × (List T0) × Int × T1 × Int × Bool × (List (List Int))
abbrev z12 := (Unit) ⊕ (Bool)
def z90 (t57 : Int) (t58 : Int) (b : T8) (b2 : List T0) (b3 : Int) (b4 : T1) (b5 : Int) (b6 : Bool) (b7 : List (List Int)) : Option (qO ⊕ z12) :=
 bif ltI t58 t57 then
 bif kB (kA b7) (kA b7) then
 (qk t58 b2 b3 b4 b5 b6 b7).bind fun r =>
 bif neI r.1 0 then
 some (.inr (.inr false))
 else
 yf r.2.2.2.2.2.2.1 0 (kA r.2.2.2.2.2.2.1) fun w =>
 (z7b b.1 t58).bind fun r2 =>
 bif !(eqS w r2) then
 some (.inr (.inr false))
 else
 bif kB (kA r.2.2.2.2.2.2.2) (kA r.2.2.2.2.2.2.2) then
 some (.inl (t57, W64 (t58 + 1), b, r.2.1, r.2.2.1, r.2.2.2.1, r.2.2.2.2.1, r.2.2.2.2.2.1, r.2.2.2.2.2.2.2))
 else none
 else none
 else
 some (.inr (.inl ()))
def yb (s : qO) : Option (qO ⊕ z12) := z90 s.1 s.2.1 s.2.2.1 s.2.2.2.1 s.2.2.2.2.1 s.2.2.2.2.2.1 s.2.2.2.2.2.2.1 s.2.2.2.2.2.2.2.1 s.2.2.2.2.2.2.2.2
theorem z7v : SoundD Try.prog (.loop (zN (zw Try.f7) [1, 1, 1, 1, 1, 1, 1, 1, 0, 1, 0, 0])) (zl zT.xe yz (zb yb)) :=
 zG (S := zT.xe) (X := yz) z3f (h := .no) (ze [] (by kernel_rfl) trivial) (za zT) z73 yb (fun s => by kernel_rfl)
def vI : Shp := ⟨85, 0, [], []⟩
def vJ : Shp := ⟨85, 0, [(4, .d .bool)], []⟩
def yp : XS := .or (.exit 2) vI.xe (.one .ret vJ.xe)
theorem z61 : yp.OK := XS.or_ok (za vI) (XS.one_ok (za vJ))
def yo : Shp := ⟨85, 0, [(7, .pt 0 r20 []), (57, .d (.int .i64)), (58, .d (.int .i64))], [.var 63 (.ag [.pt 1 r0 [], .pt 2 r6 [], .d c18]), .var 71 (.ag [.wn 3 c1, .d c2, .d (.int .i64), .d c3, .d (.int .i64), .d .bool]), .var 75 (.ag [.pt 1 r0 [], .d c4, .d (.sl (.int .u8)), .d (.int .i64), .d .bool]), .row 86 c1]⟩
abbrev qw := Int × Int × T8 × (List T0) × Int × T1 × Int × Bool × T2 × (List Int) × Int × Bool × (List (List Int))
abbrev z0e := (Unit) ⊕ (Bool)
def yq (t57 : Int) (t58 : Int) (b : T8) (b2 : List T0) (b3 : Int) (b4 : T1) (b5 : Int) (b6 : Bool) (b7 : T2) (b8 : List Int) (b9 : Int) (b10 : Bool) (b11 : List (List Int)) : Option (qw ⊕ z0e) :=
 bif ltI t58 t57 then
 bif kB (kA b11) (kA b11) then
 (qk t58 b2 b3 b4 b5 b6 b11).bind fun r =>
 bif neI r.1 0 then
 some (.inr (.inr false))
 else
 yf r.2.2.2.2.2.2.1 0 (kA r.2.2.2.2.2.2.1) fun w =>
 (z7b b.1 t58).bind fun r2 =>
 bif !(eqS w r2) then
 some (.inr (.inr false))
 else
 bif kB (kA r.2.2.2.2.2.2.2) (kA r.2.2.2.2.2.2.2) then
 some (.inl (t57, W64 (t58 + 1), b, r.2.1, r.2.2.1, r.2.2.2.1, r.2.2.2.2.1, r.2.2.2.2.2.1, b7, b8, b9, b10, r.2.2.2.2.2.2.2))
 else none
 else none
 else
 some (.inr (.inl ()))
def zH (s : qw) : Option (qw ⊕ z0e) := yq s.1 s.2.1 s.2.2.1 s.2.2.2.1 s.2.2.2.2.1 s.2.2.2.2.2.1 s.2.2.2.2.2.2.1 s.2.2.2.2.2.2.2.1 s.2.2.2.2.2.2.2.2.1 s.2.2.2.2.2.2.2.2.2.1 s.2.2.2.2.2.2.2.2.2.2.1 s.2.2.2.2.2.2.2.2.2.2.2.1 s.2.2.2.2.2.2.2.2.2.2.2.2
theorem z6l : SoundD Try.prog (.loop (zN (zw Try.f7) [1, 1, 1, 1, 1, 1, 1, 1, 0, 1, 0, 0])) (zl yo.xe yp (zb zH)) :=
 zG (S := yo.xe) (X := yp) z3f (h := .no) (ze [] (by kernel_rfl) trivial) (za yo) z61 zH (fun s => by kernel_rfl)
def z5f : Shp := ⟨85, 0, [(0, .d (.int .i64)), (7, .pt 0 r20 [])], [.var 63 (.ag [.pt 1 r0 [], .c .nilp, .d c18]), .var 71 (.ag [.wn 2 c1, .d c2, .d (.int .i64), .d c3, .d (.int .i64), .d .bool]), .row 86 c1]⟩
def z5g : Shp := ⟨85, 0, [(0, .d (.int .i64)), (7, .pt 0 r20 [])], [.var 63 (.ag [.pt 1 r0 [], .pt 2 r6 [], .d c18]), .var 71 (.ag [.wn 3 c1, .d c2, .d (.int .i64), .d c3, .d (.int .i64), .d .bool]), .var 75 (.ag [.pt 1 r0 [], .d c4, .d (.sl (.int .u8)), .d (.int .i64), .d .bool]), .row 86 c1]⟩
def z5h : Shp := ⟨85, 0, [(4, .d .bool)], []⟩
def z1q : XS := .or .normal z5f.xe (.or .normal z5g.xe (.one .ret z5h.xe))
theorem zfn : z1q.OK := XS.or_ok (za z5f) (XS.or_ok (za z5g) (XS.one_ok (za z5h)))
def zg5 : Shp := ⟨1, 0, [(0, .d .bool)], []⟩
def zja : XS := .one .ret zg5.xe
theorem zui : zja.OK := XS.one_ok (za zg5)
def zd9 (sectors : Int) (script : List T4) : Option ((Bool)) :=
 (z6s).bind fun r =>
 bif !r then
 (z6s).bind fun r2 =>
 some r2
 else
 (zr1 sectors script).bind fun r3 =>
 bif !r3 then
 (z6s).bind fun r4 =>
 some r4
 else
 (zcl sectors).bind fun r5 =>
 (zvq sectors).bind fun r6 =>
 (show Option ((Int × (List T4) × T8 × (List T0) × Int × T1 × Int × Bool × (List (List Int))) ⊕ (Int × (List T4) × T8 × (List T0) × Int × T1 × Int × Bool × T2 × (List Int) × Int × Bool × (List (List Int))) ⊕ (Bool)) from
 bif kB (kA r5.2.2.2.2.2.2) (kA r5.2.2.2.2.2.2) then
 (z4w (r6, 0, 0, [], 0, false) r5.2.1 r5.2.2.1 r5.2.2.2.1 r5.2.2.2.2.1 r5.2.2.2.2.2.1 r5.2.2.2.2.2.2).bind fun r7 =>
 Sum.elim (fun y =>
 bif !y.1 then
 some (.inr (.inr false))
 else
 bif kB (kA y.2.2.2.2.2.2.2) (kA y.2.2.2.2.2.2.2) then
 some (.inl (sectors, script, y.2.1, y.2.2.1, y.2.2.2.1, y.2.2.2.2.1, y.2.2.2.2.2.1, y.2.2.2.2.2.2.1, y.2.2.2.2.2.2.2))
 else none) (fun y2 =>
 bif !y2.1 then
 some (.inr (.inr false))
 else
 bif kB (kA y2.2.2.2.2.2.2.2.2.2.2.2) (kA y2.2.2.2.2.2.2.2.2.2.2.2) then
 some (.inr (.inl (sectors, script, y2.2.1, y2.2.2.1, y2.2.2.2.1, y2.2.2.2.2.1, y2.2.2.2.2.2.1, y2.2.2.2.2.2.2.1, y2.2.2.2.2.2.2.2.1, y2.2.2.2.2.2.2.2.2.1, y2.2.2.2.2.2.2.2.2.2.1, y2.2.2.2.2.2.2.2.2.2.2.1, y2.2.2.2.2.2.2.2.2.2.2.2)))
 else none) r7
 else none).bind fun j =>
 Sum.elim (fun y3 =>
 (show Option ((Int × T8 × (List T0) × Int × T1 × Int × Bool × (List (List Int))) ⊕ (Int × T8 × (List T0) × Int × T1 × Int × Bool × T2 × (List Int) × Int × Bool × (List (List Int))) ⊕ (Bool)) from
 zk (kA y3.2.1) (
 bif kB (kA y3.2.2.2.2.2.2.2.2) (kA y3.2.2.2.2.2.2.2.2) then
 (zb yc (.inl (y3.1, y3.2.1, (kA y3.2.1 : Nat), 0, y3.2.2.1, y3.2.2.2.1, y3.2.2.2.2.1, y3.2.2.2.2.2.1, y3.2.2.2.2.2.2.1, y3.2.2.2.2.2.2.2.1, y3.2.2.2.2.2.2.2.2))).bind fun o =>
 Sum.elim (fun y5 =>
 bif kB (kA y5.2.2.2.2.2.2.2) (kA y5.2.2.2.2.2.2.2) then
 some (.inl (y5.1, y5.2.1, y5.2.2.1, y5.2.2.2.1, y5.2.2.2.2.1, y5.2.2.2.2.2.1, y5.2.2.2.2.2.2.1, y5.2.2.2.2.2.2.2))
 else none) (fun y6 =>
 Sum.elim (fun y7 =>
 bif kB (kA y7.2.2.2.2.2.2.2.2.2.2.2) (kA y7.2.2.2.2.2.2.2.2.2.2.2) then
 some (.inr (.inl (y7.1, y7.2.1, y7.2.2.1, y7.2.2.2.1, y7.2.2.2.2.1, y7.2.2.2.2.2.1, y7.2.2.2.2.2.2.1, y7.2.2.2.2.2.2.2.1, y7.2.2.2.2.2.2.2.2.1, y7.2.2.2.2.2.2.2.2.2.1, y7.2.2.2.2.2.2.2.2.2.2.1, y7.2.2.2.2.2.2.2.2.2.2.2)))
 else none) (fun y8 =>
 some (.inr (.inr y8))) y6) o
 else none)).bind fun j2 =>
 Sum.elim (fun y9 =>
 bif kB (kA y9.2.2.2.2.2.2.2) (kA y9.2.2.2.2.2.2.2) then
 (qj y9.2.2.1 y9.2.2.2.1 y9.2.2.2.2.1 y9.2.2.2.2.2.1 y9.2.2.2.2.2.2.1 y9.2.2.2.2.2.2.2).bind fun r8 =>
 bif kB (kA r8.2.2.2.2.2.2) (kA r8.2.2.2.2.2.2) then
 (zb yb (y9.1, 0, ((y9.2.1.1.1, y9.2.1.1.2.1, y9.2.1.1.2.2.1, y9.2.1.1.2.2.2.1, y9.2.1.1.2.2.2.2.1, false), y9.2.1.2), r8.2.1, r8.2.2.1, r8.2.2.2.1, r8.2.2.2.2.1, r8.2.2.2.2.2.1, r8.2.2.2.2.2.2)).bind fun o2 =>
 Sum.elim (fun y11 =>
 some true) (fun y12 =>
 some y12) o2
 else none
 else none) (fun y10 =>
 Sum.elim (fun y13 =>
 bif kB (kA y13.2.2.2.2.2.2.2.2.2.2.2) (kA y13.2.2.2.2.2.2.2.2.2.2.2) then
 (qj y13.2.2.1 y13.2.2.2.1 y13.2.2.2.2.1 y13.2.2.2.2.2.1 y13.2.2.2.2.2.2.1 y13.2.2.2.2.2.2.2.2.2.2.2).bind fun r9 =>
 bif kB (kA r9.2.2.2.2.2.2) (kA r9.2.2.2.2.2.2) then
 (zb zH (y13.1, 0, ((y13.2.1.1.1, y13.2.1.1.2.1, y13.2.1.1.2.2.1, y13.2.1.1.2.2.2.1, y13.2.1.1.2.2.2.2.1, false), y13.2.1.2), r9.2.1, r9.2.2.1, r9.2.2.2.1, r9.2.2.2.2.1, r9.2.2.2.2.2.1, y13.2.2.2.2.2.2.2.1, y13.2.2.2.2.2.2.2.2.1, y13.2.2.2.2.2.2.2.2.2.1, y13.2.2.2.2.2.2.2.2.2.2.1, r9.2.2.2.2.2.2)).bind fun o3 =>
 Sum.elim (fun y15 =>
 some true) (fun y16 =>
 some y16) o3
 else none
 else none) (fun y14 =>
 some y14) y10) j2) (fun y4 =>
 Sum.elim (fun y17 =>
 (show Option ((Int × T8 × (List T0) × Int × T1 × Int × Bool × (List (List Int))) ⊕ (Int × T8 × (List T0) × Int × T1 × Int × Bool × T2 × (List Int) × Int × Bool × (List (List Int))) ⊕ (Bool)) from
 zk (kA y17.2.1) (
 bif kB (kA y17.2.2.2.2.2.2.2.2.2.2.2.2) (kA y17.2.2.2.2.2.2.2.2.2.2.2.2) then
 (zb yc (.inr (y17.1, y17.2.1, (kA y17.2.1 : Nat), 0, y17.2.2.1, y17.2.2.2.1, y17.2.2.2.2.1, y17.2.2.2.2.2.1, y17.2.2.2.2.2.2.1, y17.2.2.2.2.2.2.2.1, y17.2.2.2.2.2.2.2.2.1, y17.2.2.2.2.2.2.2.2.2.1, y17.2.2.2.2.2.2.2.2.2.2.1, y17.2.2.2.2.2.2.2.2.2.2.2.1, y17.2.2.2.2.2.2.2.2.2.2.2.2))).bind fun o4 =>
 Sum.elim (fun y19 =>
 bif kB (kA y19.2.2.2.2.2.2.2) (kA y19.2.2.2.2.2.2.2) then
 some (.inl (y19.1, y19.2.1, y19.2.2.1, y19.2.2.2.1, y19.2.2.2.2.1, y19.2.2.2.2.2.1, y19.2.2.2.2.2.2.1, y19.2.2.2.2.2.2.2))
 else none) (fun y20 =>
 Sum.elim (fun y21 =>
 bif kB (kA y21.2.2.2.2.2.2.2.2.2.2.2) (kA y21.2.2.2.2.2.2.2.2.2.2.2) then
 some (.inr (.inl (y21.1, y21.2.1, y21.2.2.1, y21.2.2.2.1, y21.2.2.2.2.1, y21.2.2.2.2.2.1, y21.2.2.2.2.2.2.1, y21.2.2.2.2.2.2.2.1, y21.2.2.2.2.2.2.2.2.1, y21.2.2.2.2.2.2.2.2.2.1, y21.2.2.2.2.2.2.2.2.2.2.1, y21.2.2.2.2.2.2.2.2.2.2.2)))
 else none) (fun y22 =>
 some (.inr (.inr y22))) y20) o4
 else none)).bind fun j3 =>
 Sum.elim (fun y23 =>
 bif kB (kA y23.2.2.2.2.2.2.2) (kA y23.2.2.2.2.2.2.2) then
 (qj y23.2.2.1 y23.2.2.2.1 y23.2.2.2.2.1 y23.2.2.2.2.2.1 y23.2.2.2.2.2.2.1 y23.2.2.2.2.2.2.2).bind fun r10 =>
 bif kB (kA r10.2.2.2.2.2.2) (kA r10.2.2.2.2.2.2) then
 (zb yb (y23.1, 0, ((y23.2.1.1.1, y23.2.1.1.2.1, y23.2.1.1.2.2.1, y23.2.1.1.2.2.2.1, y23.2.1.1.2.2.2.2.1, false), y23.2.1.2), r10.2.1, r10.2.2.1, r10.2.2.2.1, r10.2.2.2.2.1, r10.2.2.2.2.2.1, r10.2.2.2.2.2.2)).bind fun o5 =>
 Sum.elim (fun y25 =>
 some true) (fun y26 =>
 some y26) o5
 else none
 else none) (fun y24 =>
 Sum.elim (fun y27 =>
 bif kB (kA y27.2.2.2.2.2.2.2.2.2.2.2) (kA y27.2.2.2.2.2.2.2.2.2.2.2) then
 (qj y27.2.2.1 y27.2.2.2.1 y27.2.2.2.2.1 y27.2.2.2.2.2.1 y27.2.2.2.2.2.2.1 y27.2.2.2.2.2.2.2.2.2.2.2).bind fun r11 =>
 bif kB (kA r11.2.2.2.2.2.2) (kA r11.2.2.2.2.2.2) then
 (zb zH (y27.1, 0, ((y27.2.1.1.1, y27.2.1.1.2.1, y27.2.1.1.2.2.1, y27.2.1.1.2.2.2.1, y27.2.1.1.2.2.2.2.1, false), y27.2.1.2), r11.2.1, r11.2.2.1, r11.2.2.2.1, r11.2.2.2.2.1, r11.2.2.2.2.2.1, y27.2.2.2.2.2.2.2.1, y27.2.2.2.2.2.2.2.2.1, y27.2.2.2.2.2.2.2.2.2.1, y27.2.2.2.2.2.2.2.2.2.2.1, r11.2.2.2.2.2.2)).bind fun o6 =>
 Sum.elim (fun y29 =>
 some true) (fun y30 =>
 some y30) o6
 else none
 else none) (fun y28 =>
 some y28) y24) j3) (fun y18 =>
 some y18) y4) j
def y03 : Sig := ⟨7, [.d (.int .i64), .d c11], [], 0, zja⟩
def zi1 (x : Int × (List T4)) : Option ((Bool)) := zd9 x.1 x.2
theorem zy4 : FnOK Try.prog y03 zi1 :=
 zx z3f (h := (.two .no (.two .no (.two .no (.two .no (.join (fun _ => z3s) .no (.join (ymy z72.fit (fun _ => z2k) (fun _ => z1q)) (.two .no (.over (zl qp yU (zb yc)))) (.two .no (.two .no (.two (.two .no (.over (yhk zT.fit (zl zT.xe yz (zb yb)) (zl yo.xe yp (zb zH))))) .no)))))))))) Try.func7 (ze [.xs (fun _ => z3s), .xs (ymy z72.fit (fun _ => z2k) (fun _ => z1q)), .den (.loop (zN (zw Try.f7) [1, 1, 1, 1, 1, 0, 1, 0, 0])) (zl qp yU (zb yc)), .den (.loop (zN (zw Try.f7) [1, 1, 1, 1, 1, 1, 1, 1, 0, 1, 0, 0])) (yhk zT.fit (zl zT.xe yz (zb yb)) (zl yo.xe yp (zb zH)))] (by kernel_rfl) ⟨(qB zjb), (yux (qB zh9) (qB zfn)), zb0, (yuw z7v z6l), trivial⟩) (by kernel_rfl) zui (fun x => by kernel_rfl)
end Go.Proofs.Ytpfjfldagldgnaa
