import Derived.Test.YtamfpgmpofncoaaAb0to7
import Derived.Below
import GoSem.ClaimChange
import Derived.Carry
import Derived.WideShapes
import Derived.OpenShut
import Derived.DeepKeys
open Bool renaming false_eq_true → kA, and_eq_true → kC, not_false → k8
open List renaming getElem?_eq_some_iff → kB, getElem?_eq_none → kF, range → kI, getElem?_drop → kJ, all_eq_true → kK, getElem?_append_right → kM, getElem?_append_left → kN, getElem?_cons_succ → kO, getElem?_cons_zero → kP, map_cons → kQ, length_cons → kR, getElem?_toArray → kS, ext_getElem? → kU, flatten_cons → kV, getElem?_map → kW, mem_map → kY, zipWith → k9
open Go.Result renaming andThen_ok → kD
open Option renaming map_eq_some_iff → kE
open Array renaming getD_eq_getD_getElem? → kG
open Go.Sem renaming run_bind → kH, run_pure → kZ
open Nat renaming div_add_mod' → kL, div_lt_iff_lt_mul → kT, add_mul → k0, mod_lt → ka
namespace Go.Ab
def Ops (P : Program) (ops : Array Oper) : List Oper -> AS -> (AS -> Prop) -> Prop
 | [], σ, N => N σ
 | o :: r, σ, N => ∃ g, ql ops σ o = some g /\
   if g = true then Step P o σ (fun σ' => Ops P ops r σ' N) else Ops P ops r (σ.put o.dst (.tup [])) N
variable {P : Program} {o : Oper} {σ : AS}
theorem Step.mono {N N' : AS -> Prop} (h : Step P o σ N) (hn : ∀ σ, N σ -> N' σ) : Step P o σ N' :=
 fun c a w K Q hr hK => h c a w K Q hr fun c' a' w' σ' hN => hK c' a' w' σ' (hn _ hN)
theorem z95 {P : Program} {ops : Array Oper} {N : AS -> Prop} : ∀ (r : List Oper) (i : Nat) {σ : AS}, ops.toList.drop i = r -> Ops P ops r σ N ->
  zh2 P ops (List.range' i r.length) σ N
 | [], _, _, _, h => h
 | o :: r, i, σ, hd, h => by
  obtain ⟨g, h1, h2⟩ := h;have ho : ops[i]? = some o := by
   have : ops.toList[i]? = some o := by
    have h3 : (ops.toList.drop i)[0]? = some o := by rw [hd]; rfl
    rw [kJ] at h3; simpa using h3
   simpa using this
  have hd' : ops.toList.drop (i + 1) = r := by
   have : ops.toList.drop (i + 1) = (ops.toList.drop i).drop 1 := by rw [List.drop_drop]
   rw [this, hd]; rfl
  simp only [kR, List.range'_succ, zh2];refine ⟨o, g, ho, h1, ?_⟩;cases g with
  | true =>
   simp only [if_true] at h2 ⊢;exact h2.mono fun σ' hN => z95 r (i + 1) hd' hN
  | false =>
   simp only [kA, if_false] at h2 ⊢;exact z95 r (i + 1) hd' h2
theorem AW.reg {id : Nat} {ops : Array Oper} {Q : Exit -> AS -> Prop} (h : Ops P ops ops.toList σ (Q .normal)) : AW P (.region id ops false) σ Q := by
 refine AW.region ?_;have := z95 ops.toList 0 (by simp) h
 rw [List.range_eq_range'];simpa using this
theorem Ops.q {ops : Array Oper} {r : List Oper} {N : AS -> Prop} {p : PV} (hg : ql ops σ o = some true) (h : QStep P o σ p)
  (hN : Ops P ops r (σ.put o.dst p) N) : Ops P ops (o :: r) σ N := ⟨true, hg, by simp only [if_true]; exact h.step hN⟩
theorem Ops.no {ops : Array Oper} {r : List Oper} {N : AS -> Prop} (hg : ql ops σ o = some false)
  (hN : Ops P ops r (σ.put o.dst (.tup [])) N) : Ops P ops (o :: r) σ N := ⟨false, hg, by simp only [kA, if_false]; exact hN⟩
theorem Ops.e {ops : Array Oper} {r : List Oper} {N : AS -> Prop} (hg : ql ops σ o = some true)
  (h : Step P o σ (fun σ' => Ops P ops r σ' N)) : Ops P ops (o :: r) σ N := ⟨true, hg, by simp only [if_true]; exact h⟩
theorem Ops.nil {ops : Array Oper} {N : AS -> Prop} (h : N σ) : Ops P ops [] σ N := h
def AS.keep (σ : AS) (l : List Nat) : AS := { σ with slots := l.map fun t => (t, σ.get t) }
theorem zcm (σ : AS) : ∀ (l : List Nat) (t : Nat) (p : PV), look (l.map fun t => (t, σ.get t)) t = some p -> σ.get t = p
 | [], _, _, h => by simp [look] at h
 | s :: l, t, p, h => by
  simp only [kQ, look] at h;cases hb : Nat.beq s t with
  | true =>
   have := Nat.eq_of_beq_eq_true hb;subst this;rw [hb] at h;simpa using h
  | false => rw [hb] at h; exact zcm σ l t p (by simpa using h)
theorem RelC.keep {w : World} {c : Cx} {σ : AS} {a : Act} (h : RelC w c σ a) (l : List Nat) : RelC w c (σ.keep l) a := by
 refine ⟨h.1, h.2.1, fun t p hl hn => ?_⟩
 have hg := zcm σ l t p hl;have he := h.2.eval (.tmp t);simp only [AS.eval, Act.eval] at he;have hlt : t < a.tmps.size := by rw [h.2.1]; exact hn
 refine ⟨a.tmps[t], by simp [hlt], ?_⟩
 rw [hg] at he;simpa [kG, hlt] using he
theorem AW.keep {P : Program} {x : Code} {σ : AS} {Q : Exit -> AS -> Prop} (l : List Nat) (h : AW P x (σ.keep l) Q) : AW P x σ Q :=
 fun c a w Q' hr hK => h c a w Q' (hr.keep l) hK
abbrev vs (s : ByteArray) : PV := .val (.string s)
def zjx (acc : Array Nat) (o : Oper) : Nat :=
 o.after.foldl (fun s e => if Region.binds .any e then s ||| 2 ^ e.on ||| acc.getD e.on 0 else s) 0
def vT (l : List Oper) : Array Nat := l.foldl (fun acc o => acc.push (zjx acc o)) #[]
theorem zhy (ops : Array Oper) : Region.before ops = vT ops.toList := by
 unfold Region.before vT;rw [<- Array.foldl_toList];rfl
theorem zbt (l : List Oper) (o : Oper) : vT (l ++ [o]) = (vT l).push (zjx (vT l) o) := by simp [vT]
theorem zem (l : List Oper) : (vT l).size = l.length /\ ∀ j, j < l.length -> ∀ r, (vT (l ++ r)).getD j 0 = (vT l).getD j 0 := by
 have size : ∀ n (l : List Oper), l.length = n -> (vT l).size = l.length := by
  intro n
  induction n with
  | zero => intro l h; have := List.eq_nil_of_length_eq_zero h; subst this; rfl
  | succ n ih =>
   intro l h;rcases List.eq_nil_or_concat l with e | ⟨l', o, e⟩
   ·subst e; simp at h
   ·subst e;simp at h;rw [List.concat_eq_append, zbt, Array.size_push, ih l' h]; simp
 refine ⟨size _ l rfl, fun j hj r => ?_⟩
 have key : ∀ n (r : List Oper), r.length = n -> (vT (l ++ r)).getD j 0 = (vT l).getD j 0 := by
  intro n
  induction n with
  | zero => intro r h; have := List.eq_nil_of_length_eq_zero h; subst this; simp
  | succ n ih =>
   intro r h;rcases List.eq_nil_or_concat r with e | ⟨r', o, e⟩
   ·subst e; simp at h
   ·subst e;simp at h;rw [List.concat_eq_append, <- List.append_assoc, zbt, <- ih r' h];have hs := size _ (l ++ r') rfl;simp only [kG];rw [Array.getElem?_push, if_neg (by rw [hs]; simp; omega)]
 exact key _ r rfl
theorem zlw {acc : Array Nat} {i : Nat} (h : (zjx acc o).testBit i = true) :
  ∃ e, e ∈ o.after.toList /\ Region.binds .any e = true /\ (e.on = i \/ (acc.getD e.on 0).testBit i = true) := by
 unfold zjx at h;rw [<- Array.foldl_toList] at h;generalize o.after.toList = l at h;have key : ∀ (l : List Edge) (s : Nat), (l.foldl (fun s e => if Region.binds .any e then s ||| 2 ^ e.on ||| acc.getD e.on 0 else s) s).testBit i = true ->
   s.testBit i = true \/ ∃ e, e ∈ l /\ Region.binds .any e = true /\ (e.on = i \/ (acc.getD e.on 0).testBit i = true) := by
  intro l
  induction l with
  | nil => intro s h; exact .inl h
  | cons e l ih =>
   intro s h;simp only [List.foldl_cons] at h;rcases ih _ h with h | ⟨e', h1, h2⟩
   ·by_cases hb : Region.binds .any e = true
    ·rw [if_pos hb] at h;simp only [Nat.testBit_or, Bool.or_eq_true] at h;rcases h with (h | h) | h
     ·exact .inl h
     ·rw [Nat.testBit_two_pow] at h;exact .inr ⟨e, by simp, hb, .inl (by simpa using h)⟩
     ·exact .inr ⟨e, by simp, hb, .inr h⟩
    ·rw [if_neg hb] at h; exact .inl h
   ·exact .inr ⟨e', by simp [h1], h2⟩
 rcases key l 0 h with h | h
 ·simp at h
 ·exact h
def z37 (ops : Array Oper) : Bool := ops.toList.zipIdx.all fun (o, j) => o.after.toList.all fun e => !Region.binds .any e || decide (e.on < j)
theorem z4d {ops : Array Oper} (h : z37 ops = true) {j : Nat} (ho : ops[j]? = some o) {e : Edge} (he : e ∈ o.after.toList)
  (hb : Region.binds .any e = true) : e.on < j := by
 have := kK.1 h (o, j) (by rw [List.mem_zipIdx_iff_getElem?]; simpa using ho)
 have := kK.1 this e he;simpa [hb] using this
def bef (ops : Array Oper) (j i : Nat) : Bool := ((Region.before ops).getD j 0).testBit i
theorem zae {ops : Array Oper} (hback : z37 ops = true) {D : Nat -> Prop}
  (hD : ∀ j o e, D j -> ops[j]? = some o -> e ∈ o.after.toList -> Region.binds .any e = true -> D e.on) (hlt : ∀ j, D j -> j < ops.size) :
  ∀ j i, D j -> bef ops j i = true -> D i := by
 intro j
 induction j using Nat.strongRecOn with
 | _ j ih =>
  intro i hj hb;have hjs := hlt j hj;have ho : ops[j]? = some ops[j] := by simp [hjs]
  have hsplit : ops.toList = (ops.toList.take j ++ [ops[j]]) ++ ops.toList.drop (j + 1) := by
   have h1 : ops.toList.take (j + 1) = ops.toList.take j ++ [ops[j]] := by
    rw [List.take_succ_eq_append_getElem (by simpa using hjs)]; simp
   rw [<- h1, List.take_append_drop]
  unfold bef at hb;rw [zhy] at hb;have e1 : (vT ops.toList).getD j 0 = zjx (vT (ops.toList.take j)) ops[j] := by
   have h1 : (vT ops.toList).getD j 0 = (vT (ops.toList.take j ++ [ops[j]])).getD j 0 := by
    have := (zem (ops.toList.take j ++ [ops[j]])).2 j (by simp; omega) (ops.toList.drop (j + 1))
    rw [<- hsplit] at this; exact this
   rw [h1, zbt];have hs := (zem (ops.toList.take j)).1;simp only [kG];have : (vT (ops.toList.take j)).size = j := by rw [hs]; simp; omega
   rw [Array.getElem?_push, if_pos this.symm]; rfl
  rw [e1] at hb;obtain ⟨e, he, hbe, h⟩ := zlw hb;have hlt' := z4d hback ho he hbe;have hde := hD j _ e hj ho he hbe;rcases h with h | h
  ·exact h ▸ hde
  ·refine ih e.on hlt' i hde ?_;unfold bef;rw [zhy];have : (vT ops.toList).getD e.on 0 = (vT (ops.toList.take j)).getD e.on 0 := by
    have h2 := (zem (ops.toList.take j)).2 e.on (by simp; omega) (ops.toList.drop j)
    rw [List.take_append_drop] at h2;exact h2
   rw [this]; exact h
def qd : List Oper -> List PV -> AS -> AS
 | o :: os, p :: ps, σ => qd os ps (σ.put o.dst p)
 | _, _, σ => σ
def Quiets (P : Program) (ops : Array Oper) : List Oper -> List PV -> AS -> Prop
 | o :: os, p :: ps, σ => (∃ g, ql ops (σ.keep (o.looksAt ops)) o = some g /\
   (if g = true then QStep P o (σ.keep (o.looksAt ops)) p else p = .tup [])) /\ Quiets P ops os ps (σ.put o.dst p)
 | [], [], _ => True
 | _, _, _ => False
def pre (l : List Oper) (ps : List PV) (σ : AS) (i : Nat) : AS := qd (l.take i) (ps.take i) σ
theorem z4k : ∀ (l : List Oper) (ps : List PV) (σ : AS), (qd l ps σ).n = σ.n /\ (qd l ps σ).H = σ.H /\ (qd l ps σ).ts = σ.ts
 | [], ps, σ => by cases ps <;> exact ⟨rfl, rfl, rfl⟩
 | o :: l, [], σ => ⟨rfl, rfl, rfl⟩
 | o :: l, p :: ps, σ => by
  obtain ⟨h1, h2, h3⟩ := z4k l ps (σ.put o.dst p);cases hd : o.dst <;> simp only [qd, hd, AS.put] at h1 h2 h3 ⊢ <;> exact ⟨h1, h2, h3⟩
theorem zkp (σ : AS) (d : Nat) (p : PV) (h : d < σ.n) : (σ.put (some d) p).get d = p := by
 simp only [AS.put, AS.get, look, Nat.beq_refl, cond_true, Option.getD_some];rw [show Nat.blt d σ.n = true from Nat.blt_eq.mpr h]; rfl
theorem zo8 (σ : AS) (d t : Nat) (p : PV) (h : d ≠ t) : (σ.put (some d) p).get t = σ.get t := by
 simp only [AS.put, AS.get, look];have : Nat.beq d t = false := by
  cases hb : Nat.beq d t with
  | false => rfl
  | true => exact absurd (Nat.eq_of_beq_eq_true hb) h
 rw [this]; rfl
theorem zav : ∀ (l : List Oper) (ps : List PV) (σ : AS) (t : Nat), l.length = ps.length -> t < σ.n ->
  (∃ (j : Nat) (o : Oper) (p : PV), l[j]? = some o /\ ps[j]? = some p /\ o.dst = some t /\ (qd l ps σ).get t = p) \/ ((∀ (j : Nat) o, l[j]? = some o -> o.dst ≠ some t) /\ (qd l ps σ).get t = σ.get t)
 | [], [], σ, t, _, _ => .inr ⟨fun j o h => by simp at h, rfl⟩
 | o :: l, p :: ps, σ, t, hl, ht => by
  have hn : t < (σ.put o.dst p).n := by cases o.dst <;> exact ht
  rcases zav l ps (σ.put o.dst p) t (by simpa using hl) hn with ⟨j, o', p', h1, h2, h3, h4⟩ | ⟨h1, h2⟩
  ·exact .inl ⟨j + 1, o', p', by simpa using h1, by simpa using h2, h3, h4⟩
  ·by_cases hd : o.dst = some t
   ·refine .inl ⟨0, o, p, rfl, rfl, hd, ?_⟩;simp only [qd];rw [h2, hd, zkp _ _ _ ht]
   ·refine .inr ⟨fun j o' h => ?_, ?_⟩
    ·cases j with
     | zero => simp at h; subst h; exact hd
     | succ j => exact h1 j o' (by simpa using h)
    ·simp only [qd];rw [h2];cases hdd : o.dst with
     | none => rfl
     | some d => exact zo8 _ _ _ _ (fun e => hd (by rw [hdd, e]))
 | [], _ :: _, _, _, hl, _ => by simp at hl
 | _ :: _, [], _, _, hl, _ => by simp at hl
theorem zs9 (a : Act) (d t : Nat) (v : Value) (hd : d < a.tmps.size) : (a.put (some d) v).tmps.getD t undef = if d = t then v else a.tmps.getD t undef := by
 simp only [Act.put, kG]
 by_cases h : d = t
 ·subst h; rw [if_pos rfl, Array.getElem?_setIfInBounds_self_of_lt hd]; rfl
 ·rw [if_neg h, Array.getElem?_setIfInBounds_ne h]
theorem Quiets.q {ops : Array Oper} {os : List Oper} {p : PV} {ps : List PV} (hg : ql ops (σ.keep (o.looksAt ops)) o = some true)
  (h : QStep P o (σ.keep (o.looksAt ops)) p) (hr : Quiets P ops os ps (σ.put o.dst p)) : Quiets P ops (o :: os) (p :: ps) σ := ⟨⟨true, hg, by simpa using h⟩, hr⟩
theorem Quiets.no {ops : Array Oper} {os : List Oper} {ps : List PV} (hg : ql ops (σ.keep (o.looksAt ops)) o = some false)
  (hr : Quiets P ops os ps (σ.put o.dst (.tup []))) : Quiets P ops (o :: os) (.tup [] :: ps) σ := ⟨⟨false, hg, by simp⟩, hr⟩
theorem Quiets.nil {ops : Array Oper} : Quiets P ops [] [] σ := trivial
theorem z3v {P : Program} : ∀ (us : List Value) {w : World} {k off i : Nat} {vs : Array Value} {e : TypeId} {fr : Nat × Nat},
  w.heap[k]? = some (.cells vs e fr) -> nofz fr vs.size -> off + i + us.length <= vs.size -> (∀ u, u ∈ us -> u.oneCell' = true) ->
  ∃ w' vs', (storeCells ⟨k, off, none⟩ us i).run P w = .ok () w' /\ w'.heap[k]? = some (.cells vs' e fr) /\ vs'.size = vs.size /\
   (∀ j : Nat, vs'[j]? = if off + i <= j /\ j < off + i + us.length then us[j - (off + i)]? else vs[j]?) /\ (∀ k' : Nat, k' ≠ k -> w'.heap[k']? = w.heap[k']?) /\
   w'.heap.size = w.heap.size /\ w'.os = w.os /\ w'.tape = w.tape /\ w'.output = w.output
 | [], w, k, off, i, vs, e, fr, h, _, _, _ => ⟨w, vs, rfl, h, rfl, fun j => by rw [if_neg (by simp only [List.length_nil]; omega)], fun _ _ => rfl, rfl, rfl, rfl, rfl⟩
 | u :: us, w, k, off, i, vs, e, fr, h, hf, hlen, ho => by
  simp only [kR] at hlen;have hlt : off + i < vs.size := by omega
  have h2 := zd6 w k (off + i) u h;obtain ⟨w', vs', h3, h4, h5, h6, h7, h8, h9⟩ := z3v us (w := w.setCell ⟨k, off + i, none⟩ u) (i := i + 1) (off := off) h2 (by simpa using hf) (by simp; omega) (fun u hu => ho u (by simp [hu]))
  refine ⟨w', vs', ?_, h4, by simpa using h5, fun j => ?_, fun k' hk => (h7 k' hk).trans (z1a w k _ k' u hk), by rw [h8, zlo], h9⟩
  ·have hone := ho u (by simp)
   have hcell : w.cell? ⟨k, off + i, none⟩ = some vs[off + i] := by rw [vU h]; simp [hlt]
   have hfr : w.frozen? ⟨k, off + i, none⟩ = false := by
    simp only [World.frozen?, h];simpa using hf.no (off + i) hlt
   unfold storeCells;rw [xz, kH];have hst : (store ⟨k, off + i, none⟩ u : Sem Unit).run P w = .ok () (w.setCell ⟨k, off + i, none⟩ u) := by
    unfold store;cases u <;> simp only [Value.oneCell'] at hone <;> first | (cases hone; done) | (simp only [Sem.run, hcell, hfr]; rfl)
   rw [hst];exact h3
  ·rw [h6 j];simp only [kR]
   by_cases h1 : off + (i + 1) <= j /\ j < off + (i + 1) + us.length
   ·rw [if_pos h1, if_pos (by omega)]
    have : j - (off + i) = (j - (off + (i + 1))) + 1 := by omega
    rw [this]; rfl
   ·rw [if_neg h1]
    by_cases h2 : j = off + i
    ·subst h2;rw [if_pos (by omega), Array.getElem?_setIfInBounds_self_of_lt hlt]; simp
    ·rw [if_neg (by omega), Array.getElem?_setIfInBounds_ne (by omega)]
def zj9 (P : Program) (σ : AS) (y : Operand) (m sz : Nat) (news : List PV) : Prop :=
 news.length = m * sz /\ zd news /\ ∀ w c (a : Act), RelC w c σ a -> (Builtin.lenOf (a.eval y)).run P w = .ok m w /\
  ∃ us : Array Value, (∀ n, (Builtin.firstCells sz m (a.eval y)).run P { w with drawn := n } = .ok us { w with drawn := n }) /\ us.size = m * sz /\ VRs w c news (fun i => us[i]?)
theorem zuf {w : World} {c : Cx} {a : Addr} (cs : List PV) (hf : Foot w c a cs.length) (h : VRs w c cs (fun i => w.cell? ⟨a.block, a.off + i, none⟩)) :
  ∃ us : Array Value, (∀ n, (loadCells a cs.length).run P { w with drawn := n } = .ok us { w with drawn := n }) /\ us.size = cs.length /\ VRs w c cs (fun i => us[i]?) := by
 have h' := z77 hf h;refine ⟨((kI cs.length).map (fun i => (w.cell? (a.add i)).getD undef)).toArray, fun n => ?_, by simp, zU fun i p hp => ?_⟩
 ·refine run_loadCells { w with drawn := n } a cs.length _ (fun i hi => ?_)
  obtain ⟨v, h1, _⟩ := zo h' (List.getElem?_eq_getElem hi);have : ({ w with drawn := n } : World).cell? (a.add i) = w.cell? (a.add i) := rfl;rw [this, h1]; rfl
 ·have hi := (kB.1 hp).1;obtain ⟨v, h1, h2⟩ := zo h' hp;exact ⟨v, by simp [hi, h1], h2⟩
theorem zi7 (need : Nat) (h : 256 <= need) : ∀ (r c : Nat), c <= 2 * need -> Builtin.growBy need r c <= 2 * need
 | 0, c, hc => hc
 | r + 1, c, hc => by
  unfold Builtin.growBy;split
  ·exact hc
  ·exact zi7 need h r _ (by omega)
theorem zg6 (need cap : Nat) (h : cap < need) : Builtin.nextslicecap need cap <= 2 * need := by
 unfold Builtin.nextslicecap;split
 ·omega
 ·split
  ·omega
  ·exact zi7 need (by omega) 4 cap (by omega)
structure ElemT (P : Program) (e : TypeId) (sz nb : Nat) : Prop where
 size : ye P e = some sz
 bytes : (P.info? e).map (·.bytes) = some nb
 pos : nb ≠ 0
 zero : ∃ z, qK P e = some z /\ z.length = sz
theorem ElemT.info {P : Program} {e : TypeId} {sz bytes : Nat} (h : ElemT P e sz bytes) (w : World) : ∃ i, (typeInfo e).run P w = .ok i w /\ i.bytes = bytes := by
 have := h.bytes;cases hi : P.info? e with
 | none => rw [hi] at this; cases this
 | some i => rw [hi] at this; simp at this; exact ⟨i, by simp [typeInfo, hi], this⟩
def z1t (P : Program) (t : TypeId) : Bool :=
 match P.underlying t with
 | some (.slice _) | some .string => true
 | _ => false
theorem zf5 {t : TypeId} (h : z1t P t = true) : (∃ e, P.underlying t = some (.slice e)) \/ P.underlying t = some .string := by
 unfold z1t at h;cases hu : P.underlying t with
 | none => rw [hu] at h; cases h
 | some d =>
  rw [hu] at h;cases d <;> simp at h
  ·exact .inr rfl
  ·exact .inl ⟨_, rfl⟩
theorem zgj {w w' : World} {t t2 e : TypeId} {a : Addr} {len cap m sz : Nat} {x : Value} {us : Array Value}
  (ht : P.underlying t = some (.slice e)) (hs : ye P e = some sz) (ht2 : z1t P t2 = true) (hl : (Builtin.lenOf x).run P w = .ok m w)
  (hc : (Builtin.firstCells sz m x).run P w = .ok us w) (hroom : len + m <= cap) (hst : (storeCells (a.add (len * sz)) us.toList).run P w = .ok () w') (ty : TypeId) :
  (Builtin.append_ #[t, t2] ty #[.slice (some a) len cap, x]).run P w = .ok (.slice (some a) (len + m) cap) w' := by
 unfold Builtin.append_;simp only [kS, kP, kO];rcases zf5 ht2 with ⟨e2, hd⟩ | hd
 all_goals
  simp only [kH, run_underlying ht, run_sizeOf hs, kD, run_underlying hd, kZ, kA, if_false, hl, if_pos hroom, k8,
   if_true, hc, hst]
theorem z0h {w : World} {t t2 e : TypeId} {b : Option Addr} {len cap sz : Nat} {x : Value} {us : Array Value}
  (ht : P.underlying t = some (.slice e)) (hs : ye P e = some sz) (ht2 : z1t P t2 = true) (hl : (Builtin.lenOf x).run P w = .ok 0 w)
  (hc : (Builtin.firstCells sz 0 x).run P w = .ok us w) (hu : us.size = 0) (hroom : len <= cap) (ty : TypeId) :
  (Builtin.append_ #[t, t2] ty #[.slice b len cap, x]).run P w = .ok (.slice b len cap) w := by
 have hu' : us = #[] := Array.eq_empty_of_size_eq_zero hu;subst hu';unfold Builtin.append_;simp only [kS, kP, kO];rcases zf5 ht2 with ⟨e2, hd⟩ | hd
 all_goals
  simp only [kH, run_underlying ht, run_sizeOf hs, kD, run_underlying hd, kZ, kA, if_false, hl, Nat.add_zero, if_pos hroom,
   k8, if_true, hc]
  cases b with
  | none => rfl
  | some a => rfl
theorem z3u {w : World} {t t2 e : TypeId} {b : Option Addr} {len cap m sz bytes : Nat} {x : Value} {us os : Array Value}
  (ht : P.underlying t = some (.slice e)) (he : ElemT P e sz bytes) (ht2 : z1t P t2 = true) (hl : (Builtin.lenOf x).run P w = .ok m w)
  (hold : ∀ n, (Builtin.firstCells sz len (.slice b len cap)).run P { w with drawn := n } = .ok os { w with drawn := n })
  (hc : ∀ n, (Builtin.firstCells sz m x).run P { w with drawn := n } = .ok us { w with drawn := n }) (hroom : ¬ len + m <= cap) (hb : (len + m) * bytes <= 2 ^ 47) (ty : TypeId) :
  ∃ rest : Array Value, ∃ ncap, len + m <= ncap /\ rest.size = (ncap - (len + m)) * sz /\
   (Builtin.append_ #[t, t2] ty #[.slice b len cap, x]).run P w = .ok (.slice (some ⟨w.heap.size, 0, none⟩) (len + m) ncap)
    (grow { w with drawn := w.drawn + 1 } (.cells (os ++ us ++ rest) e (0, 0))) := by
 obtain ⟨z, hz0, hzl⟩ := he.zero;obtain ⟨zv, hz1, hz2, _⟩ := jy (w := { w with drawn := w.drawn + 1 }) hz0;obtain ⟨i0, hi0, hib⟩ := he.info w;obtain ⟨i1, hi1, hib1⟩ := he.info { w with drawn := w.drawn + 1 };refine ⟨Builtin.zeroCells zv.cells ((Question.appendCap (len + m) cap e).cut (w.tape w.drawn (.appendCap (len + m) cap e)) - (len + m)),
  (Question.appendCap (len + m) cap e).cut (w.tape w.drawn (.appendCap (len + m) cap e)), Nat.le_add_right _ _, ?_, ?_⟩
 ·simp [Builtin.zeroCells, hz2, hzl]
 ·unfold Builtin.append_;simp only [kS, kP, kO];have hb1 : ¬ (((len + m : Nat) : Int) > IntKind.i64.max /\ ((false : Bool) = true \/ i0.bytes = 0)) := by
   rintro ⟨_, h | h⟩
   ·cases h
   ·exact he.pos (hib ▸ h)
  have hb2 : ¬ Builtin.nextslicecap (len + m) cap * i0.bytes > 2 ^ 48 := by
   have := zg6 (len + m) cap (by omega)
   have h3 : Builtin.nextslicecap (len + m) cap * i0.bytes <= 2 * (len + m) * i0.bytes := Nat.mul_le_mul_right _ this;rw [hib] at h3 ⊢;rw [Nat.mul_assoc] at h3;omega
  have hb1' : ¬ (((len + m : Nat) : Int) > IntKind.i64.max /\ i0.bytes = 0) := fun h => hb1 ⟨h.1, .inr h.2⟩
  rcases zf5 ht2 with ⟨e2, hd⟩ | hd
  all_goals
   simp only [kH, run_underlying ht, run_sizeOf he.size, kD, run_underlying hd, kZ, kA, if_false, hl, if_neg hroom, hi0, false_or];rw [if_neg hb1'];simp only [kH, kZ, kD, hi0, if_neg hb2, run_choose, Question.forced, kA, if_false, run_askRoom, hi1, hold, k8, if_true, hc, hz1,
    newRow, run_newObj]
   rfl
end Go.Ab
namespace Go.Ab
open Go.RowKit (Below)
mutual
def yI {H : Type} : DataW H -> List PV
 | .lit (.bool b) => [.val (.bool b)]
 | .lit (.int k n) => [.val (.int k n)]
 | .lit (.string l) => [.val (.string ⟨l.toArray⟩)]
 | .lit _ => [.dead]
 | .nil => [.tr 0 [] .no]
 | .slice es _ => [.tr es.length (yx es) .no]
 | .agg ps => yx ps
 | .ptr _ => [.dead]
 | .iface _ _ => [.dead]
 | .map _ => [.dead]
 | .held _ => [.dead]
def yx {H : Type} : List (DataW H) -> List PV
 | [] => []
 | d :: ds => yI d ++ yx ds
end
def vq (P : Program) : List Field -> Nat -> Nat -> Bool
 | [], off, n => off == n
 | f :: fs, off, n => f.offset == off && vq P fs (off + P.cellsOf f.type) n
def qb (P : Program) : Nat -> TypeId -> Bool
 | 0, _ => false
 | n + 1, t =>
  match P.underlying t with
  | some .bool | some (.int _) | some .string => true
  | some (.slice e) => qb P n e
  | some (.array k e) => qb P n e && P.cellsOf t == k * P.cellsOf e
  | some (.struct fs) => fs.toList.all (fun f => qb P n f.type) && vq P fs.toList 0 (P.cellsOf t)
  | _ => false
theorem z2u {α β : Type} {f : α -> Option β} : ∀ {l : List α} {xs : List β}, l.mapM f = some xs -> xs.length = l.length /\ ∀ (i : Nat) a, l[i]? = some a -> ∃ x, xs[i]? = some x /\ f a = some x
 | [], xs, h => by
  simp at h; subst h;exact ⟨rfl, fun i a h => by simp at h⟩
 | a :: l, xs, h => by
  rw [List.mapM_cons] at h;cases hf : f a with
  | none => rw [hf] at h; cases h
  | some x =>
   rw [hf] at h;cases hl : l.mapM f with
   | none => rw [hl] at h; cases h
   | some ys =>
    rw [hl] at h;simp at h;subst h;obtain ⟨h1, h2⟩ := z2u hl;refine ⟨by simp [h1], fun i b hb => ?_⟩
    cases i with
    | zero => simp at hb; subst hb; exact ⟨x, rfl, hf⟩
    | succ i => exact h2 i b (by simpa using hb)
variable {w : World}
theorem z61 {base : Nat} {a : Addr} {n : Nat} {cs : List Value} (h : w.cells? base a n = some cs) : cs.length = n /\ ∀ i, i < n -> w.cell? (a.add i) = cs[i]? := by
 unfold World.cells? at h;split at h
 ·obtain ⟨h1, h2⟩ := z2u h;refine ⟨by simpa using h1, fun i hi => ?_⟩
  obtain ⟨x, h3, h4⟩ := h2 i i (by simp [hi])
  rw [h4, h3]
 ·cases h
theorem z5z {c : Cx} {xs ys : List PV} {f : Nat -> Option Value} (h1 : VRs w c xs f) (h2 : VRs w c ys (fun i => f (xs.length + i))) : VRs w c (xs ++ ys) f :=
 zU fun i p hp => by
  by_cases hi : i < xs.length
  ·rw [kN hi] at hp; exact zo h1 hp
  ·rw [kM (Nat.le_of_not_lt hi)] at hp;obtain ⟨v, h3, h4⟩ := zo h2 hp;have : xs.length + (i - xs.length) = i := by omega
   rw [this] at h3;exact ⟨v, h3, h4⟩
theorem ve {c : Cx} {xs : List PV} {f g : Nat -> Option Value} (h : VRs w c xs f) (hfg : ∀ i, i < xs.length -> f i = g i) : VRs w c xs g :=
 zU fun i p hp => by
  obtain ⟨v, h1, h2⟩ := zo h hp;exact ⟨v, by rw [<- hfg i (kB.1 hp).1]; exact h1, h2⟩
def Rd {H : Type} (w : World) (c : Cx) (d : DataW H) (cs : List Value) : Prop :=
 (yI d).length = cs.length /\ zd (yI d) /\ VRs w c (yI d) (fun i => cs[i]?)
theorem zhn {H : Type} {w : World} {c : Cx} {sz : Nat} : ∀ {ds : List (DataW H)} {css : List (List Value)}, ds.length = css.length -> (∀ (i : Nat) d cs, ds[i]? = some d -> css[i]? = some cs -> Rd w c d cs /\ cs.length = sz) ->
  (yx ds).length = ds.length * sz /\ zd (yx ds) /\ VRs w c (yx ds) (fun i => css.flatten[i]?)
 | [], [], _, _ => ⟨by simp [yx], fun q hq => by simp [yx] at hq, by simp only [yx, VRs]⟩
 | d :: ds, cs :: css, hl, h => by
  obtain ⟨⟨h1, h2, h3⟩, h4⟩ := h 0 d cs rfl rfl;obtain ⟨h5, h6, h7⟩ := zhn (ds := ds) (css := css) (by simpa using hl) (fun i d cs hd hc => h (i + 1) d cs (by simpa using hd) (by simpa using hc))
  refine ⟨by simp [yx, h1, h4, h5, k0, Nat.add_comm], fun q hq => ?_, ?_⟩
  ·simp only [yx, List.mem_append] at hq;exact hq.elim (h2 q) (h6 q)
  ·simp only [yx, kV];refine z5z (ve h3 fun i hi => ?_) (ve h7 fun i hi => ?_)
   ·rw [kN (by omega)]
   ·rw [kM (by omega)]
    congr 1; omega
 | [], _ :: _, hl, _ => by simp at hl
 | _ :: _, [], hl, _ => by simp at hl
theorem z8x {sz : Nat} : ∀ {css : List (List Value)} {i r : Nat} {cs : List Value}, (∀ c, c ∈ css -> c.length = sz) -> css[i]? = some cs -> r < sz -> css.flatten[i * sz + r]? = cs[r]?
 | [], _, _, _, _, h, _ => by simp at h
 | c :: css, 0, r, cs, hsz, h, hr => by
  simp at h; subst h;rw [kV, kN (by rw [hsz c (by simp)]; omega)]; simp
 | c :: css, i + 1, r, cs, hsz, h, hr => by
  have hc := hsz c (by simp)
  rw [kV, kM (by rw [hc, k0]; omega), hc]
  have : (i + 1) * sz + r - sz = i * sz + r := by rw [k0]; omega
  rw [this];exact z8x (fun c hc => hsz c (by simp [hc])) (by simpa using h) hr
theorem zuo {H : Type} {enc : TypeId × Value -> H} {P : Program} {c : Cx} (hm : c.m = []) (hT : c.T = []) (hok : ∀ b e, c.ok b e) {spare : Nat -> Bool} {held : Bool} :
  ∀ (fuel n : Nat) (t : TypeId) (cs : List Value) (d : DataW H) (ps : List MemPlace), qb P n t = true -> DataW.trod enc P w 0 spare held fuel t cs = some (d, ps) -> Rd w c d cs /\
   (P.underlying t = some .bool \/ (∃ k, P.underlying t = some (.int k)) \/ P.underlying t = some .string \/ (∃ e, P.underlying t = some (.slice e)) \/ cs.length = P.cellsOf t) := by
 intro fuel
 induction fuel with
 | zero => intro n t cs d ps _ h; simp [DataW.trod] at h
 | succ fuel ih =>
  intro n t cs d ps hp h;cases n with
  | zero => simp [qb] at hp
  | succ n =>
   simp only [qb] at hp;cases hu : P.underlying t with
   | none => rw [hu] at hp; cases hp
   | some u =>
    rw [hu] at hp;cases u <;> simp only [kA] at hp
    ·-- bool
     refine ⟨?_, .inl rfl⟩;have hcase : ∃ b, cs = [.bool b] /\ d = .lit (.bool b) := by
      cases cs with
      | nil => simp [DataW.trod, hu] at h
      | cons v r => cases r <;> cases v <;> simp [DataW.trod, hu] at h ⊢; exact h.1.symm
     obtain ⟨b, rfl, rfl⟩ := hcase;refine ⟨rfl, fun q hq => by simp [yI] at hq; subst hq; rfl, ?_⟩
     simp only [yI, VRs];exact ⟨⟨_, rfl, yH rfl⟩, trivial⟩
    ·rename_i k;refine ⟨?_, .inr (.inl ⟨k, rfl⟩)⟩;have hcase : ∃ x, cs = [.int k x] /\ d = .lit (.int k x) := by
      cases cs with
      | nil => simp [DataW.trod, hu] at h
      | cons v r => cases r <;> cases v <;> simp [DataW.trod, hu] at h ⊢; obtain ⟨⟨h1, _⟩, h2, _⟩ := h; exact ⟨_, ⟨h1, rfl⟩, h2.symm⟩
     obtain ⟨x, rfl, rfl⟩ := hcase;refine ⟨rfl, fun q hq => by simp [yI] at hq; subst hq; rfl, ?_⟩
     simp only [yI, VRs];exact ⟨⟨_, rfl, yH rfl⟩, trivial⟩
    ·refine ⟨?_, .inr (.inr (.inl rfl))⟩;have hcase : ∃ x, cs = [.string x] /\ d = .lit (.string x.data.toList) := by
      cases cs with
      | nil => simp [DataW.trod, hu] at h
      | cons v r => cases r <;> cases v <;> simp [DataW.trod, hu] at h ⊢; exact h.2.1.symm
     obtain ⟨x, rfl, rfl⟩ := hcase;refine ⟨rfl, fun q hq => by simp [yI] at hq; subst hq; rfl, ?_⟩
     simp only [yI, VRs];exact ⟨⟨_, rfl, yH rfl⟩, trivial⟩
    ·-- a slice
     rename_i e;refine ⟨?_, .inr (.inr (.inr (.inl ⟨e, rfl⟩)))⟩;have hcase : (cs = [.slice none 0 0] /\ d = .nil) \/ ∃ a len cap, cs = [.slice (some a) len cap] /\ len <= cap /\ ∃ elems rest,
       (kI len).mapM (fun i => (w.cells? 0 (a.add (i * P.cellsOf e)) (P.cellsOf e)).bind (DataW.trod enc P w 0 spare held fuel e)) = some elems /\
       d = .slice (elems.map (·.1)) rest := by
      cases cs with
      | nil => simp [DataW.trod, hu] at h
      | cons v r =>
       cases r with
       | cons v2 r2 => cases v <;> simp [DataW.trod, hu] at h
       | nil =>
        cases v <;> try (simp [DataW.trod, hu] at h; done)
        rename_i a len cap;cases a with
        | none =>
         cases len <;> cases cap <;> simp [DataW.trod, hu] at h
         exact .inl ⟨rfl, h.1.symm⟩
        | some a =>
         simp only [DataW.trod, hu] at h;split at h <;> first | (cases h; done) | skip
         rename_i hc;obtain ⟨_, hlc, _⟩ := hc;cases hm1 : (kI len).mapM (fun i => (w.cells? 0 (a.add (i * P.cellsOf e)) (P.cellsOf e)).bind (DataW.trod enc P w 0 spare held fuel e)) with
         | none => rw [hm1] at h; cases h
         | some elems =>
          rw [hm1] at h;simp only [Option.bind_some] at h;rw [kE] at h;obtain ⟨rest, _, h2⟩ := h;cases h2;exact .inr ⟨a, len, cap, rfl, hlc, elems, _, hm1, rfl⟩
     rcases hcase with ⟨rfl, rfl⟩ | ⟨a, len, cap, rfl, hlc, elems, rest, hel, rfl⟩
     ·refine ⟨rfl, fun q hq => by simp [yI] at hq; subst hq; rfl, ?_⟩
      simp only [yI, VRs];exact ⟨⟨_, rfl, by simp only [VR]; exact .inl ⟨trivial, trivial, trivial, rfl⟩⟩, trivial⟩
     ·obtain ⟨hlen, hat⟩ := z2u hel;simp at hlen;have hcells : ∀ i, i < len -> ∃ ci x, w.cells? 0 (a.add (i * P.cellsOf e)) (P.cellsOf e) = some ci /\ elems[i]? = some x /\ DataW.trod enc P w 0 spare held fuel e ci = some x := by
       intro i hi;obtain ⟨x, h1, h2⟩ := hat i i (by simp [hi])
       rw [Option.bind_eq_some_iff] at h2;obtain ⟨ci, h3, h4⟩ := h2;exact ⟨ci, x, h3, h1, h4⟩
      let css : List (List Value) := (kI len).map fun i => (w.cells? 0 (a.add (i * P.cellsOf e)) (P.cellsOf e)).getD []
      have hcss : ∀ i, i < len -> css[i]? = some ((w.cells? 0 (a.add (i * P.cellsOf e)) (P.cellsOf e)).getD []) := fun i hi => by simp [css, hi]
      have hsz : ∀ cc, cc ∈ css -> cc.length = P.cellsOf e := by
       intro cc hcc;simp only [css, kY, List.mem_range] at hcc;obtain ⟨i, hi, rfl⟩ := hcc;obtain ⟨ci, x, h1, _, _⟩ := hcells i hi;rw [h1]; exact (z61 h1).1
      obtain ⟨h5, h6, h7⟩ := zhn (w := w) (c := c) (sz := P.cellsOf e) (ds := elems.map (·.1)) (css := css) (by simp [css, hlen]) (fun i d' cs' hd hc => by
       have hi : i < len := by
        have := (kB.1 hc).1; simpa [css] using this
       obtain ⟨ci, x, h1, h2, h3⟩ := hcells i hi;rw [kW, h2] at hd;simp at hd;rw [hcss i hi, h1] at hc;simp at hc;subst hc; subst hd;exact ⟨(ih n e ci x.1 x.2 hp h3).1, (z61 h1).1⟩)
      have hlen2 : (yx (elems.map (·.1))).length = len * P.cellsOf e := by rw [h5]; simp [hlen]
      have hlie : ∀ j, j < len * P.cellsOf e -> ∃ v, a.spot = none /\ w.cell? ⟨a.block, a.off + j, none⟩ = some v /\ css.flatten[j]? = some v := by
       intro j hj;have hpos : 0 < P.cellsOf e := by
        rcases Nat.eq_zero_or_pos (P.cellsOf e) with h0 | h0
        ·rw [h0] at hj; simp at hj
        ·exact h0
       have hi : j / P.cellsOf e < len := (kT hpos).2 hj;have hr : j % P.cellsOf e < P.cellsOf e := ka _ hpos;obtain ⟨ci, x, h1, _, _⟩ := hcells _ hi;obtain ⟨g1, g2⟩ := z61 h1;have hci : ∃ v, ci[j % P.cellsOf e]? = some v := ⟨ci[j % P.cellsOf e], by simp [g1, hr]⟩
       obtain ⟨v, hv⟩ := hci;have hcell : w.cell? ((a.add (j / P.cellsOf e * P.cellsOf e)).add (j % P.cellsOf e)) = some v := by rw [g2 _ hr, hv]
       have hfl : css.flatten[j]? = some v := by
        have := z8x (sz := P.cellsOf e) hsz (hcss _ hi) hr;rw [kL] at this;rw [this, h1]; exact hv
       by_cases hs : a.spot = none
       ·refine ⟨v, hs, ?_, hfl⟩;have e1 : ∀ k, a.add k = ⟨a.block, a.off + k, none⟩ := fun k => by
         cases a with
         | mk b o s => simp only at hs; subst hs; exact xz b o k
        rw [e1, xz] at hcell;have : a.off + j / P.cellsOf e * P.cellsOf e + j % P.cellsOf e = a.off + j := by
         rw [Nat.add_assoc, kL]
        rw [this] at hcell; exact hcell
       ·-- a place within no cell: the first cell couldn't be read
        exfalso;have h0 : 0 < len := Nat.lt_of_le_of_lt (Nat.zero_le _) hi;obtain ⟨c0, x0, q1, _, _⟩ := hcells 0 h0;obtain ⟨q2, q3⟩ := z61 q1;have := q3 0 hpos;have e0 : (a.add (0 * P.cellsOf e)).add 0 = a := by simp [Addr.add]
        rw [e0] at this;have hv0 : ∃ v0, c0[0]? = some v0 := ⟨c0[0], by simp [q2, hpos]⟩
        obtain ⟨v0, hv0⟩ := hv0;rw [hv0] at this;unfold World.cell? at this;have hsome : a.spot.isSome = true := by
         cases hsp : a.spot with
         | none => exact absurd hsp hs
         | some _ => rfl
        split at this
        ·rw [if_pos hsome] at this; cases this
        ·cases this
      refine ⟨rfl, fun q hq => by simp [yI] at hq; subst hq; rfl, ?_⟩
      simp only [yI, VRs];refine ⟨⟨_, rfl, ?_⟩, trivial⟩;simp only [VR];refine .inr ⟨a, cap, by simp [hlen], by simpa [hlen] using hlc, ?_, trivial, h6, zU fun j p hp' => ?_⟩
      ·rw [hlen2]
       by_cases h0 : len * P.cellsOf e = 0
       ·exact .inl h0
       ·obtain ⟨v, hs, hv, _⟩ := hlie 0 (Nat.pos_of_ne_zero h0);have hblt : a.block < w.heap.size := by
         unfold World.cell? at hv;split at hv
         ·rename_i hb; exact (Array.getElem?_eq_some_iff.1 hb).1
         ·cases hv
        exact .inr ⟨hs, hblt, by rw [hm]; simp, fun i k h => by rw [hT] at h; simp at h, hok _ _⟩
      ·have hj : j < len * P.cellsOf e := by
        have := (kB.1 hp').1;rw [hlen2] at this; exact this
       obtain ⟨v, _, hv, hf⟩ := hlie j hj;obtain ⟨v', h8, h9⟩ := zo h7 hp';rw [hf] at h8; cases h8;exact ⟨v, hv, h9⟩
    ·-- an array
     rename_i k e;simp only [kC, beq_iff_eq] at hp;obtain ⟨hpe, hsize⟩ := hp;have hcase : cs.length = P.cellsOf t /\ ∃ xs, (kI k).mapM (fun i => DataW.trod enc P w 0 spare held fuel e ((cs.drop (i * P.cellsOf e)).take (P.cellsOf e))) = some xs /\ d = .agg (xs.map (·.1)) := by
      have h' : (if cs.length = P.cellsOf t then ((kI k).mapM fun i => DataW.trod enc P w 0 spare held fuel e ((cs.drop (i * P.cellsOf e)).take (P.cellsOf e))).map fun xs => (.agg (xs.map (·.1)), xs.flatMap (·.2)) else none) = some (d, ps) := by
       simpa only [DataW.trod, hu] using h
      split at h' <;> first | (cases h'; done) | skip
      rename_i hl;rw [kE] at h';obtain ⟨xs, h1, h2⟩ := h';cases h2;exact ⟨hl, xs, h1, rfl⟩
     obtain ⟨hl, xs, hxs, rfl⟩ := hcase;refine ⟨?_, .inr (.inr (.inr (.inr hl)))⟩;obtain ⟨hlen, hat⟩ := z2u hxs;simp at hlen
     let css : List (List Value) := (kI k).map fun i => (cs.drop (i * P.cellsOf e)).take (P.cellsOf e)
     have hparts : ∀ i, i < k -> ((cs.drop (i * P.cellsOf e)).take (P.cellsOf e)).length = P.cellsOf e := by
      intro i hi;have : (i + 1) * P.cellsOf e <= k * P.cellsOf e := Nat.mul_le_mul_right _ hi;rw [k0, Nat.one_mul] at this;rw [List.length_take, List.length_drop, hl, hsize]; omega
     obtain ⟨h5, h6, h7⟩ := zhn (w := w) (c := c) (sz := P.cellsOf e) (ds := xs.map (·.1)) (css := css) (by simp [css, hlen]) (fun i d' cs' hd hc => by
      have hi : i < k := by
       have := (kB.1 hc).1; simpa [css] using this
      obtain ⟨x, h1, h2⟩ := hat i i (by simp [hi])
      rw [kW, h1] at hd;simp at hd;simp [css, hi] at hc;subst hc; subst hd;exact ⟨(ih n e _ x.1 x.2 hpe h2).1, hparts i hi⟩)
     have hfl : ∀ j, j < k * P.cellsOf e -> css.flatten[j]? = cs[j]? := by
      intro j hj;have hpos : 0 < P.cellsOf e := by
       rcases Nat.eq_zero_or_pos (P.cellsOf e) with h0 | h0
       ·rw [h0] at hj; simp at hj
       ·exact h0
      have hi : j / P.cellsOf e < k := (kT hpos).2 hj;have hr : j % P.cellsOf e < P.cellsOf e := ka _ hpos;have := z8x (sz := P.cellsOf e) (css := css) (fun c hc => by
       simp only [css, kY, List.mem_range] at hc;obtain ⟨i, hi, rfl⟩ := hc;exact hparts i hi) (show css[j / P.cellsOf e]? = some _ from by simp [css, hi]; rfl) hr
      rw [kL] at this;rw [this, List.getElem?_take, if_pos hr, kJ, kL]
     have hle : (xs.map (·.1)).length = k := by simp [hlen]
     refine ⟨by simp only [yI]; rw [h5, hle, hl, hsize], by simpa only [yI] using h6, ?_⟩
     simp only [yI];refine ve h7 fun j hj => hfl j (by rw [h5, hle] at hj; exact hj)
    ·-- a struct
     rename_i fs;simp only [kC] at hp;obtain ⟨hpf, htile⟩ := hp;have hcase : cs.length = P.cellsOf t /\ ∃ xs, fs.toList.mapM (fun f => DataW.trod enc P w 0 spare held fuel f.type ((cs.drop f.offset).take (P.cellsOf f.type))) = some xs /\ d = .agg (xs.map (·.1)) := by
      have h' : (if cs.length = P.cellsOf t then (fs.toList.mapM fun f => DataW.trod enc P w 0 spare held fuel f.type ((cs.drop f.offset).take (P.cellsOf f.type))).map fun xs => (.agg (xs.map (·.1)), xs.flatMap (·.2)) else none) = some (d, ps) := by
       simpa only [DataW.trod, hu] using h
      split at h' <;> first | (cases h'; done) | skip
      rename_i hl;rw [kE] at h';obtain ⟨xs, h1, h2⟩ := h';cases h2;exact ⟨hl, xs, h1, rfl⟩
     obtain ⟨hl, xs, hxs, rfl⟩ := hcase;refine ⟨?_, .inr (.inr (.inr (.inr hl)))⟩;have key : ∀ (gs : List Field) (off : Nat) (ys : List (DataW H × List MemPlace)), (∀ f, f ∈ gs -> qb P n f.type = true) -> vq P gs off (P.cellsOf t) = true ->
       gs.mapM (fun f => DataW.trod enc P w 0 spare held fuel f.type ((cs.drop f.offset).take (P.cellsOf f.type))) = some ys ->
       off + (yx (ys.map (·.1))).length = P.cellsOf t /\ zd (yx (ys.map (·.1))) /\ VRs w c (yx (ys.map (·.1))) (fun i => cs[off + i]?) := by
      intro gs
      induction gs with
      | nil =>
       intro off ys _ ht hm';simp at hm'; subst hm';simp only [vq, beq_iff_eq] at ht;exact ⟨by simpa [yx] using ht, fun q hq => by simp [yx] at hq, by simp only [List.map_nil, yx, VRs]⟩
      | cons f gs ihg =>
       intro off ys hpl ht hm';simp only [vq, kC, beq_iff_eq] at ht;obtain ⟨ho, ht⟩ := ht;rw [List.mapM_cons] at hm';cases hf : DataW.trod enc P w 0 spare held fuel f.type ((cs.drop f.offset).take (P.cellsOf f.type)) with
       | none => rw [hf] at hm'; cases hm'
       | some x =>
        rw [hf] at hm';cases hg : gs.mapM (fun f => DataW.trod enc P w 0 spare held fuel f.type ((cs.drop f.offset).take (P.cellsOf f.type))) with
        | none => rw [hg] at hm'; cases hm'
        | some zs =>
         rw [hg] at hm';simp at hm';subst hm';obtain ⟨⟨h1, h2, h3⟩, _⟩ := ih n f.type _ x.1 x.2 (hpl f (by simp)) hf
         obtain ⟨h4, h5, h6⟩ := ihg (off + P.cellsOf f.type) zs (fun g hg => hpl g (by simp [hg])) ht hg
         have hlf : ((cs.drop f.offset).take (P.cellsOf f.type)).length = P.cellsOf f.type := by
          simp; omega
         rw [hlf] at h1;refine ⟨by simp only [kQ, yx, List.length_append]; omega, fun q hq => ?_, ?_⟩
         ·simp only [kQ, yx, List.mem_append] at hq;exact hq.elim (h2 q) (h5 q)
         ·simp only [kQ, yx];refine z5z (ve h3 fun i hi => ?_) (ve h6 fun i hi => ?_)
          ·rw [List.getElem?_take, if_pos (by omega), kJ, ho]
          ·rw [h1, Nat.add_assoc]
     obtain ⟨h4, h5, h6⟩ := key fs.toList 0 xs (fun f hf => kK.1 hpf f hf) htile hxs
     refine ⟨by simp only [yI]; omega, by simpa only [yI] using h5, ?_⟩
     simp only [yI];exact ve h6 fun i hi => by rw [Nat.zero_add]
end Go.Ab
namespace Go.Ab
open Go.RowKit (Below)
open Go.ChangeShapes Go.WideShapes
def Fits {H : Type} (P : Program) : Nat -> TypeId -> DataW H -> Prop
 | 0, _, _ => False
 | n + 1, t, d =>
  match P.underlying t with
  | some .bool => ∃ b, d = .lit (.bool b)
  | some (.int k) => ∃ x, d = .lit (.int k x) /\ (Lit.int k x).wf = true
  | some .string => ∃ l, d = .lit (.string l) /\ l.length <= maxLen
  | some (.slice e) => d = .nil \/ ∃ es sp, d = .slice es sp /\ es.length <= maxLen /\ ∀ x, x ∈ es -> Fits P n e x
  | some (.array k e) => ∃ xs, d = .agg xs /\ xs.length = k /\ ∀ x, x ∈ xs -> Fits P n e x
  | some (.struct fs) => ∃ xs, d = .agg xs /\ xs.length = fs.size /\ ∀ (i : Nat) f x, fs[i]? = some f -> xs[i]? = some x -> Fits P n f.type x
  | _ => False
variable {H : Type}
theorem zri {enc : TypeId × Value -> H} {P : Program} {w : World} {spare : Nat -> Bool} {held : Bool} :
  ∀ (fuel n : Nat) (t : TypeId) (cs : List Value) (d : DataW H) (ps : List MemPlace), qb P n t = true -> DataW.trod enc P w 0 spare held fuel t cs = some (d, ps) -> Fits P n t d := by
 intro fuel
 induction fuel with
 | zero => intro n t cs d ps _ h; simp [DataW.trod] at h
 | succ fuel ih =>
  intro n t cs d ps hp h;cases n with
  | zero => simp [qb] at hp
  | succ n =>
   simp only [qb] at hp;simp only [Fits];cases hu : P.underlying t with
   | none => rw [hu] at hp; cases hp
   | some u =>
    rw [hu] at hp;cases u <;> simp only [kA] at hp ⊢
    ·cases cs with
     | nil => simp [DataW.trod, hu] at h
     | cons v r => cases r <;> cases v <;> simp [DataW.trod, hu] at h; exact ⟨_, h.1.symm⟩
    ·cases cs with
     | nil => simp [DataW.trod, hu] at h
     | cons v r =>
      cases r <;> cases v <;> simp [DataW.trod, hu] at h ⊢
      obtain ⟨⟨h1, h0⟩, h2, _⟩ := h; exact ⟨_, h2.symm, h0⟩
    ·cases cs with
     | nil => simp [DataW.trod, hu] at h
     | cons v r => cases r <;> cases v <;> simp [DataW.trod, hu] at h ⊢; exact ⟨_, h.2.1.symm, by simpa using h.1⟩
    ·rename_i e;cases cs with
     | nil => simp [DataW.trod, hu] at h
     | cons v r =>
      cases r with
      | cons v2 r2 => cases v <;> simp [DataW.trod, hu] at h
      | nil =>
       cases v <;> try (simp [DataW.trod, hu] at h; done)
       rename_i a len cap;cases a with
       | none =>
        cases len <;> cases cap <;> simp [DataW.trod, hu] at h
        exact .inl h.1.symm
       | some a =>
        simp only [DataW.trod, hu] at h;split at h <;> first | (cases h; done) | skip
        rename_i hcap;cases hm1 : (kI len).mapM (fun i => (w.cells? 0 (a.add (i * P.cellsOf e)) (P.cellsOf e)).bind (DataW.trod enc P w 0 spare held fuel e)) with
        | none => rw [hm1] at h; cases h
        | some elems =>
         rw [hm1] at h;simp only [Option.bind_some] at h;rw [kE] at h;obtain ⟨rest, _, h2⟩ := h;cases h2;obtain ⟨hlen, hat⟩ := z2u hm1;refine .inr ⟨_, _, rfl, by rw [List.length_map, hlen, List.length_range]; omega, fun x hx => ?_⟩
         rw [kY] at hx;obtain ⟨y, hy, rfl⟩ := hx;obtain ⟨i, hi⟩ := List.mem_iff_getElem?.1 hy;have hil : i < len := by have := (kB.1 hi).1; simpa [hlen] using this
         obtain ⟨z, h3, h4⟩ := hat i i (by simp [hil])
         rw [hi] at h3; cases h3;rw [Option.bind_eq_some_iff] at h4;obtain ⟨ci, _, h5⟩ := h4;exact ih n e ci y.1 y.2 hp h5
    ·rename_i k e;simp only [kC, beq_iff_eq] at hp;have h' : (if cs.length = P.cellsOf t then ((kI k).mapM fun i => DataW.trod enc P w 0 spare held fuel e ((cs.drop (i * P.cellsOf e)).take (P.cellsOf e))).map fun xs => (.agg (xs.map (·.1)), xs.flatMap (·.2)) else none) = some (d, ps) := by
      simpa only [DataW.trod, hu] using h
     split at h' <;> first | (cases h'; done) | skip
     rw [kE] at h';obtain ⟨xs, h1, h2⟩ := h';cases h2;obtain ⟨hlen, hat⟩ := z2u h1;refine ⟨_, rfl, by simpa using hlen, fun x hx => ?_⟩
     rw [kY] at hx;obtain ⟨y, hy, rfl⟩ := hx;obtain ⟨i, hi⟩ := List.mem_iff_getElem?.1 hy;have hil : i < k := by have := (kB.1 hi).1; simpa [hlen] using this
     obtain ⟨z, h3, h4⟩ := hat i i (by simp [hil])
     rw [hi] at h3; cases h3;exact ih n e _ y.1 y.2 hp.1 h4
    ·rename_i fs;simp only [kC] at hp;have h' : (if cs.length = P.cellsOf t then (fs.toList.mapM fun f => DataW.trod enc P w 0 spare held fuel f.type ((cs.drop f.offset).take (P.cellsOf f.type))).map fun xs => (.agg (xs.map (·.1)), xs.flatMap (·.2)) else none) = some (d, ps) := by
      simpa only [DataW.trod, hu] using h
     split at h' <;> first | (cases h'; done) | skip
     rw [kE] at h';obtain ⟨xs, h1, h2⟩ := h';cases h2;obtain ⟨hlen, hat⟩ := z2u h1;refine ⟨_, rfl, by simpa using hlen, fun i f x hf hx => ?_⟩
     rw [kW] at hx;cases hy : xs[i]? with
     | none => rw [hy] at hx; cases hx
     | some y =>
      rw [hy] at hx; simp at hx; subst hx;obtain ⟨z, h3, h4⟩ := hat i f (by simpa using hf)
      rw [hy] at h3; cases h3;exact ih n f.type _ y.1 y.2 (kK.1 hp.1 f (by simpa using Array.mem_of_getElem? hf)) h4
def z1h (P : Program) (t : TypeId) (d : DataW H) : PV := bif xM P t == some true then .agg (yI d) else (yI d).headD .dead
def cx0 : Cx := { m := [], T := [], ok := fun _ _ => True }
theorem ztw {enc : TypeId × Value -> H} {P : Program} {w : World} {n : Nat} {t : TypeId} {v : Value} {d : DataW H} {ps : List MemPlace} {spare : Nat -> Bool} {held : Bool} {base : Nat} (hp : qb P n t = true)
  (hv : Value.okWide P w .any base t v) (h : DataW.Trod enc P w 0 spare held t v d ps) : VR w cx0 (z1h P t d) v := by
 obtain ⟨fuel, hf⟩ := h;obtain ⟨⟨h1, h2, h3⟩, _⟩ := zuo (w := w) (c := cx0) rfl rfl (fun _ _ => trivial) fuel n t _ d ps hp hf
 have leafy : xM P t = some false -> v.cells = #[v] -> VR w cx0 (z1h P t d) v := by
  intro ha hc;rw [hc] at h1 h3;unfold z1h;rw [ha];cases hcd : yI d with
  | nil => rw [hcd] at h1; simp at h1
  | cons p r =>
   rw [hcd] at h3;simp only [VRs] at h3;obtain ⟨⟨u, hu, hr⟩, _⟩ := h3;simp at hu; subst hu;exact hr
 cases n with
 | zero => simp [qb] at hp
 | succ n =>
  simp only [qb] at hp;cases hu : P.underlying t with
  | none => rw [hu] at hp; cases hp
  | some u =>
   rw [hu] at hp;cases u <;> simp only [kA] at hp
   ·obtain ⟨b, rfl⟩ := okWide_bool hu hv;exact leafy (by simp [xM, hu]) rfl
   ·obtain ⟨x, rfl⟩ := okWide_int hu hv;exact leafy (by simp [xM, hu]) rfl
   ·obtain ⟨x, rfl⟩ := okWide_string hu hv;exact leafy (by simp [xM, hu]) rfl
   ·obtain ⟨a, l, c, rfl⟩ := okWide_slice hu hv;exact leafy (by simp [xM, hu]) rfl
   ·have ha : xM P t = some true := by simp [xM, hu]
    simp only [Value.okWide, hu] at hv;obtain ⟨cs, rfl, _⟩ := hv;unfold z1h; rw [ha];simp only [BEq.rfl, cond_true, VR];exact ⟨cs, rfl, by simpa [Value.cells] using h1.symm, h2, by simpa [Value.cells] using h3⟩
   ·have ha : xM P t = some true := by simp [xM, hu]
    simp only [Value.okWide, hu] at hv;obtain ⟨cs, rfl, _⟩ := hv;unfold z1h; rw [ha];simp only [BEq.rfl, cond_true, VR];exact ⟨cs, rfl, by simpa [Value.cells] using h1.symm, h2, by simpa [Value.cells] using h3⟩
theorem zjt {H : Type} {enc : TypeId × Value -> H} {P : Program} {w : World} {n : Nat} {spare : Nat -> Bool} {held : Bool} {base : Nat} : ∀ {ts : List TypeId} {vs : List Value} {ds : List (DataW H)} {ps : List MemPlace},
  DataW.TrodAll enc P w 0 spare held ts vs ds ps -> (∀ t, t ∈ ts -> qb P n t = true) -> (∀ (j : Nat) t v, ts[j]? = some t -> vs[j]? = some v -> Value.okWide P w .any base t v) ->
  vs.length = (k9 (z1h P) ts ds).length /\ VRs w cx0 (k9 (z1h P) ts ds) (fun i => vs[i]?)
 | [], vs, ds, ps, h, _, _ => by
  cases vs <;> cases ds <;> simp [DataW.TrodAll] at h
  exact ⟨rfl, by simp only [List.zipWith_nil_left, VRs]⟩
 | t :: ts, vs, ds, ps, h, hp, hv => by
  obtain ⟨v, vs', d, ds', p, q, rfl, rfl, rfl, h1, h2⟩ := trodAll_cons h;obtain ⟨h3, h4⟩ := zjt h2 (fun t ht => hp t (by simp [ht])) (fun j t v ht hv' => hv (j + 1) t v (by simpa using ht) (by simpa using hv'))
  refine ⟨by simp only [List.zipWith_cons_cons, kR, h3], ?_⟩
  simp only [List.zipWith_cons_cons, VRs];exact ⟨⟨v, rfl, ztw (hp t (by simp)) (hv 0 t v rfl rfl) h1⟩, by simpa using h4⟩
theorem zjs {H : Type} {enc : TypeId × Value -> H} {P : Program} {w : World} {n : Nat} {spare : Nat -> Bool} {held : Bool} : ∀ {ts : List TypeId} {vs : List Value} {ds : List (DataW H)} {ps : List MemPlace},
  DataW.TrodAll enc P w 0 spare held ts vs ds ps -> (∀ t, t ∈ ts -> qb P n t = true) -> ∀ (j : Nat) t d, ts[j]? = some t -> ds[j]? = some d -> Fits P n t d
 | [], vs, ds, ps, h, _, j, t, d, ht, _ => by simp at ht
 | t :: ts, vs, ds, ps, h, hp, j, t', d', ht, hd => by
  obtain ⟨v, vs', d, ds', p, q, rfl, rfl, rfl, h1, h2⟩ := trodAll_cons h;cases j with
  | zero =>
   simp at ht hd; subst ht; subst hd;obtain ⟨fuel, hf⟩ := h1;exact zri fuel n t _ d p (hp t (by simp)) hf
  | succ j => exact zjs h2 (fun t ht => hp t (by simp [ht])) j t' d' (by simpa using ht) (by simpa using hd)
theorem zrz (w : World) (hs : gb <= w.heap.size) (hg : Glob w) : Good w cx0 [] (List.replicate 0 false) where
 len := rfl
 inj := fun i j k h => by simp [cx0] at h
 obj := fun b o h => by simp at h
 tl := rfl
 tal := fun i h => by simp at h
 tdead := fun i h => by simp at h
 tok := fun i k j h => by simp [cx0] at h
 tinj := fun i i' k j j' h => by simp [cx0] at h
 okn := fun _ _ _ => trivial
 okm := fun _ _ _ _ _ => trivial
 okt := fun _ _ _ _ _ => trivial
 oko := fun _ _ _ _ _ => trivial
 gl := ⟨hs, fun k h => by simp [cx0] at h, fun i k j h => by simp [cx0] at h, hg⟩
theorem zqa {enc : TypeId × Value -> H} {P : Program} {f : FuncId} {W : World} {n : Nat} {spare : Nat -> Bool} {held : Bool} {base : Nat} {ts : List TypeId} {args : Array Value} {ds : List (DataW H)}
  {ps : List MemPlace} (hA : DataW.TrodAll enc P W 0 spare held ts args.toList ds ps) (hp : ∀ t, t ∈ ts -> qb P n t = true)
  (hv : ∀ (j : Nat) t v, ts[j]? = some t -> args[j]? = some v -> Value.okWide P W .any base t v)
  (hs : gb <= W.heap.size) (hg : Glob W) (hc : ACalls P f (k9 (z1h P) ts ds) [] 0 (fun p _ _ => p = .val (.bool true))) :
  Calls P f args W fun e W' => e = .returned (.bool true) /\ Below W.heap.size W W' := by
 obtain ⟨h1, h2⟩ := zjt hA hp (fun j t v ht hv' => hv j t v ht (by simpa using hv'))
 refine (hc W cx0 args (zrz W hs hg) rfl (by simpa using h1) (by simpa using h2)).mono ?_
 rintro e W' ⟨v, p, H', ts', c', rfl, rfl, _, hvr, x⟩;rw [qP] at hvr;refine ⟨by rw [hvr.1], x.os, x.tape, x.output, x.size, fun k hk => x.blocks k hk (by simp [cx0]) (fun i j h => by simp [cx0] at h)⟩
theorem zfd {H : Type} {enc : TypeId × Value -> H} {P : Program} {W W' : World} (hl : laidOutB P = true) (bel : Below W.heap.size W W') : ∀ {ts : List TypeId} {vs : List Value} {ds : List (DataW H)} {ps : List MemPlace},
  DataW.TrodAll enc P W 0 (fun _ => true) true ts vs ds ps -> (∀ t, t ∈ ts -> P.readableRec t = true /\ t < P.types.size) ->
  DataW.TrodAll enc P W' 0 (fun b => decide (b < W.heap.size)) true ts vs ds ps
 | [], vs, ds, ps, h, _ => by
  cases vs <;> cases ds <;> simp [DataW.TrodAll] at h
  subst h; rfl
 | t :: ts, vs, ds, ps, h, hp => by
  obtain ⟨v, vs', d, ds', p, q, rfl, rfl, rfl, h1, h2⟩ := trodAll_cons h;have hlt : ∀ x ∈ p, x.block < W.heap.size := by obtain ⟨m, hm⟩ := h1; exact DataW.trod_lt m _ _ _ hm
  exact trodAll_cons_mk (Below.trod hl (hp t (by simp)).1 (hp t (by simp)).2 h1 bel hlt) (zfd hl bel h2 (fun t ht => hp t (by simp [ht])))
end Go.Ab
set_option linter.unusedSimpArgs false
set_option linter.unusedVariables false
namespace Go.Ab
def z8v (P : Program) : Nat -> TypeId -> Bool
 | 0, _ => false
 | n + 1, t =>
  match P.underlying t with
  | some .bool | some (.int _) | some .string => true
  | some (.array k e) => z8v P n e && P.cellsOf t == k * P.cellsOf e
  | some (.struct fs) => fs.toList.all (fun f => f.name != "_" && z8v P n f.type) && vq P fs.toList 0 (P.cellsOf t) && !P.stoodInHeld t
  | _ => false
def xA (P : Program) : Nat -> TypeId -> List Value -> Prop
 | 0, _, _ => False
 | n + 1, t, cs =>
  match P.underlying t with
  | some .bool => ∃ b, cs = [.bool b]
  | some (.int k) => ∃ x, cs = [.int k x]
  | some .string => ∃ s, cs = [.string s]
  | some (.array k e) => cs.length = P.cellsOf t /\ ∀ i, i < k -> xA P n e ((cs.drop (i * P.cellsOf e)).take (P.cellsOf e))
  | some (.struct fs) => cs.length = P.cellsOf t /\ ∀ f, f ∈ fs.toList -> xA P n f.type ((cs.drop f.offset).take (P.cellsOf f.type))
  | _ => False
theorem zpz {α : Type} {xs ys : List α} {n c : Nat} (hx : xs.length = n * c) (hy : ys.length = n * c) (h : ∀ i, i < n -> (xs.drop (i * c)).take c = (ys.drop (i * c)).take c) : xs = ys := by
 refine kU fun j => ?_
 by_cases hj : j < n * c
 ·have hc : 0 < c := Nat.pos_of_ne_zero fun e => by subst e; simp at hj
  have hi : j / c < n := by rw [kT hc]; exact hj
  have := congrArg (fun l => l[j % c]?) (h (j / c) hi)
  simp only [List.getElem?_take_of_lt (ka j hc), kJ] at this;have e : j / c * c + j % c = j := kL j c;rw [e] at this; exact this
 ·rw [kF (by omega), kF (by omega)]
theorem zit {α : Type} {P : Program} {xs ys : List α} : ∀ {fs : List Field} {off n : Nat}, vq P fs off n = true -> (∀ f, f ∈ fs -> (xs.drop f.offset).take (P.cellsOf f.type) = (ys.drop f.offset).take (P.cellsOf f.type)) ->
  ∀ j, off <= j -> j < n -> xs[j]? = ys[j]?
 | [], off, n, ht, _, j, h1, h2 => by simp [vq] at ht; omega
 | f :: fs, off, n, ht, h, j, h1, h2 => by
  simp only [vq, kC, beq_iff_eq] at ht;obtain ⟨rfl, ht⟩ := ht
  by_cases hj : j < f.offset + P.cellsOf f.type
  ·have := congrArg (fun l => l[j - f.offset]?) (h f (by simp))
   simp only [List.getElem?_take_of_lt (show j - f.offset < P.cellsOf f.type by omega), kJ] at this
   rw [show f.offset + (j - f.offset) = j by omega] at this; exact this
  ·exact zit ht (fun g hg => h g (by simp [hg])) j (by omega) h2
section
variable {P : Program} (w : World)
theorem z8f {e : TypeId} {n off : Nat} {xs : Array Value} (ha : xA P n e ((xs.toList.drop off).take (P.cellsOf e))) :
  ∃ a, (part e xs off).run P w = .ok a w /\ a.formed P e = true /\ a.cells.toList = (xs.toList.drop off).take (P.cellsOf e) := by
 cases n with
 | zero => cases ha
 | succ n =>
  simp only [xA] at ha;cases hu : P.underlying e with
  | none => rw [hu] at ha; cases ha
  | some kd =>
   rw [hu] at ha;have agg : (match kd with | .array _ _ | .struct _ => true | _ => false) = true -> ((xs.toList.drop off).take (P.cellsOf e)).length = P.cellsOf e ->
     ∃ a, (part e xs off).run P w = .ok a w /\ a.formed P e = true /\ a.cells.toList = (xs.toList.drop off).take (P.cellsOf e) := fun hk hlen => by
    obtain ⟨i, hi⟩ := info_of_underlying hu;have hl : (xs.extract off (off + P.cellsOf e)).toList = (xs.toList.drop off).take (P.cellsOf e) := by
     rw [Array.toList_extract]; simp [List.extract]
    have hs : (xs.extract off (off + P.cellsOf e)).size = P.cellsOf e := by rw [<- Array.length_toList, hl, hlen]
    refine ⟨.agg (xs.extract off (off + P.cellsOf e)), ?_, ?_, hl⟩
    ·cases kd <;> simp at hk <;> simp [part, isAgg, Go.run_underlying hu, Go.run_sizeOf w hi]
    ·cases kd <;> simp at hk <;> simp [Value.formed, hu, hs]
   cases kd <;> simp only at ha
   ·obtain ⟨b, hb⟩ := ha;exact ⟨Value.bool b, by simp [part, isAgg, Go.run_underlying hu, getElem?_of_chunk hb], by simp [Value.formed, hu], by rw [hb]; rfl⟩
   ·rename_i q;obtain ⟨b, hb⟩ := ha;exact ⟨Value.int q b, by simp [part, isAgg, Go.run_underlying hu, getElem?_of_chunk hb], by simp [Value.formed, hu], by rw [hb]; rfl⟩
   ·obtain ⟨b, hb⟩ := ha;exact ⟨Value.string b, by simp [part, isAgg, Go.run_underlying hu, getElem?_of_chunk hb], by simp [Value.formed, hu], by rw [hb]; rfl⟩
   ·exact agg rfl ha.1
   ·exact agg rfl ha.1
def EqS (P : Program) (dd n : Nat) (e : TypeId) : Prop :=
 ∀ (w : World) (a b : Value), a.formed P e = true -> b.formed P e = true -> xA P n e a.cells.toList -> xA P n e b.cells.toList ->
  ∃ r : Bool, (Op.equalIn dd e a b).run P w = .ok r w /\ (r = true ↔ a.cells.toList = b.cells.toList)
theorem z8g {e : TypeId} {dd n off : Nat} (IH : EqS P dd n e) {xs ys : Array Value}
  (ha : xA P n e ((xs.toList.drop off).take (P.cellsOf e))) (hb : xA P n e ((ys.toList.drop off).take (P.cellsOf e))) :
  ∃ a b r, (part e xs off).run P w = .ok a w /\ (part e ys off).run P w = .ok b w /\ (Op.equalIn dd e a b).run P w = .ok r w /\
   (r = true ↔ (xs.toList.drop off).take (P.cellsOf e) = (ys.toList.drop off).take (P.cellsOf e)) := by
 obtain ⟨a, p1, f1, c1⟩ := z8f w ha;obtain ⟨b, p2, f2, c2⟩ := z8f w hb;obtain ⟨r, hr, hiff⟩ := IH w a b f1 f2 (by rw [c1]; exact ha) (by rw [c2]; exact hb)
 exact ⟨a, b, r, p1, p2, hr, by rw [hiff, c1, c2]⟩
theorem z44 (dd n : Nat) (xs ys : Array Value) : ∀ (fs : List Field), (∀ f ∈ fs, f.name ≠ "_" /\ EqS P dd n f.type) ->
  (∀ f ∈ fs, xA P n f.type ((xs.toList.drop f.offset).take (P.cellsOf f.type))) -> (∀ f ∈ fs, xA P n f.type ((ys.toList.drop f.offset).take (P.cellsOf f.type))) ->
  ∃ r : Bool, (Op.eqFields dd xs ys fs).run P w = .ok r w /\ (r = true ↔ ∀ f ∈ fs, (xs.toList.drop f.offset).take (P.cellsOf f.type) = (ys.toList.drop f.offset).take (P.cellsOf f.type))
 | [], _, _, _ => ⟨true, by simp [Op.eqFields], by simp⟩
 | f :: fs, hall, ha, hb => by
  obtain ⟨hn, hp⟩ := hall f (by simp)
  obtain ⟨a, b, r, p1, p2, p3, hiff⟩ := z8g w hp (ha f (by simp)) (hb f (by simp))
  obtain ⟨r', hr', hiff'⟩ := z44 dd n xs ys fs (fun g hg => hall g (by simp [hg])) (fun g hg => ha g (by simp [hg])) (fun g hg => hb g (by simp [hg]))
  simp only [Op.eqFields, hn, ne_eq, not_false_eq_true, if_true, kH, p1, p2, p3, kD];cases r
  ·exact ⟨false, by simp, ⟨fun h => (by cases h), fun h => hiff.2 (h f (by simp))⟩⟩
  ·refine ⟨r', by simpa using hr', ?_⟩
   rw [hiff'];exact ⟨fun h g hg => (List.mem_cons.1 hg).elim (fun e => by subst e; exact hiff.1 rfl) (h g), fun h g hg => h g (by simp [hg])⟩
theorem z5g (dd n : Nat) {e : TypeId} (IH : EqS P dd n e) (xs ys : Array Value) : ∀ (is : List Nat),
  (∀ i ∈ is, xA P n e ((xs.toList.drop (i * P.cellsOf e)).take (P.cellsOf e))) -> (∀ i ∈ is, xA P n e ((ys.toList.drop (i * P.cellsOf e)).take (P.cellsOf e))) ->
  ∃ r : Bool, (Op.eqItems dd e (P.cellsOf e) xs ys is).run P w = .ok r w /\ (r = true ↔ ∀ i ∈ is, (xs.toList.drop (i * P.cellsOf e)).take (P.cellsOf e) = (ys.toList.drop (i * P.cellsOf e)).take (P.cellsOf e))
 | [], _, _ => ⟨true, by simp [Op.eqItems], by simp⟩
 | i :: is, ha, hb => by
  obtain ⟨a, b, r, p1, p2, p3, hiff⟩ := z8g w IH (ha i (by simp)) (hb i (by simp))
  obtain ⟨r', hr', hiff'⟩ := z5g dd n IH xs ys is (fun g hg => ha g (by simp [hg])) (fun g hg => hb g (by simp [hg]))
  simp only [Op.eqItems, kH, p1, p2, p3, kD];cases r
  ·exact ⟨false, by simp, ⟨fun h => (by cases h), fun h => hiff.2 (h i (by simp))⟩⟩
  ·refine ⟨r', by simpa using hr', ?_⟩
   rw [hiff'];exact ⟨fun h g hg => (List.mem_cons.1 hg).elim (fun e => by subst e; exact hiff.1 rfl) (h g), fun h g hg => h g (by simp [hg])⟩
end
theorem zc1 {P : Program} (d : Nat) : ∀ (n : Nat) (t : TypeId), z8v P n t = true -> EqS P (d + n) n t
 | 0, _, h => by cases h
 | n + 1, t, hk => by
  intro w x y fx fy hx hy;simp only [z8v] at hk;simp only [xA] at hx hy;cases hu : P.underlying t with
  | none => rw [hu] at hk; cases hk
  | some kd =>
   rw [hu] at hk hx hy;cases kd <;> simp only [kA] at hk hx hy
   ·obtain ⟨a, ha⟩ := hx;obtain ⟨b, hb⟩ := hy;have hxv : x = .bool a := by cases x <;> simp_all [Value.cells, Value.formed]
    have hyv : y = .bool b := by cases y <;> simp_all [Value.cells, Value.formed]
    subst hxv; subst hyv;exact ⟨a == b, run_equalIn_bool w (d + n) t a b hu, by simp [Value.cells]⟩
   ·rename_i q;obtain ⟨a, ha⟩ := hx;obtain ⟨b, hb⟩ := hy;have hxv : x = .int q a := by cases x <;> simp_all [Value.cells, Value.formed]
    have hyv : y = .int q b := by cases y <;> simp_all [Value.cells, Value.formed]
    subst hxv; subst hyv;exact ⟨a == b, run_equalIn_int w (d + n) t q q a b hu, by simp [Value.cells]⟩
   ·obtain ⟨a, ha⟩ := hx;obtain ⟨b, hb⟩ := hy;have hxv : x = .string a := by cases x <;> simp_all [Value.cells, Value.formed]
    have hyv : y = .string b := by cases y <;> simp_all [Value.cells, Value.formed]
    subst hxv; subst hyv;exact ⟨a.toList == b.toList, run_equalIn_string w (d + n) t a b hu, by
     simp [Value.cells, ByteArray.toList_eq];exact ⟨fun h => by cases a; cases b; simpa using h, fun h => by rw [h]⟩⟩
   ·rename_i k e;simp only [kC, beq_iff_eq] at hk;cases x <;> simp only [Value.formed, hu, kA] at fx
    cases y <;> simp only [Value.formed, hu, kA] at fy
    rename_i xs ys;have hpe : ∃ i, P.info? e = some i := by
     cases n with
     | zero => simp [z8v] at hk
     | succ m =>
      have h1 := hk.1;simp only [z8v] at h1;cases hue : P.underlying e with
      | none => simp [hue] at h1
      | some _ => exact info_of_underlying hue
    obtain ⟨i, hi⟩ := hpe;simp only [Value.cells] at hx hy ⊢;obtain ⟨r, hr, hiff⟩ := z5g w (d + n) n (zc1 d n e hk.1) xs ys (kI k) (fun i hi => hx.2 i (by simpa using hi)) (fun i hi => hy.2 i (by simpa using hi))
    refine ⟨r, by rw [show d + (n + 1) = (d + n) + 1 from rfl, run_equalIn_array w (d + n) xs ys hu hi]; exact hr, ?_⟩
    rw [hiff];exact ⟨fun h => zpz (by rw [hx.1, hk.2]) (by rw [hy.1, hk.2]) fun i hi => h i (by simpa using hi), fun h i _ => by rw [h]⟩
   ·rename_i fs;simp only [kC, Bool.not_eq_true'] at hk;cases x <;> simp only [Value.formed, hu, kA] at fx
    cases y <;> simp only [Value.formed, hu, kA] at fy
    rename_i xs ys;simp only [Value.cells] at hx hy ⊢;have hfs : P.fieldsOf t = fs := by simp [Program.fieldsOf, hu]
    obtain ⟨r, hr, hiff⟩ := z44 w (d + n) n xs ys fs.toList (fun f hf => by
     have := kK.1 hk.1.1 f hf;simp only [kC, bne_iff_ne, ne_eq] at this;exact ⟨this.1, zc1 d n f.type this.2⟩) hx.2 hy.2
    refine ⟨r, by rw [show d + (n + 1) = (d + n) + 1 from rfl, run_equalIn_struct w (d + n) t xs ys (by rw [hfs]; exact hu) hk.2, hfs]; exact hr, ?_⟩
    rw [hiff];refine ⟨fun h => kU fun j => ?_, fun h f _ => by rw [h]⟩
    by_cases hj : j < P.cellsOf t
    ·exact zit hk.1.2 h j (by omega) hj
    ·rw [kF (by rw [hx.1]; omega), kF (by rw [hy.1]; omega)]
theorem zjp {w : World} {c : Cx} : ∀ {vs : List Value} {f : Nat -> Option Value}, VRs w c (vs.map PV.val) f -> ∀ i, i < vs.length -> f i = vs[i]?
 | [], f, h, i, hi => by simp at hi
 | v :: vs, f, h, i, hi => by
  simp only [kQ, VRs] at h;obtain ⟨⟨u, hu, hr⟩, h2⟩ := h;rw [qP] at hr;cases i with
  | zero => rw [hu, hr.1]; rfl
  | succ i => simpa using zjp h2 i (by simpa using hi)
theorem za8 {w : World} {c : Cx} {vs : List Value} {v : Value} (h : VR w c (.agg (vs.map PV.val)) v) : v = .agg vs.toArray := by
 simp only [VR] at h;obtain ⟨cs, rfl, hl, _, hv⟩ := h;congr 1;rw [<- Array.toList_inj];refine kU fun i => ?_
 have hl' : cs.toList.length = vs.length := by simpa using hl
 by_cases hi : i < vs.length
 ·have := zjp hv i hi;simpa using this
 ·rw [kF (by rw [hl']; omega), kF (by simp; omega)]
theorem zfo {P : Program} {w : World} {n : Nat} {t : TypeId} {vs us : List Value} {r : Bool} (hn : n <= 10000) (ht : z8v P n t = true) (ha : xM P t = some true) (h1 : xA P n t vs) (h2 : xA P n t us) (hr : r = true ↔ vs = us) :
  (Op.equalIn 10000 t (.agg vs.toArray) (.agg us.toArray)).run P w = .ok r w := by
 have form : ∀ ws : List Value, xA P n t ws -> (Value.agg ws.toArray).formed P t = true := fun ws hs => by
  cases n with
  | zero => cases hs
  | succ n =>
   simp only [xA] at hs;unfold xM at ha;cases hu : P.underlying t with
   | none => rw [hu] at ha; cases ha
   | some kd =>
    rw [hu] at ha hs;cases kd <;> simp at ha <;> simp only at hs <;> simp [Value.formed, hu, hs.1]
 obtain ⟨r', hr', hiff⟩ := zc1 (P := P) (10000 - n) n t ht w (.agg vs.toArray) (.agg us.toArray) (form _ h1) (form _ h2) (by simpa [Value.cells] using h1) (by simpa [Value.cells] using h2)
 rw [show 10000 - n + n = 10000 by omega] at hr'
 have : r' = r := by
  rw [Bool.eq_iff_iff, hiff, hr]; simp [Value.cells]
 rw [<- this]; exact hr'
theorem zub {P : Program} {o : Oper} {σ : AS} {n : Nat} {t yt : TypeId} {x y : Operand} {vs us : List Value} {r : Bool} (ho : o.op = .binOp .eql t x y yt) (hg : P.eqGuardType P.depth t = false) (hn : n <= 10000) (ht : z8v P n t = true)
  (ha : xM P t = some true) (hx : σ.eval x = .agg (vs.map PV.val)) (hy : σ.eval y = .agg (us.map PV.val)) (h1 : xA P n t vs) (h2 : xA P n t us) (hr : r = true ↔ vs = us) : QStep P o σ (.val (.bool r)) :=
 zP fun w c a hR => ⟨_, by
  have e1 : a.eval x = .agg vs.toArray := za8 (hx ▸ hR.2.eval x);have e2 : a.eval y = .agg us.toArray := za8 (hy ▸ hR.2.eval y);simp only [execOp, ho, e1, e2, kH, run_eqGuard_agg w .eql t x y vs.toArray us.toArray hg, kD];rw [run_eql_struct, zfo hn ht ha h1 h2 hr]; rfl, qP.2 ⟨rfl, rfl⟩⟩
theorem zud {P : Program} {o : Oper} {σ : AS} {n : Nat} {t yt : TypeId} {x y : Operand} {vs us : List Value} {r : Bool} (ho : o.op = .binOp .neq t x y yt) (hg : P.eqGuardType P.depth t = false) (hn : n <= 10000) (ht : z8v P n t = true)
  (ha : xM P t = some true) (hx : σ.eval x = .agg (vs.map PV.val)) (hy : σ.eval y = .agg (us.map PV.val)) (h1 : xA P n t vs) (h2 : xA P n t us) (hr : r = true ↔ vs = us) : QStep P o σ (.val (.bool (!r))) :=
 zP fun w c a hR => ⟨_, by
  have e1 : a.eval x = .agg vs.toArray := za8 (hx ▸ hR.2.eval x);have e2 : a.eval y = .agg us.toArray := za8 (hy ▸ hR.2.eval y);simp only [execOp, ho, e1, e2, kH, run_eqGuard_agg w .neq t x y vs.toArray us.toArray hg, kD];rw [run_neq_struct, zfo hn ht ha h1 h2 hr]; rfl, qP.2 ⟨rfl, rfl⟩⟩
end Go.Ab
