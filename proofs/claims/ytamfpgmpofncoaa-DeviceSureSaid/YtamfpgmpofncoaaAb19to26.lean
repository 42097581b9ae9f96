import Derived.Test.YtamfpgmpofncoaaAb8to15
open List renaming mem_iff_getElem? → kA, getElem?_eq_some_iff → kB, replicate → kD, getElem?_append_left → kG, getElem?_eq_getElem → kH, getElem?_append_right → kI, getElem?_cons_zero → kK, getElem?_map → kL, getElem?_toArray → kO, getElem?_set_ne → kP, eq_nil_of_length_eq_zero → kQ, getElem?_set_self → kW, range → kY, getElem?_take → k0, take_zero → k8, getElem?_cons_succ → k9, getElem?_replicate → ka, getElem?_drop → kc, map_cons → ke, all_eq_true → kg, length_take → kh, map_toArray → ki, mem_append → km, map_nil → ko
open Go.Result renaming andThen_ok → kC
open Go.Sem renaming run_bind → kE, run_pure → kU
open Array renaming getElem?_eq_some_iff → kF, getD_eq_getD_getElem? → kM
open Option renaming join_some → kJ, map_some → kR, map_none → kV, getD_some → kZ, bind_some → kb
open Nat renaming zero_mul → kN, mul_le_mul_right → kS, le_refl → kT, lt_or_ge → kq, sub_self → kr, blt → kt, add_mul → ku, blt_eq → kv
open Bool renaming or_eq_true → kj
set_option linter.unusedSimpArgs false
set_option linter.unusedVariables false
namespace Go.Ab
def zp3 (ops : Array Oper) (lo hi : Nat) : Bool :=
 (kY ops.size).all fun j => kt j hi || (kY hi).all fun i => kt i lo || bef ops j i
theorem zp4 {ops : Array Oper} {lo hi : Nat} (h : zp3 ops lo hi = true) {i j : Nat} (hj : hi <= j) (hjs : j < ops.size) (hi' : lo <= i) (hih : i < hi) : bef ops j i = true := by
 have := kg.1 h j (by simpa using hjs)
 simp only [kj] at this;rcases this with h | h
 ·exact absurd (kv.mp h) (by omega)
 ·have := kg.1 h i (by simpa using hih)
  simp only [kj] at this;rcases this with h | h
  ·exact absurd (kv.mp h) (by omega)
  ·exact h
def left (ops : Array Oper) (listed : Array Bool) : Nat := ((kY ops.size).filter (fun j => !listed.getD j false)).length
variable {i : Nat}
theorem zkx {ops : Array Oper} {listed : Array Bool} (hi : i < ops.size) (hs : listed.size = ops.size) (hn : listed.getD i false = false) : left ops (listed.setIfInBounds i true) < left ops listed := by
 have hget : ∀ j, (listed.setIfInBounds i true).getD j false = true ↔ listed.getD j false = true \/ j = i := by
  intro j
  by_cases hji : i = j
  ·subst hji;simp only [kM, Array.getElem?_setIfInBounds_self_of_lt (show i < listed.size by omega), kZ]; simp
  ·rw [getD_set_ne false hji];exact ⟨fun h => .inl h, fun h => h.resolve_right (fun e => hji e.symm)⟩
 unfold left;have e : (kY ops.size).filter (fun j => !(listed.setIfInBounds i true).getD j false) =
   ((kY ops.size).filter (fun j => !listed.getD j false)).filter (fun j => decide (j ≠ i)) := by
  rw [List.filter_filter];apply List.filter_congr;intro j _
  by_cases hji : j = i
  ·subst hji;have := (hget j).2 (.inr rfl);rw [this]; simp
  ·cases h : listed.getD j false with
   | true => rw [(hget j).2 (.inl h)]; simp
   | false =>
    have : (listed.setIfInBounds i true).getD j false = false := by
     cases h2 : (listed.setIfInBounds i true).getD j false with
     | false => rfl
     | true => exact absurd (((hget j).1 h2).resolve_right hji) (by rw [h]; simp)
    rw [this]; simp [hji]
 rw [e];refine List.length_filter_lt_length_iff_exists.2 ⟨i, ?_, by simp⟩
 simp only [List.mem_filter, List.mem_range, hn]; exact ⟨hi, rfl⟩
theorem zkw {ops : Array Oper} {listed : Array Bool} (hi : i < ops.size) (hn : listed.getD i false = false) : 0 < left ops listed := by
 unfold left;refine List.length_pos_of_mem (a := i) ?_;simp only [List.mem_filter, List.mem_range, hn]; exact ⟨hi, rfl⟩
theorem z5s {listed : Array Bool} {i j : Nat} (hi : i < listed.size) : (listed.setIfInBounds i true).getD j false = true ↔ listed.getD j false = true \/ j = i := by
 by_cases hji : i = j
 ·subst hji;simp only [kM, Array.getElem?_setIfInBounds_self_of_lt hi, kZ]; simp
 ·rw [getD_set_ne false hji];exact ⟨fun h => .inl h, fun h => h.resolve_right (fun e => hji e.symm)⟩
theorem z5e {ops : Array Oper} {listed : Array Bool} (hs : listed.size = ops.size) : i ∈ Region.ready .any ops listed ↔ listed.getD i false = false /\ ∃ o, ops[i]? = some o /\ ∀ e, e ∈ o.after -> Region.binds .any e = true -> listed.getD e.on false = true := by
 rw [mem_ready];constructor
 ·rintro ⟨h1, o, h2, h3⟩;have hi : i < listed.size := by rw [hs]; exact (kF.1 h2).1
  refine ⟨?_, o, h2, h3⟩;simp only [kM, Array.getElem?_eq_getElem hi, kZ] at h1 ⊢;exact h1
 ·rintro ⟨h1, o, h2, h3⟩;have hi : i < listed.size := by rw [hs]; exact (kF.1 h2).1
  refine ⟨?_, o, h2, h3⟩;simp only [kM, Array.getElem?_eq_getElem hi, kZ] at h1 ⊢;exact h1
def z97 (ops : Array Oper) (listed : Array Bool) : Prop :=
 ∀ (j : Nat) o e, listed.getD j false = true -> ops[j]? = some o -> e ∈ o.after.toList -> Region.binds .any e = true -> listed.getD e.on false = true
theorem z3a {ops : Array Oper} {listed : Array Bool} (hs : listed.size = ops.size) {j : Nat} (h : listed.getD j false = true) : j < ops.size := by
 rw [<- hs]
 by_cases hj : j < listed.size
 ·exact hj
 ·simp only [kM, Array.getElem?_eq_none (Nat.le_of_not_lt hj)] at h; simp at h
variable {o : Oper}
theorem z60 {ops : Array Oper} (hback : z37 ops = true) {listed : Array Bool} (hs : listed.size = ops.size) (hc : z97 ops listed) (ho : ops[i]? = some o)
  (he : ∀ e, e ∈ o.after -> Region.binds .any e = true -> listed.getD e.on false = true) {j : Nat} (hb : bef ops i j = true) (hji : j ≠ i) : listed.getD j false = true := by
 have hD : ∀ (j : Nat) o' e, (listed.getD j false = true \/ j = i) -> ops[j]? = some o' -> e ∈ o'.after.toList -> Region.binds .any e = true -> (listed.getD e.on false = true \/ e.on = i) := by
  intro j o' e hj ho' hee hbb;rcases hj with hj | hj
  ·exact .inl (hc j o' e hj ho' hee hbb)
  ·subst hj;rw [ho] at ho'; cases ho';exact .inl (he e (by simpa using hee) hbb)
 have := zae hback (D := fun j => listed.getD j false = true \/ j = i) hD (fun j hj => hj.elim (z3a hs) (fun e => e ▸ (kF.1 ho).1)) i j (.inr rfl) hb
 exact this.resolve_right hji
inductive Item where
 | q (p : PV)
 | al (b : Nat) (cs : List PV) (e : TypeId)
def Item.pv : Item -> PV
 | .q p => p
 | .al b _ _ => .ptr b 0
variable {w : World} {c : Cx} {b : Nat}
theorem zro {H : List AObj} {ts : List Bool} (g : Good w c H ts) (hb : H[b]? = some .gone) {cs : List PV} {vs : Array Value} {e : TypeId} {fr : Nat × Nat}
  (hn : cs.length <= vs.size) (hf : nofz fr vs.size) (hlf : zd cs) (hv : VRs w c cs (fun i => vs[i]?)) :
  Good (grow w (.cells vs e fr)) { c with m := c.m.set b (some w.heap.size) } (H.set b (.row cs e)) ts /\
   Ext w c (grow w (.cells vs e fr)) { c with m := c.m.set b (some w.heap.size) } /\ (c.m.set b (some w.heap.size))[b]? = some (some w.heap.size) := by
 have hbl : b < c.m.length := by rw [g.len]; exact (kB.1 hb).1
 have hbn : c.m[b]? = some none := g.obj b _ hb;have hself : (c.m.set b (some w.heap.size))[b]? = some (some w.heap.size) := kW hbl;have hids : ∀ i k : Nat, c.m[i]? = some (some k) -> (c.m.set b (some w.heap.size))[i]? = some (some k) := fun i k h => by
  have hne : b ≠ i := fun e => by subst e; rw [hbn] at h; cases h
  rw [kP hne]; exact h
 have back : ∀ i k : Nat, (c.m.set b (some w.heap.size))[i]? = some (some k) -> c.m[i]? = some (some k) \/ (i = b /\ k = w.heap.size) := fun i k h => by
  by_cases hi : b = i
  ·subst hi; rw [hself] at h; cases h; exact .inr ⟨rfl, rfl⟩
  ·rw [kP hi] at h; exact .inl h
 have x : Ext w c (grow w (.cells vs e fr)) { c with m := c.m.set b (some w.heap.size) } := by
  refine Ext.of_grow _ rfl rfl rfl (by simp [grow]) (fun k hk => z00 w _ k hk) hids (fun k h => ?_) (fun i k j h => g.tlt h)
  rcases List.mem_or_eq_of_mem_set h with h | h
  ·exact .inl h
  ·cases h; exact .inr (kT _)
 refine ⟨⟨by simp [g.len], ?_, ?_, g.tl, g.tal, g.tdead, ?_, g.tinj, fun k e h => g.okn k e (Nat.le_trans x.size h), g.okm, g.okt, fun i k hi hk e => ?_, g.gl.ext x⟩, x, hself⟩
 ·intro i j k hi hj;rcases back i k hi with hi | ⟨ei, ek⟩ <;> rcases back j k hj with hj | ⟨ej, ek'⟩
  ·exact g.inj i j k hi hj
  ·have := ObjC.lt g hi; omega
  ·have := ObjC.lt g hj; omega
  ·omega
 ·intro i o h
  by_cases hi : b = i
  ·subst hi;rw [kW (kB.1 hb).1] at h;cases h;exact .inr ⟨w.heap.size, vs, hself, ⟨fr, z2r w _, hf⟩, hn, hlf, VRs.ext x cs (fun _ _ _ e => e) hv⟩
  ·rw [kP hi] at h;refine (g.obj i o h).pass x (fun k h1 => ⟨x.ids _ _ h1, z00 w _ k (ObjC.lt g h1)⟩) fun ho => ?_
   show (c.m.set b (some w.heap.size))[i]? = some none;rw [kP hi]; exact ho
 ·intro i k j h;obtain ⟨h1, vs', e', fr', h2, h3⟩ := g.tok i k j h;refine ⟨fun hm => ?_, vs', e', fr', (z00 w _ k (g.tlt h)).trans h2, h3⟩
  rcases List.mem_or_eq_of_mem_set hm with hm | hm
  ·exact h1 hm
  ·cases hm; have := g.tlt h; omega
 ·rcases back i k hk with hk | ⟨_, rfl⟩
  ·exact g.oko i k hi hk e
  ·exact g.okn _ _ (kT _)
theorem zi6 {H : List AObj} {ts : List Bool} (g : Good w c H ts) (n : Nat) :
  Good w { c with m := c.m ++ kD n none } (H ++ kD n .gone) ts /\ Ext w c w { c with m := c.m ++ kD n none } := by
 have hids : ∀ i k : Nat, c.m[i]? = some (some k) -> (c.m ++ kD n none)[i]? = some (some k) := fun i k h => by
  rw [kG (kB.1 h).1]; exact h
 have back : ∀ i k : Nat, (c.m ++ kD n none)[i]? = some (some k) -> c.m[i]? = some (some k) := fun i k h => by
  by_cases hi : i < c.m.length
  ·rw [kG hi] at h; exact h
  ·rw [kI (by omega), ka] at h
   split at h <;> simp at h
 have x : Ext w c w { c with m := c.m ++ kD n none } :=
  Ext.of_grow _ rfl rfl rfl (kT _) (fun _ _ => rfl) hids (fun k h => by
   rcases km.1 h with h | h
   ·exact .inl h
   ·rw [List.mem_replicate] at h; cases h.2) (fun i k j h => g.tlt h)
 refine ⟨⟨by simp [g.len], fun i j k h1 h2 => g.inj i j k (back i k h1) (back j k h2), ?_, g.tl, g.tal, g.tdead, ?_, g.tinj, g.okn, g.okm, g.okt, fun b k hb hk => g.oko b k hb (back b k hk), g.gl.ext x⟩, x⟩
 ·intro i o h
  by_cases hi : i < H.length
  ·rw [kG hi] at h;refine (g.obj i o h).pass x (fun k h1 => ⟨hids _ _ h1, rfl⟩) fun ho => ?_
   show (c.m ++ kD n none)[i]? = some none;rw [kG (by rw [g.len]; exact hi)]; exact ho
  ·rw [kI (by omega), ka] at h
   split at h
   ·rename_i hlt;cases h;show (c.m ++ kD n none)[i]? = some none;rw [kI (by rw [g.len]; omega), ka, g.len, if_pos hlt]
   ·cases h
 ·intro i k j h;obtain ⟨h1, h2⟩ := g.tok i k j h;refine ⟨fun hm => ?_, h2⟩
  rcases km.1 hm with hm | hm
  ·exact h1 hm
  ·rw [List.mem_replicate] at hm; cases hm.2
def seg (ops : Array Oper) (lo hi : Nat) : List Oper := (ops.toList.drop lo).take (hi - lo)
theorem z6r {ops : Array Oper} {lo hi j : Nat} (hl : lo <= j) (hh : j < hi) : (seg ops lo hi)[j - lo]? = ops[j]? := by
 unfold seg;rw [k0, if_pos (by omega), kc]
 have : lo + (j - lo) = j := by omega
 rw [this]; simp
def znl (ops : Array Oper) (j : Nat) : Bool := z37 ops && (kY ops.size).all fun k => Nat.beq k j || (bif kt k j then bef ops j k else bef ops k j)
variable {P : Program}
theorem zrv {ops : Array Oper} {j : Nat} {listed : Array Bool} {a : Act} {fuel : Nat} {Q' : Exit -> Act -> World -> Prop} (hb : znl ops j = true) (ho : ops[j]? = some o) (hs : listed.size = ops.size)
  (hl : ∀ k, k < ops.size -> (listed.getD k false = true ↔ k < j)) (hc : z97 ops listed) (hf : left ops listed <= fuel)
  (h : ∀ fuel listed', listed'.size = ops.size -> (∀ k, k < ops.size -> (listed'.getD k false = true ↔ k < j + 1)) -> z97 ops listed' -> left ops listed' <= fuel -> wpOp P ops Q' j (wpAny P .any ops Q' fuel listed') a w) :
  wpAny P .any ops Q' fuel listed a w := by
 simp only [znl, Bool.and_eq_true] at hb;obtain ⟨hback, hb⟩ := hb;have hjs : j < ops.size := (kF.1 ho).1;have hnj : listed.getD j false = false := by
  cases h : listed.getD j false with
  | false => rfl
  | true => have := (hl j hjs).1 h; omega
 have hpos := zkw (ops := ops) hjs hnj;have hedge : ∀ e, e ∈ o.after -> Region.binds .any e = true -> listed.getD e.on false = true := fun e he hbe => by
  have hlt := z4d hback ho (Array.mem_toList_iff.2 he) hbe;exact (hl e.on (by omega)).2 hlt
 cases fuel with
 | zero => omega
 | succ fuel =>
  refine ⟨fun hr => ?_, fun i hi => ?_⟩
  ·exfalso;have : j ∈ Region.ready .any ops listed := by rw [z5e hs]; exact ⟨hnj, o, ho, hedge⟩
   rw [hr] at this; cases this
  ·rw [z5e hs] at hi;obtain ⟨hni, oi, hoi, hei⟩ := hi;have his : i < ops.size := (kF.1 hoi).1;have hij : i = j := by
    apply Classical.byContradiction;intro hne;have hge : j < i := by
     rcases kq i j with h | h
     ·have := (hl i his).2 h; rw [hni] at this; cases this
     ·omega
    have := kg.1 hb i (by simpa using his)
    simp only [kj] at this;rcases this with h | h
    ·exact hne (Nat.eq_of_beq_eq_true h)
    ·have hnb : kt i j = false := by
      cases h2 : kt i j with
      | false => rfl
      | true => have := kv.mp h2; omega
     rw [hnb] at h;have := z60 hback hs hc hoi hei h (by omega)
     rw [hnj] at this; cases this
   subst hij;have hsi : i < listed.size := by omega
   have hlt := zkx (ops := ops) hjs hs hnj;refine h fuel _ (by simp [hs]) (fun k hk => ?_) (fun k o' e hk ho' he hbe => ?_) (by omega)
   ·rw [z5s hsi, hl k hk]; omega
   ·rw [z5s hsi] at hk ⊢;rcases hk with hk | hk
    ·exact .inl (hc k o' e hk ho' he hbe)
    ·subst hk;rw [ho] at ho'; cases ho';exact .inl (hedge e (by simpa using he) hbe)
theorem zrp {ops : Array Oper} {listed : Array Bool} {a : Act} {Q' : Exit -> Act -> World -> Prop} (hs : listed.size = ops.size) (hl : ∀ k, k < ops.size -> listed.getD k false = true) (h : Q' .normal a w) :
  ∀ fuel, wpAny P .any ops Q' fuel listed a w := by
 have hr : Region.ready .any ops listed = [] := by
  apply List.eq_nil_iff_forall_not_mem.2;intro j hj;rw [z5e hs] at hj;obtain ⟨h1, o, h2, _⟩ := hj;have := hl j (kF.1 h2).1;rw [h1] at this; cases this
 intro fuel;cases fuel with
 | zero => exact ⟨hr, h⟩
 | succ fuel => exact ⟨fun _ => h, fun i hi => by rw [hr] at hi; cases hi⟩
variable {σ : AS}
theorem zsr {t t2 e : TypeId} {x y : Operand} {len m sz nb : Nat} {cs news : List PV}
  (ho : o.op = .call { callee := .builtin .append, args := #[x, y], argTypes := #[t, t2] }) (ht : P.underlying t = some (.slice e)) (he : ElemT P e sz nb) (ht2 : z1t P t2 = true)
  (hx : σ.eval x = .tr len cs .full) (hcs : cs.length = len * sz) (hsrc : zj9 P σ y m sz news) (hb : (len + m) * nb <= 2 ^ 47) : QStep P o σ (.tr (len + m) (cs ++ news) .no) := by
 intro c a w K Q hr hK;have hv := hr.2.eval x;rw [hx] at hv;simp only [VR] at hv;obtain ⟨hnl, hnlf, hsr⟩ := hsrc;obtain ⟨hlen, us, hus, husz, husv⟩ := hsr w c a hr;have done : ∀ (v : Value) (w' : World), (Builtin.append_ #[t, t2] o.type #[a.eval x, a.eval y]).run P w = .ok v w' ->
   Good w' c σ.H σ.ts -> Ext w c w' c -> VR w' c (.tr (len + m) (cs ++ news) .no) v -> o.wp P a w K Q := by
  intro v w' hrun hg hxt hvr;refine je (v := v) (w' := w') (qO ho ?_) (hK v w' hvr hg hxt);simp only [ki, ke, ko, builtin, kE, hrun, kC]; rfl
 have growing : ∀ (b : Option Addr) (cap : Nat), a.eval x = .slice b len cap -> (∃ os : Array Value, (∀ n, (Builtin.firstCells sz len (.slice b len cap)).run P { w with drawn := n } = .ok os { w with drawn := n }) /\
   os.size = len * sz /\ VRs w c cs (fun i => os[i]?)) -> zd cs -> ¬ len + m <= cap -> o.wp P a w K Q := by
  intro b cap hxe ⟨os, hos, hosz, hosv⟩ hlf hroom;obtain ⟨rest, ncap, hn1, hn2, hrun⟩ := z3u (P := P) (t := t) (t2 := t2) ht he ht2 hlen hos hus hroom hb o.type;rw [<- hxe] at hrun;have hq := z1p hr.1 (w.drawn + 1);obtain ⟨g2, x2⟩ := zcy hq.1 (.cells (os ++ us ++ rest) e (0, 0));refine done _ _ hrun g2 (hq.2.trans x2) ?_;simp only [VR];refine .inr ⟨_, ncap, rfl, hn1, Foot.new hr.1 (by simp [grow]) _ _ _ rfl, trivial, fun q hq => (km.1 hq).elim (hlf q) (hnlf q), zU fun i p hp => ?_⟩
  show ∃ v, (grow _ _).cell? ⟨w.heap.size, 0 + i, none⟩ = some v /\ _;have hnew : (grow { w with drawn := w.drawn + 1 } (.cells (os ++ us ++ rest) e (0, 0))).heap[w.heap.size]? = some (.cells (os ++ us ++ rest) e (0, 0)) := z2r _ _;rw [vU hnew, Nat.zero_add]
  by_cases hi : i < len * sz
  ·rw [kG (by omega)] at hp
   obtain ⟨v, h1, h2⟩ := zo hosv hp;refine ⟨v, ?_, h2.ext (hq.2.trans x2)⟩;rw [Array.append_assoc, Array.getElem?_append_left (by omega)]; exact h1
  ·have hi2 := (kB.1 hp).1;simp [hcs, hnl] at hi2;rw [kI (by omega), hcs] at hp
   obtain ⟨v, h1, h2⟩ := zo husv hp;refine ⟨v, ?_, h2.ext (hq.2.trans x2)⟩;rw [Array.append_assoc, Array.getElem?_append_right (by omega), Array.getElem?_append_left (by omega), hosz]; exact h1
 rcases hv with ⟨hxe, hl0, hc0, hnt⟩ | ⟨ad, cap, hxe, hcap, hft, htail, hlf, hcells⟩
 ·subst hl0; subst hc0
  by_cases hm : m = 0
  ·subst hm;have hn0 : news = [] := kQ (by rw [hnl]; simp)
   subst hn0;have hrun := z0h (P := P) (w := w) (t := t) (t2 := t2) (b := none) (len := 0) (cap := 0) ht he.size ht2 hlen (hus w.drawn) (by rw [husz]; simp) (kT _) o.type
   rw [<- hxe] at hrun;refine done _ w hrun hr.1 (Ext.refl _ _) ?_;rw [hxe]; simp only [VR]; exact .inl ⟨trivial, trivial, by simp, rfl⟩
  ·exact growing none 0 hxe ⟨#[], fun n => rfl, by simp, by simp only [VRs]⟩ (fun q hq => by cases hq) (by omega)
 ·have hread : ∃ os : Array Value, (∀ n, (Builtin.firstCells sz len (.slice (some ad) len cap)).run P { w with drawn := n } = .ok os { w with drawn := n }) /\
    os.size = len * sz /\ VRs w c cs (fun i => os[i]?) := by
   obtain ⟨os, h1, h2, h3⟩ := zuf (P := P) cs hft hcells;refine ⟨os, fun n => ?_, by rw [h2, hcs], h3⟩
   show (loadCells ad (len * sz)).run P _ = _;rw [<- hcs]; exact h1 n
  have hce : cap = len := htail
  by_cases hm : m = 0
  ·subst hm;have hn0 : news = [] := kQ (by rw [hnl]; simp)
   subst hn0;have hrun := z0h (P := P) (w := w) (t := t) (t2 := t2) (b := some ad) (len := len) (cap := cap) ht he.size ht2 hlen (hus w.drawn) (by rw [husz]; simp) hcap o.type
   rw [<- hxe] at hrun;refine done _ w hrun hr.1 (Ext.refl _ _) ?_;rw [hxe]; simp only [VR];exact .inr ⟨ad, cap, rfl, hcap, by simpa using hft, trivial, by simpa using hlf, by simpa using hcells⟩
  ·exact growing (some ad) cap hxe hread hlf (by omega)
def zH (σ : AS) (x : Option Operand) (d n : Nat) : Prop :=
 match x with
 | some y => ∃ k i, σ.eval y = .val (.int k i) /\ 0 <= i /\ i.toNat = n
 | none => n = d
theorem vn {k : IntKind} {i : Int} {y : Nat} {code : BoundsCode} (h0 : 0 <= i) (h1 : i.toNat <= y) : (Instr.sliceBound (.int k i) y code).run P w = .ok i.toNat w := by
 unfold Instr.sliceBound;simp only [kE, z2g, kC];rw [if_pos ⟨h0, by omega⟩]; rfl
theorem z04 {a : Act} (hr : RelC w c σ a) {lo hi : Option Operand} {b : Bool} {len cap l h : Nat} (hl : zH σ lo 0 l) (hh : zH σ hi len h) (h1 : l <= h) (h2 : h <= cap) :
  (Instr.sliceBounds b len cap (lo.map a.eval) (hi.map a.eval) none).run P w = .ok (l, h, cap) w := by
 unfold Instr.sliceBounds;cases hi with
 | none =>
  simp only [zH] at hh; subst hh;cases lo with
  | none =>
   simp only [zH] at hl; subst hl;simp
  | some y =>
   obtain ⟨k, i, e, h0, rfl⟩ := hl;have ev := zm hr.2 e;simp [ev, vn h0 h1]
 | some z =>
  obtain ⟨k', i', e', h0', rfl⟩ := hh;have ev' := zm hr.2 e';cases lo with
  | none =>
   simp only [zH] at hl; subst hl;simp [ev', vn h0' h2]
  | some y =>
   obtain ⟨k, i, e, h0, rfl⟩ := hl;have ev := zm hr.2 e;simp [ev, ev', vn h0' h2, vn h0 h1]
variable {x : Operand}
theorem zou {t : TypeId} {lo hi : Option Operand} {s : ByteArray} {l h : Nat} (ho : o.op = .slice t x lo hi none) (ht : P.underlying t = some .string)
  (hx : σ.eval x = .val (.string s)) (hl : zH σ lo 0 l) (hh : zH σ hi s.size h) (h1 : l <= h) (h2 : h <= s.size) : QStep P o σ (.val (.string (s.extract l h))) :=
 zP fun w c a hr => by
  have e := zm hr.2 hx;refine ⟨_, ?_, yH rfl⟩;simp only [execOp, ho, e, Instr.sliceAt, Instr.slice, kE, run_underlying ht, kC, kV, Option.isSome_none, Bool.false_eq_true, if_false, z04 hr hl hh h1 h2, kU]
theorem zqx {t e : TypeId} {lo hi : Option Operand} {len sz l h : Nat} {cs : List PV} {tl : Tail} (ho : o.op = .slice t x lo hi none) (ht : P.underlying t = some (.slice e)) (hs : ye P e = some sz)
  (hx : σ.eval x = .tr len cs tl) (hcs : cs.length = len * sz) (hl : zH σ lo 0 l) (hh : zH σ hi len h) (h1 : l <= h) (h2 : h <= len) : QStep P o σ (.tr (h - l) ((cs.drop (l * sz)).take ((h - l) * sz)) .no) :=
 zP fun w c a hr => by
  have hv := hr.2.eval x;rw [hx] at hv;have hv' := hv;simp only [VR] at hv;rcases hv with ⟨hxe, hl0, hc0, hnt⟩ | ⟨ad, cap, hxe, hcap, hft, htail, hlf, hcells⟩
  ·subst hl0; subst hc0;have e1 : h = 0 := by omega
   have e2 : l = 0 := by omega
   subst e1; subst e2;refine ⟨.slice none 0 0, ?_, ?_⟩
   ·simp only [execOp, ho, hxe, Instr.sliceAt, Instr.slice, kE, run_underlying ht, kC, kV, z04 hr hl hh (kT 0) (kT 0), run_sizeOf hs];rfl
   ·simp only [VR]; exact .inl ⟨by simp, by simp, by simp, rfl⟩
  ·refine ⟨.slice (if cap = l then some ad else (some ad).map (·.add (l * sz))) (h - l) (cap - l), ?_, ?_⟩
   ·simp only [execOp, ho, hxe, Instr.sliceAt, Instr.slice, kE, run_underlying ht, kC, kV, z04 hr hl hh h1 (show h <= cap by omega), run_sizeOf hs]
    rfl
   ·by_cases hcl : cap = l
    ·have e1 : h = l := by omega
     simp only [VR];rw [if_pos hcl];refine .inr ⟨ad, cap - l, rfl, by omega, .inl (by simp [e1]), trivial, ?_, ?_⟩
     ·intro q hq; simp [e1] at hq
     ·rw [e1, kr, kN, k8]; simp only [VRs]
    ·rw [if_neg hcl];have hmul : l * sz + (h - l) * sz <= len * sz := by rw [<- ku]; exact kS _ (by omega)
     have hfz := z3f hr.1 hft hlf hcells (l * sz);simp only [VR] at hfz;obtain ⟨a', e1, f1, f2, f3⟩ := hfz;simp only [Value.pointer.injEq, Option.some.injEq] at e1;subst e1;simp only [VR, kR];refine .inr ⟨ad.add (l * sz), cap - l, rfl, by omega, ?_, trivial, fun q hq => f2 q (List.mem_of_mem_take hq), za7 f3 _⟩
     have := hft.le hr.1 (m := (h - l) * sz) (l * sz) (by omega)
     have hlen : ((cs.drop (l * sz)).take ((h - l) * sz)).length = (h - l) * sz := by simp; omega
     rw [hlen]; exact this
mutual
def PV.ren (f : Nat -> Option Nat) : PV -> PV
 | .val v => .val v
 | .ptr b off => match f b with
  | some j => .ptr j off
  | none => .one
 | .fz cs => .fz (xK f cs)
 | .sl b off len sz => match f b with
  | some j => .sl j off len sz
  | none => .one
 | .tr len cs t => .tr len (xK f cs) t
 | .fn g caps => .fn g (xK f caps)
 | .agg cs => .agg (xK f cs)
 | .tup cs => .tup (xK f cs)
 | .ifc t p => .ifc t (p.ren f)
 | .mp b => match f b with
  | some j => .mp j
  | none => .one
 | .one => .one
 | .dead => .dead
def xK (f : Nat -> Option Nat) : List PV -> List PV
 | [] => []
 | p :: ps => p.ren f :: xK f ps
end
theorem zay (f : Nat -> Option Nat) : ∀ ps : List PV, xK f ps = ps.map (PV.ren f)
 | [] => rfl
 | p :: ps => by simp only [xK, ke, zay f ps]
theorem z19 (f : Nat -> Option Nat) (ps : List PV) : (xK f ps).length = ps.length := by rw [zay]; simp
theorem zsy (f : Nat -> Option Nat) (p : PV) : leaf (p.ren f) = leaf p := by
 cases p <;> first | rfl | (simp only [PV.ren]; split <;> rfl)
theorem z1r {f : Nat -> Option Nat} {ps : List PV} (h : zd ps) : zd (xK f ps) := fun q hq => by
 rw [zay] at hq;simp only [List.mem_map] at hq;obtain ⟨p, hp, rfl⟩ := hq;rw [zsy]; exact h p hp
structure Mv (f : Nat -> Option Nat) (w : World) (c : Cx) (w' : World) (c' : Cx) : Prop where
 noT : c.T = []
 id : ∀ b j k : Nat, f b = some j -> c.m[b]? = some (some k) -> c'.m[j]? = some (some k)
 foot : ∀ a n, Foot w c a n -> Foot w' c' a n
 cell : ∀ (a : Addr) n, Foot w c a n -> ∀ i v, i < n -> w.cell? ⟨a.block, a.off + i, none⟩ = some v -> w'.cell? ⟨a.block, a.off + i, none⟩ = some v
 room : ∀ (k : Nat) (vs : Array Value) (e : TypeId) (fr : Nat × Nat), w.heap[k]? = some (Obj.cells vs e fr) -> ∃ (vs' : Array Value) (fr' : Nat × Nat), w'.heap[k]? = some (Obj.cells vs' e fr') /\ vs'.size = vs.size
mutual
theorem VR.move {f : Nat -> Option Nat} {w w' : World} {c c' : Cx} (x : Mv f w c w' c') : ∀ (p : PV) {v : Value}, VR w c p v -> VR w' c' (p.ren f) v
 | .val _, _, h => by simp only [VR, PV.ren] at h ⊢; exact h
 | .ptr b off, _, h => by
  simp only [VR, PV.ren] at h ⊢;obtain ⟨k, h1, rfl⟩ := h;cases hf : f b with
  | none => simp only [VR]; rfl
  | some j => simp only [VR]; exact ⟨k, x.id _ _ _ hf h1, rfl⟩
 | .fz cs, _, h => by
  simp only [VR, PV.ren] at h ⊢;obtain ⟨a, h1, h2, h3, h4⟩ := h;rw [z19];exact ⟨a, h1, x.foot _ _ h2, z1r h3, VRs.move x cs (fun i hi v hv => x.cell a _ h2 i v hi hv) h4⟩
 | .sl b off len sz, _, h => by
  simp only [VR, PV.ren] at h ⊢;cases hf : f b with
  | none =>
   simp only [VR];rcases h with ⟨⟨_, rfl⟩, _⟩ | ⟨k, cap, off', _, rfl, _⟩ <;> rfl
  | some j =>
   simp only [VR];rcases h with h | ⟨k, cap, off', h1, h2, h0, h3, vs, e, fr, h4, h5⟩
   ·exact .inl h
   ·obtain ⟨vs', fr', h6, h7⟩ := x.room k vs e fr h4;exact .inr ⟨k, cap, off', x.id _ _ _ hf h1, h2, h0, h3, vs', e, fr', h6, by omega⟩
 | .tr len cs t, _, h => by
  simp only [VR, PV.ren] at h ⊢;rw [z19];rcases h with ⟨h1, h2, h3, h4⟩ | ⟨a, cap, h1, hc, h2, h4, h5, h3⟩
  ·exact .inl ⟨h1, h2, by rw [h3]; rfl, h4⟩
  ·refine .inr ⟨a, cap, h1, hc, x.foot _ _ h2, ?_, z1r h5, VRs.move x cs (fun i hi v hv => x.cell a _ h2 i v hi hv) h3⟩
   cases t with
   | no => trivial
   | full => exact h4
   | tok i sz => have := h4.1; rw [x.noT] at this; simp at this
 | .fn g caps, _, h => by
  simp only [VR, PV.ren] at h ⊢;obtain ⟨cv, h1, h2, h3⟩ := h;exact ⟨cv, h1, by rw [z19]; exact h2, VRs.move x caps (fun _ _ _ e => e) h3⟩
 | .agg cs, _, h => by
  simp only [VR, PV.ren] at h ⊢;obtain ⟨cv, h1, h2, h4, h3⟩ := h;exact ⟨cv, h1, by rw [z19]; exact h2, z1r h4, VRs.move x cs (fun _ _ _ e => e) h3⟩
 | .tup cs, _, h => by
  simp only [VR, PV.ren] at h ⊢;obtain ⟨cv, h1, h2, h3⟩ := h;exact ⟨cv, h1, by rw [z19]; exact h2, VRs.move x cs (fun _ _ _ e => e) h3⟩
 | .ifc t p, _, h => by
  simp only [VR, PV.ren] at h ⊢;obtain ⟨v, h1, h2⟩ := h;exact ⟨v, h1, VR.move x p h2⟩
 | .mp b, _, h => by
  simp only [VR, PV.ren] at h ⊢;obtain ⟨k, h1, rfl⟩ := h;cases hf : f b with
  | none => simp only [VR]; rfl
  | some j => simp only [VR]; exact ⟨k, x.id _ _ _ hf h1, rfl⟩
 | .one, _, h => by simp only [VR, PV.ren] at h ⊢; exact h
 | .dead, _, _ => by simp only [VR, PV.ren]
theorem VRs.move {f : Nat -> Option Nat} {w w' : World} {c c' : Cx} (x : Mv f w c w' c') : ∀ (ps : List PV) {g g' : Nat -> Option Value},
  (∀ i, i < ps.length -> ∀ v, g i = some v -> g' i = some v) -> VRs w c ps g -> VRs w' c' (xK f ps) g'
 | [], _, _, _, _ => by simp only [VRs, xK]
 | p :: ps, g, g', hfg, h => by
  simp only [VRs, xK] at h ⊢;obtain ⟨⟨v, h1, h2⟩, h3⟩ := h;exact ⟨⟨v, hfg 0 (by simp) v h1, VR.move x p h2⟩, VRs.move x ps (fun i hi u hu => hfg (i + 1) (by simp; omega) u hu) h3⟩
end
mutual
theorem zf2 {f : Nat -> Option Nat} : ∀ {p : PV}, Pure p -> p.ren f = p
 | .val _, _ => rfl
 | .ptr _ _, h => by simp only [Pure] at h
 | .fz cs, h => by simp only [Pure, PV.ren] at h ⊢; rw [xR h]
 | .sl _ _ _ _, h => by simp only [Pure] at h
 | .tr _ cs t, h => by simp only [Pure, PV.ren] at h ⊢; rw [xR h.2]
 | .fn _ caps, h => by simp only [Pure, PV.ren] at h ⊢; rw [xR h]
 | .agg cs, h => by simp only [Pure, PV.ren] at h ⊢; rw [xR h]
 | .tup cs, h => by simp only [Pure, PV.ren] at h ⊢; rw [xR h]
 | .ifc _ p, h => by simp only [Pure, PV.ren] at h ⊢; rw [zf2 h]
 | .mp _, h => by simp only [Pure] at h
 | .one, _ => rfl
 | .dead, _ => rfl
theorem xR {f : Nat -> Option Nat} : ∀ {ps : List PV}, yf ps -> xK f ps = ps
 | [], _ => rfl
 | p :: ps, h => by simp only [yf, xK] at h ⊢; rw [zf2 h.1, xR h.2]
end
def jM (c : Cx) (ρ : List (Option Nat)) : Cx := { c with m := ρ.map fun o => o.bind fun b => (c.m[b]?).join }
theorem z4n {ρ : List (Option Nat)} {j k : Nat} (h : (jM c ρ).m[j]? = some (some k)) : ∃ b, ρ[j]? = some (some b) /\ c.m[b]? = some (some k) := by
 simp only [jM, kL, Option.map_eq_some_iff] at h;obtain ⟨o, h1, h2⟩ := h;cases o with
 | none => simp at h2
 | some b =>
  simp only [kb] at h2;cases hm : c.m[b]? with
  | none => rw [hm] at h2; simp at h2
  | some m =>
   rw [hm] at h2;simp only [kJ] at h2;exact ⟨b, h1, by rw [<- h2]; exact hm⟩
theorem zho {ρ : List (Option Nat)} {j b k : Nat} (h : ρ[j]? = some (some b)) (hk : c.m[b]? = some (some k)) : (jM c ρ).m[j]? = some (some k) := by
 simp only [jM, kL, h, kR, kb, hk, kJ]
theorem zid {ρ : List (Option Nat)} {j : Nat} (h : ρ[j]? = some none) : (jM c ρ).m[j]? = some none := by
 simp only [jM, kL, h, kR, Option.bind_none]
theorem zox {ρ : List (Option Nat)} {j b : Nat} (h : ρ[j]? = some (some b)) (hb : c.m[b]? = some none) : (jM c ρ).m[j]? = some none := by
 simp only [jM, kL, h, kR, kb, hb, kJ]
theorem zli {ρ : List (Option Nat)} {k : Nat} (h : some k ∈ (jM c ρ).m) : some k ∈ c.m := by
 obtain ⟨j, hj⟩ := kA.1 h;obtain ⟨b, _, hb⟩ := z4n hj;exact kA.2 ⟨b, hb⟩
structure Names (pn : Nat) (ρ : List (Option Nat)) : Prop where
 inj : ∀ i j b : Nat, ρ[i]? = some (some b) -> ρ[j]? = some (some b) -> i = j
 pin : ∀ b : Nat, b < pn -> ρ[b]? = some (some b)
theorem zcz {ρ : List (Option Nat)} {a : Addr} {n : Nat} (h : Foot w c a n) : Foot w (jM c ρ) a n := by
 rcases h with h | ⟨h1, h2, h3, h4, h5⟩
 ·exact .inl h
 ·exact .inr ⟨h1, h2, fun hm => h3 (zli hm), h4, h5⟩
theorem zue {ρ : List (Option Nat)} {f : Nat -> Option Nat} (hT : c.T = []) (hf : ∀ b j : Nat, f b = some j -> ρ[j]? = some (some b)) : Mv f w c w (jM c ρ) where
 noT := hT
 id := fun b j k hl hk => zho (hf b j hl) hk
 foot := fun a n h => zcz h
 cell := fun a n _ i v _ hv => hv
 room := fun k vs e fr h => ⟨vs, fr, h, rfl⟩
theorem zu2 {H H2 : List AObj} (g : Good w c H []) {ρ : List (Option Nat)} (hρ : Names c.pn ρ) (hl : H2.length = ρ.length)
  (hobj : ∀ (j : Nat) o, H2[j]? = some o -> (ρ[j]? = some none /\ (o = .gone \/ ∃ e, o = .row [] e)) \/ (∃ b cs e cs2, ρ[j]? = some (some b) /\ H[b]? = some (.row cs e) /\ o = .row cs2 e /\ cs2.length = cs.length /\ zd cs2 /\
   ∀ fv, VRs w c cs fv -> VRs w (jM c ρ) cs2 fv) \/ ∃ b, ρ[j]? = some (some b) /\ o = .gone /\ ∀ k : Nat, c.m[b]? ≠ some (some k)) : Good w (jM c ρ) H2 [] where
 len := by simp [jM, hl]
 inj := fun i j k h1 h2 => by
  obtain ⟨b, e1, e2⟩ := z4n h1;obtain ⟨b', e3, e4⟩ := z4n h2;have := g.inj b b' k e2 e4;subst this;exact hρ.inj i j b e1 e3
 obj := fun j o ho => by
  rcases hobj j o ho with ⟨h1, rfl | ⟨e, rfl⟩⟩ | ⟨b, cs, e, cs2, h1, h2, rfl, h3, h4, h5⟩ | ⟨b, h1, rfl, h2⟩
  ·exact zid h1
  ·exact .inl ⟨rfl, zid h1⟩
  ·exact (g.obj b _ h2).to (zox h1) (fun k hk => ⟨zho h1 hk, rfl⟩) h3 h4 h5
  ·show (jM c ρ).m[j]? = some none;simp only [jM, kL, h1, kR, kb];congr 1;cases hm : c.m[b]? with
   | none => rfl
   | some m =>
    cases m with
    | none => rfl
    | some k => exact absurd hm (h2 k)
 tl := g.tl
 tal := g.tal
 tdead := g.tdead
 tok := fun i k j h => by
  have hT0 : c.T = [] := kQ (by rw [g.tl]; rfl)
  simp only [jM, hT0] at h;simp at h
 tinj := g.tinj
 okn := g.okn
 okm := g.okm
 okt := g.okt
 oko := fun j k hj h e => by
  obtain ⟨b, e1, e2⟩ := z4n h;refine g.oko b k ?_ e2 e;apply Classical.byContradiction;intro hlt;have hb : b < c.pn := by omega
  have := hρ.inj j b b e1 (hρ.pin b hb);have hj' : c.pn <= j := hj;omega
 gl := g.gl.sub (fun k h => by
  obtain ⟨j, hj⟩ := kA.1 h;obtain ⟨b, _, e2⟩ := z4n hj;exact kA.2 ⟨b, e2⟩) fun i k j h => ⟨i, h⟩
structure ExtP (p : Nat) (w : World) (c : Cx) (w' : World) (c' : Cx) : Prop where
 os : w'.os = w.os
 tape : w'.tape = w.tape
 output : w'.output = w.output
 size : w.heap.size <= w'.heap.size
 new : ∀ k : Nat, some k ∈ c'.m -> some k ∈ c.m \/ w.heap.size <= k
 blocks : ∀ k : Nat, k < w.heap.size -> some k ∉ c.m -> w'.heap[k]? = w.heap[k]?
 ok : c'.ok = c.ok
 pn : c'.pn = c.pn
 pin : ∀ b k : Nat, b < p -> c.m[b]? = some (some k) -> c'.m[b]? = some (some k)
 room : ∀ (k : Nat) (vs : Array Value) (e : TypeId) (fr : Nat × Nat), w.heap[k]? = some (Obj.cells vs e fr) -> ∃ (vs' : Array Value) (fr' : Nat × Nat), w'.heap[k]? = some (Obj.cells vs' e fr') /\ vs'.size = vs.size
def zuv (P : Program) (f : FuncId) (pn : Nat) (args : List PV) (H : List AObj) (R : PV -> List AObj -> Prop) : Prop :=
 ∀ w c (vs : Array Value), Good w c H [] -> c.pn = pn -> vs.size = args.length -> VRs w c args (fun i => vs[i]?) ->
  Calls P f vs w fun e w' => ∃ v p H' c', e = .returned v /\ R p H' /\ Good w' c' H' [] /\ VR w' c' p v /\ ExtP pn w c w' c'
structure Hand (c : Cx) (n pn : Nat) (ρ : List Nat) : Prop where
 lt : ∀ j b : Nat, ρ[j]? = some b -> b < n
 inj : ∀ i j b : Nat, ρ[i]? = some b -> ρ[j]? = some b -> i = j
 own : ∀ j b : Nat, pn <= j -> ρ[j]? = some b -> c.pn <= b
 pnl : pn <= ρ.length
def xC (w : World) (c : Cx) (pn : Nat) (ρ : List Nat) : Cx where
 m := ρ.map fun b => (c.m[b]?).join
 T := []
 pn := pn
 ok := fun k e => k < w.heap.size -> (∃ j b : Nat, pn <= j /\ ρ[j]? = some b /\ c.m[b]? = some (some k)) \/ (some k ∉ c.m /\ c.ok k e)
theorem join_some {l : List (Option Nat)} {b k : Nat} (h : (l[b]?).join = some k) : l[b]? = some (some k) := by
 cases hm : l[b]? with
 | none => rw [hm] at h; simp at h
 | some m => rw [hm] at h; simp only [kJ] at h; rw [h]
theorem z68 {pn : Nat} {ρ : List Nat} {j k : Nat} (h : (xC w c pn ρ).m[j]? = some (some k)) : ∃ b, ρ[j]? = some b /\ c.m[b]? = some (some k) := by
 simp only [xC, kL, Option.map_eq_some_iff] at h;obtain ⟨b, h1, h2⟩ := h;exact ⟨b, h1, join_some h2⟩
theorem z0z {pn : Nat} {ρ : List Nat} {j b : Nat} {o : Option Nat} (h : ρ[j]? = some b) (hb : c.m[b]? = some o) : (xC w c pn ρ).m[j]? = some o := by
 simp only [xC, kL, h, kR, hb, kJ]
theorem z01 {pn : Nat} {ρ : List Nat} {k : Nat} (h : some k ∈ (xC w c pn ρ).m) : ∃ j b : Nat, ρ[j]? = some b /\ c.m[b]? = some (some k) := by
 obtain ⟨j, hj⟩ := kA.1 h;obtain ⟨b, h1, h2⟩ := z68 hj;exact ⟨j, b, h1, h2⟩
theorem noT {H : List AObj} (g : Good w c H []) : c.T = [] := kQ (by rw [g.tl]; rfl)
theorem zu3 {H : List AObj} (g : Good w c H []) {pn : Nat} {ρ : List Nat} {f : Nat -> Option Nat} (hf : ∀ b j : Nat, f b = some j -> ρ[j]? = some b) : Mv f w c w (xC w c pn ρ) where
 noT := noT g
 id := fun b j k hl hk => z0z (hf b j hl) hk
 foot := fun a n h => by
  rcases h with h | ⟨h1, h2, h3, h4, h5⟩
  ·exact .inl h
  ·refine .inr ⟨h1, h2, fun hm => ?_, fun i k h => by simp [xC] at h, fun _ => .inr ⟨h3, h5⟩⟩
   obtain ⟨j, b, _, hb⟩ := z01 hm;exact h3 (kA.2 ⟨b, hb⟩)
 cell := fun a n _ i v _ hv => hv
 room := fun k vs e fr h => ⟨vs, fr, h, rfl⟩
theorem zq8 {H Hc : List AObj} (g : Good w c H []) {pn : Nat} {ρ : List Nat} (hh : Hand c H.length pn ρ) (hl : Hc.length = ρ.length)
  (hobj : ∀ (j b : Nat) o, ρ[j]? = some b -> Hc[j]? = some o -> (H[b]? = some .gone /\ o = .gone) \/ ∃ cs e cs2, H[b]? = some (.row cs e) /\ o = .row cs2 e /\ cs2.length = cs.length /\ zd cs2 /\
   ∀ fv, VRs w c cs fv -> VRs w (xC w c pn ρ) cs2 fv) : Good w (xC w c pn ρ) Hc [] where
 len := by simp [xC, hl]
 inj := fun i j k h1 h2 => by
  obtain ⟨b, e1, e2⟩ := z68 h1;obtain ⟨b', e3, e4⟩ := z68 h2;have := g.inj b b' k e2 e4;subst this;exact hh.inj i j b e1 e3
 obj := fun j o ho => by
  have hj : j < ρ.length := by rw [<- hl]; exact (kB.1 ho).1
  have hb := kH hj;generalize ρ[j] = b at hb;rcases hobj j b o hb ho with ⟨h1, rfl⟩ | ⟨cs, e, cs2, h1, rfl, h3, h4, h5⟩
  ·exact z0z hb (g.obj b _ h1)
  ·exact (g.obj b _ h1).to (z0z hb) (fun k hk => ⟨z0z hb hk, rfl⟩) h3 h4 h5
 tl := rfl
 tal := fun i h => by simp at h
 tdead := fun i h => by simp at h
 tok := fun i k j h => by simp [xC] at h
 tinj := fun i i' k j j' h => by simp [xC] at h
 okn := fun k e h hk => absurd hk (Nat.not_lt.2 h)
 okm := fun k e e' h he hk => by
  rcases h hk with h | ⟨h1, h2⟩
  ·exact .inl h
  ·exact .inr ⟨h1, g.okm k e e' h2 he⟩
 okt := fun i k j h => by simp [xC] at h
 oko := fun j k hj h e _ => by
  obtain ⟨b, h1, h2⟩ := z68 h;exact .inl ⟨j, b, hj, h1, h2⟩
 gl := g.gl.sub (fun k h => by
  obtain ⟨j, b, _, hb⟩ := z01 h;exact kA.2 ⟨b, hb⟩) fun i k j h => by simp [xC] at h
def ji (ρ : List Nat) (b : Nat) : Option Nat := ρ.findIdx? (Nat.beq b)
theorem jJ {ρ : List Nat} {b j : Nat} (h : ji ρ b = some j) : ρ[j]? = some b := by
 unfold ji at h;rw [List.findIdx?_eq_some_iff_getElem] at h;obtain ⟨h1, h2, _⟩ := h;rw [kH h1, Nat.eq_of_beq_eq_true h2]
theorem z6c {ρ : List Nat} (h : ji ρ b = none) (j : Nat) : ρ[j]? ≠ some b := by
 intro hj;unfold ji at h;rw [List.findIdx?_eq_none_iff] at h;have := h b (kA.2 ⟨j, hj⟩);rw [Nat.beq_refl] at this; cases this
def zO (c c' : Cx) (n pn : Nat) (ρ : List Nat) : Cx :=
 {c with m := (kY n).map (fun b => match ji ρ b with
   | some j => if j < pn then (c'.m[j]?).join else none
   | none => (c.m[b]?).join) ++ c'.m.drop pn }
def za9 (n pn : Nat) (ρ : List Nat) (j : Nat) : Nat := if j < pn then (ρ[j]?).getD 0 else n + (j - pn)
theorem z0l {c c' : Cx} {n pn : Nat} {ρ : List Nat} (hb : b < n) : (zO c c' n pn ρ).m[b]? = some (match ji ρ b with
   | some j => if j < pn then (c'.m[j]?).join else none
   | none => (c.m[b]?).join) := by
 simp only [zO];rw [kG (by simpa using hb)]
 simp [hb]
theorem zel {c c' : Cx} {n pn : Nat} {ρ : List Nat} (hb : n <= b) : (zO c c' n pn ρ).m[b]? = c'.m[pn + (b - n)]? := by
 simp only [zO];rw [kI (by simpa using hb), kc]
 simp
theorem z2n {c c' : Cx} {n pn : Nat} {ρ : List Nat} {b k : Nat} (h : (zO c c' n pn ρ).m[b]? = some (some k)) :
  (b < n /\ ∃ j, j < pn /\ ρ[j]? = some b /\ c'.m[j]? = some (some k)) \/ (b < n /\ (∀ j : Nat, ρ[j]? ≠ some b) /\ c.m[b]? = some (some k)) \/ (n <= b /\ c'.m[pn + (b - n)]? = some (some k)) := by
 rcases kq b n with hb | hb
 ·rw [z0l hb] at h;simp only [Option.some.injEq] at h;split at h
  ·rename_i j hj;split at h
   ·rename_i hlt;exact .inl ⟨hb, j, hlt, jJ hj, join_some h⟩
   ·cases h
  ·rename_i hn;exact .inr (.inl ⟨hb, z6c hn, join_some h⟩)
 ·rw [zel hb] at h;exact .inr (.inr ⟨hb, h⟩)
theorem znk {w w' : World} {c c' : Cx} {H H' H3 : List AObj} (g : Good w c H []) {pn : Nat} {ρ : List Nat} (hh : Hand c H.length pn ρ) (g' : Good w' c' H' []) (x : ExtP pn w (xC w c pn ρ) w' c') (hpn : pn <= H'.length)
  (hlen : H3.length = H.length + (H'.length - pn))
  (hpin : ∀ j b : Nat, j < pn -> ρ[j]? = some b -> ∃ o o', H'[j]? = some o /\ H3[b]? = some o' /\ ((o = .gone /\ o' = .gone) \/ ∃ cs e cs2, o = .row cs e /\ o' = .row cs2 e /\ cs2.length = cs.length /\ zd cs2 /\ ∀ fv, VRs w' c' cs fv -> VRs w' (zO c c' H.length pn ρ) cs2 fv))
  (hand : ∀ j b : Nat, pn <= j -> ρ[j]? = some b -> H3[b]? = some .gone)
  (hold : ∀ (b : Nat) o, b < H.length -> (∀ j : Nat, ρ[j]? ≠ some b) -> H3[b]? = some o -> ObjC w' (zO c c' H.length pn ρ) b o)
  (hnew : ∀ j : Nat, pn <= j -> j < H'.length -> ∃ o o', H'[j]? = some o /\ H3[H.length + (j - pn)]? = some o' /\ ((o = .gone /\ o' = .gone) \/ ∃ cs e cs2, o = .row cs e /\ o' = .row cs2 e /\ cs2.length = cs.length /\ zd cs2 /\ ∀ fv, VRs w' c' cs fv -> VRs w' (zO c c' H.length pn ρ) cs2 fv)) :
  Good w' (zO c c' H.length pn ρ) H3 [] /\ ExtP c.pn w c w' (zO c c' H.length pn ρ) := by
 have hT := noT g;have hc'len := g'.len;have ids : ∀ j k : Nat, c'.m[j]? = some (some k) -> (∃ i b : Nat, ρ[i]? = some b /\ c.m[b]? = some (some k)) \/ w.heap.size <= k := fun j k h => by
  rcases x.new k (kA.2 ⟨j, h⟩) with h | h
  ·exact .inl (z01 h)
  ·exact .inr h
 have pinned : ∀ j b k : Nat, j < pn -> ρ[j]? = some b -> c.m[b]? = some (some k) -> c'.m[j]? = some (some k) := fun j b k hj hb hk => x.pin j k hj (z0z hb hk)
 have apart : ∀ b j k : Nat, (∀ i : Nat, ρ[i]? ≠ some b) -> c.m[b]? = some (some k) -> c'.m[j]? = some (some k) -> False := fun b j k hb hk hj => by
  rcases ids j k hj with ⟨i, b', h1, h2⟩ | h
  ·have := g.inj b b' k hk h2;subst this;exact hb i h1
  ·have := ObjC.lt g hk; omega
 have hm3 : ∀ k : Nat, some k ∈ (zO c c' H.length pn ρ).m -> some k ∈ c.m \/ w.heap.size <= k := fun k hk => by
  obtain ⟨b, hb⟩ := kA.1 hk;have key : ∀ j : Nat, c'.m[j]? = some (some k) -> some k ∈ c.m \/ w.heap.size <= k := fun j h => by
   rcases ids j k h with ⟨i, b', _, h2⟩ | h
   ·exact .inl (kA.2 ⟨b', h2⟩)
   ·exact .inr h
  rcases z2n hb with ⟨_, j, _, _, h⟩ | ⟨_, _, h⟩ | ⟨_, h⟩
  ·exact key j h
  ·exact .inl (kA.2 ⟨b, h⟩)
  ·exact key _ h
 have inj3 : ∀ b b' k : Nat, (zO c c' H.length pn ρ).m[b]? = some (some k) -> (zO c c' H.length pn ρ).m[b']? = some (some k) -> b = b' := by
  intro b b' k h1 h2;rcases z2n h1 with ⟨l1, j1, p1, q1, r1⟩ | ⟨l1, q1, r1⟩ | ⟨l1, r1⟩ <;> rcases z2n h2 with ⟨l2, j2, p2, q2, r2⟩ | ⟨l2, q2, r2⟩ | ⟨l2, r2⟩
  ·have := g'.inj j1 j2 k r1 r2;subst this;rw [q1] at q2; exact Option.some.inj q2
  ·exact (apart b' j1 k q2 r2 r1).elim
  ·have := g'.inj j1 _ k r1 r2; omega
  ·exact (apart b j2 k q1 r1 r2).elim
  ·exact g.inj b b' k r1 r2
  ·exact (apart b _ k q1 r1 r2).elim
  ·have := g'.inj _ j2 k r1 r2; omega
  ·exact (apart b' _ k q2 r2 r1).elim
  ·have := g'.inj _ _ k r1 r2; omega
 have from' : ∀ (j b : Nat) o o', H'[j]? = some o -> (zO c c' H.length pn ρ).m[b]? = c'.m[j]? -> ((o = .gone /\ o' = .gone) \/ ∃ cs e cs2, o = .row cs e /\ o' = .row cs2 e /\ cs2.length = cs.length /\ zd cs2 /\ ∀ fv, VRs w' c' cs fv -> VRs w' (zO c c' H.length pn ρ) cs2 fv) ->
   ObjC w' (zO c c' H.length pn ρ) b o' := by
  intro j b o o' ho hm h;have hob := g'.obj j o ho;rcases h with ⟨rfl, rfl⟩ | ⟨cs, e, cs2, rfl, rfl, h3, h4, h5⟩
  ·exact hm.trans hob
  ·exact hob.to hm.trans (fun k hk => ⟨hm.trans hk, rfl⟩) h3 h4 h5
 refine ⟨{ len := ?_, inj := inj3, obj := ?_, tl := by rw [show (zO c c' H.length pn ρ).T = c.T from rfl, hT]; rfl, tal := fun i h => by simp at h, tdead := fun i h => by simp at h, tok := ?_, tinj := ?_, okn := ?_, okm := g.okm, okt := ?_, oko := ?_, gl := ⟨g'.gl.sz, fun k h => ?_, fun i k j h => by simp only [zO, hT] at h; simp at h, g'.gl.var⟩ }, ?_⟩
 ·simp only [zO, List.length_append, List.length_map, List.length_range, List.length_drop]; omega
 ·intro b o ho;rcases kq b H.length with hb | hb
  ·cases hp : ji ρ b with
   | some j =>
    have hj := jJ hp
    by_cases hlt : j < pn
    ·obtain ⟨o1, o2, h1, h2, h3⟩ := hpin j b hlt hj;rw [ho] at h2; cases h2;refine from' j b o1 o h1 ?_ h3;rw [z0l hb, hp];simp only [if_pos hlt];have hjl : j < c'.m.length := by rw [hc'len]; omega
     rw [kH hjl]; rfl
    ·rw [hand j b (by omega) hj] at ho
     cases ho;show (zO c c' H.length pn ρ).m[b]? = some none;rw [z0l hb, hp];simp only [if_neg hlt]
   | none =>
    exact hold b o hb (z6c hp) ho
  ·have hb3 : b < H3.length := (kB.1 ho).1;obtain ⟨o1, o2, h1, h2, h3⟩ := hnew (pn + (b - H.length)) (by omega) (by omega)
   rw [show H.length + (pn + (b - H.length) - pn) = b by omega, ho] at h2
   cases h2;exact from' _ b o1 o h1 (zel hb) h3
 ·intro i k j h; simp only [zO, hT] at h; simp at h
 ·intro i i' k j j' h; simp only [zO, hT] at h; simp at h
 ·exact fun k e h => g.okn k e (Nat.le_trans x.size h)
 ·intro i k j h; simp only [zO, hT] at h; simp at h
 ·intro b k hb h e;have hb' : c.pn <= b := hb;show c.ok k e;have key : ∀ j : Nat, c'.m[j]? = some (some k) -> (∀ i b' : Nat, ρ[i]? = some b' -> c.m[b']? = some (some k) -> c.pn <= b') -> c.ok k e := fun j hj hq => by
   rcases ids j k hj with ⟨i, b', h1, h2⟩ | h
   ·exact g.oko b' k (hq i b' h1 h2) h2 e
   ·exact g.okn k e h
  rcases z2n h with ⟨l1, j1, p1, q1, r1⟩ | ⟨l1, q1, r1⟩ | ⟨l1, r1⟩
  ·refine key j1 r1 fun i b' h1 h2 => ?_
   by_cases hi : i < pn
   ·have := g'.inj i j1 k (pinned i b' k hi h1 h2) r1;subst this;rw [q1] at h1; cases h1; exact hb'
   ·exact hh.own i b' (by omega) h1
  ·exact g.oko b k hb' r1 e
  ·refine key _ r1 fun i b' h1 h2 => ?_
   by_cases hi : i < pn
   ·have := g'.inj i _ k (pinned i b' k hi h1 h2) r1; omega
   ·exact hh.own i b' (by omega) h1
 ·obtain ⟨b, hb⟩ := kA.1 h;rcases z2n hb with ⟨l1, j1, p1, q1, r1⟩ | ⟨l1, q1, r1⟩ | ⟨l1, r1⟩
  ·exact g'.gl.m k (kA.2 ⟨_, r1⟩)
  ·exact g.gl.m k (kA.2 ⟨_, r1⟩)
  ·exact g'.gl.m k (kA.2 ⟨_, r1⟩)
 ·refine ⟨x.os, x.tape, x.output, x.size, hm3, fun k hk hm => x.blocks k hk fun h => ?_, rfl, rfl, fun b k hb hk => ?_, x.room⟩
  ·obtain ⟨j, b, _, h2⟩ := z01 h;exact hm (kA.2 ⟨b, h2⟩)
  ·have hbl : b < H.length := by rw [<- g.len]; exact (kB.1 hk).1
   rw [z0l hbl];cases hp : ji ρ b with
   | some j =>
    have hj := jJ hp
    by_cases hlt : j < pn
    ·simp only [if_pos hlt, pinned j b k hlt hj hk, kJ]
    ·have := hh.own j b (by omega) hj; omega
   | none => simp only [hk, kJ]
theorem zpp {w w' : World} {c c' : Cx} {H H' H3 : List AObj} (g : Good w c H []) {pn : Nat} {ρ : List Nat} (hh : Hand c H.length pn ρ) (g' : Good w' c' H' []) (x : ExtP pn w (xC w c pn ρ) w' c') (hpn : pn <= H'.length)
  (hlen : H3.length = H.length + (H'.length - pn))
  (hpin : ∀ j b : Nat, j < pn -> ρ[j]? = some b -> ∃ o o', H'[j]? = some o /\ H3[b]? = some o' /\ ((o = .gone /\ o' = .gone) \/ ∃ cs e cs2, o = .row cs e /\ o' = .row cs2 e /\ cs2.length = cs.length /\ zd cs2 /\ ∀ fv, VRs w' c' cs fv -> VRs w' (zO c c' H.length pn ρ) cs2 fv))
  (hand : ∀ j b : Nat, pn <= j -> ρ[j]? = some b -> H3[b]? = some .gone)
  (hold : ∀ b : Nat, b < H.length -> (∀ j : Nat, ρ[j]? ≠ some b) -> (H[b]? = some .gone /\ H3[b]? = some .gone) \/ ∃ cs e cs2, H[b]? = some (.row cs e) /\ H3[b]? = some (.row cs2 e) /\ cs2.length = cs.length /\ zd cs2 /\ ∀ fv, VRs w c cs fv -> VRs w' (zO c c' H.length pn ρ) cs2 fv)
  (hnew : ∀ j : Nat, pn <= j -> j < H'.length -> ∃ o o', H'[j]? = some o /\ H3[H.length + (j - pn)]? = some o' /\ ((o = .gone /\ o' = .gone) \/ ∃ cs e cs2, o = .row cs e /\ o' = .row cs2 e /\ cs2.length = cs.length /\ zd cs2 /\ ∀ fv, VRs w' c' cs fv -> VRs w' (zO c c' H.length pn ρ) cs2 fv)) :
  Good w' (zO c c' H.length pn ρ) H3 [] /\ ExtP c.pn w c w' (zO c c' H.length pn ρ) := by
 refine znk g hh g' x hpn hlen hpin hand (fun b o hb hno ho => ?_) hnew
 have hp : ji ρ b = none := by
  cases hp : ji ρ b with
  | none => rfl
  | some j => exact absurd (jJ hp) (hno j)
 have hm : (zO c c' H.length pn ρ).m[b]? = c.m[b]? := by
  rw [z0l hb, hp];have hbl : b < c.m.length := by rw [g.len]; exact hb
  rw [kH hbl]; rfl
 rcases hold b hb hno with ⟨h1, h2⟩ | ⟨cs, e, cs2, h1, h2, h3, h4, h5⟩
 ·rw [ho] at h2; cases h2;exact hm.trans (g.obj b _ h1)
 ·rw [ho] at h2; cases h2;refine (g.obj b _ h1).to hm.trans (fun k h6 => ⟨hm.trans h6, x.blocks k (ObjC.lt g h6) fun hk => ?_⟩) h3 h4 h5
  obtain ⟨i, b', h12, h13⟩ := z01 hk;have := g.inj b b' k h6 h13;subst this;exact hno i h12
theorem zjw {c c' : Cx} {n pn : Nat} {ρ : List Nat} (hinj : ∀ i j b : Nat, ρ[i]? = some b -> ρ[j]? = some b -> i = j) {j b : Nat} (hb : b < n) (hj : ρ[j]? = some b) (hlt : j < pn) (hl : j < c'.m.length) :
  (zO c c' n pn ρ).m[b]? = c'.m[j]? := by
 rw [z0l hb];cases hp : ji ρ b with
 | none => exact absurd hj (z6c hp j)
 | some i =>
  have := hinj i j b (jJ hp) hj;subst this;simp only [if_pos hlt, kH hl, kJ]
def z9w (pn : Nat) (ρ : List Nat) (b : Nat) : Option Nat :=
 match ji ρ b with
 | some j => if j < pn then some b else none
 | none => some b
theorem zla {pn : Nat} {ρ : List Nat} {b j : Nat} (h : z9w pn ρ b = some j) : j = b /\ ((∃ i, ji ρ b = some i /\ i < pn) \/ ji ρ b = none) := by
 unfold z9w at h;cases hp : ji ρ b with
 | none => rw [hp] at h; cases h; exact ⟨rfl, .inr rfl⟩
 | some i =>
  rw [hp] at h;simp only at h;split at h
  ·rename_i hi; cases h; exact ⟨rfl, .inl ⟨i, rfl, hi⟩⟩
  ·cases h
theorem zmc {w w' : World} {c c' : Cx} {H H' : List AObj} (g : Good w c H []) {pn : Nat} {ρ : List Nat} (hh : Hand c H.length pn ρ) (g' : Good w' c' H' []) (x : ExtP pn w (xC w c pn ρ) w' c') (hpn : pn <= H'.length)
  (xx : ExtP c.pn w c w' (zO c c' H.length pn ρ)) :
  Mv (z9w pn ρ) w c w' (zO c c' H.length pn ρ) where
 noT := noT g
 id := fun b j0 k hf hk => by
  obtain ⟨e0, hl⟩ := zla hf;rw [e0];have hbl : b < H.length := by rw [<- g.len]; exact (kB.1 hk).1
  show (zO c c' H.length pn ρ).m[b]? = some (some k);cases hp : ji ρ b with
  | none => rw [z0l hbl, hp]; simp only [hk, kJ]
  | some j =>
   have hj := jJ hp;have hlt : j < pn := by
    rcases hl with ⟨i, h1, h2⟩ | h1
    ·rw [hp] at h1; cases h1; exact h2
    ·rw [hp] at h1; cases h1
   rw [zjw hh.inj hbl hj hlt (by rw [g'.len]; omega)]
   exact x.pin j k hlt (z0z hj hk)
 foot := fun a n h => by
  rcases h with h | ⟨h1, h2, h3, h4, h5⟩
  ·exact .inl h
  ·refine .inr ⟨h1, Nat.lt_of_lt_of_le h2 x.size, fun hm => ?_, h4, h5⟩
   rcases xx.new _ hm with h | h
   ·exact h3 h
   ·omega
 cell := fun a n h i v hi hv => by
  rcases h with h | ⟨h1, h2, h3, h4, h5⟩
  ·omega
  ·rw [qy (a := ⟨a.block, a.off + i, none⟩) (xx.blocks a.block h2 h3)]; exact hv
 room := xx.room
theorem zmb {w w' : World} {c c' : Cx} {H H' : List AObj} (g : Good w c H []) {pn : Nat} {ρ : List Nat} (hh : Hand c H.length pn ρ) (g' : Good w' c' H' []) (x : ExtP pn w (xC w c pn ρ) w' c') (hpn : pn <= H'.length) :
  Mv (fun j => some (za9 H.length pn ρ j)) w' c' w' (zO c c' H.length pn ρ) where
 noT := noT g'
 id := fun j j0 k hf hk => by
  cases hf;have hjl : j < c'.m.length := (kB.1 hk).1;unfold za9
  by_cases hlt : j < pn
  ·rw [if_pos hlt];have hr : j < ρ.length := Nat.lt_of_lt_of_le hlt hh.pnl;have hj := kH hr;rw [hj, kZ, zjw hh.inj (hh.lt j _ hj) hj hlt hjl]; exact hk
  ·rw [if_neg hlt, zel (by omega), show pn + (H.length + (j - pn) - H.length) = j by omega]; exact hk
 foot := fun a n h => by
  rcases h with h | ⟨h1, h2, h3, h4, h5⟩
  ·exact .inl h
  ·have hok : (xC w c pn ρ).ok a.block (a.off + n) := by rw [<- x.ok]; exact h5
   have key : (∀ b : Nat, (∀ j : Nat, ρ[j]? ≠ some b) -> c.m[b]? ≠ some (some a.block)) /\ c.ok a.block (a.off + n) := by
    by_cases hlt : a.block < w.heap.size
    ·rcases hok hlt with ⟨j, b, hj, hb, hk⟩ | ⟨hm, hc⟩
     ·refine ⟨fun b' hb' hk' => ?_, g.oko b _ (hh.own j b hj hb) hk _⟩
      have := g.inj b b' _ hk hk';subst this;exact hb' j hb
     ·exact ⟨fun b' _ hk' => hm (kA.2 ⟨b', hk'⟩), hc⟩
    ·exact ⟨fun b' _ hk' => hlt (ObjC.lt g hk'), g.okn _ _ (Nat.le_of_not_lt hlt)⟩
   refine .inr ⟨h1, h2, fun hm => ?_, fun i k hT => ?_, key.2⟩
   ·obtain ⟨b, hb⟩ := kA.1 hm;rcases z2n hb with ⟨_, j, _, _, h⟩ | ⟨_, hno, h⟩ | ⟨_, h⟩
    ·exact h3 (kA.2 ⟨_, h⟩)
    ·exact key.1 b hno h
    ·exact h3 (kA.2 ⟨_, h⟩)
   ·simp only [zO, noT g] at hT; simp at hT
 cell := fun a n _ i v _ hv => hv
 room := fun k vs e fr h => ⟨vs, fr, h, rfl⟩
theorem zb1 {f : FuncId} {fo : Operand} {xs : Array Operand} {ats : Array TypeId} {ρ : Operand -> Value} {cv : Array Value} (ho : o.op = .call { callee := .value fo, args := xs, argTypes := ats })
  (hc : z0n P f = true) (hρ : ρ fo = .func (.func f) #[] cv) (w : World) : (execOp ρ o).run P w = .ok (.enter f (xs.map ρ ++ cv)) w := by
 simp only [execOp, ho, resolve, hρ, Deferred.ofValue, kE, kU, kC, invoke];have := zll hc (xs.map ρ ++ cv) w;simpa using this
theorem zf3 {α : Type} {z : List α} (hz : z ≠ []) : ∀ (n i : Nat), i < n * z.length -> (kD n z).flatten[i]? = z[i % z.length]?
 | 0, i, h => by omega
 | n + 1, i, h => by
  have hl : 0 < z.length := List.length_pos_iff.2 hz;simp only [List.replicate_succ, List.flatten_cons]
  by_cases hi : i < z.length
  ·rw [kG hi, Nat.mod_eq_of_lt hi]
  ·rw [kI (by omega), zf3 hz n (i - z.length) (by rw [Nat.succ_mul] at h; omega), <- Nat.mod_eq_sub_mod (by omega)]
theorem z2a {α : Type} (z : List α) (n : Nat) : (kD n z).flatten.length = n * z.length := by simp
def SrcN (P : Program) (σ : AS) (y : Operand) (m sz : Nat) (news : List PV) : Prop :=
 news.length = m * sz /\ zd news /\ ∀ w c (a : Act), RelC w c σ a -> (Builtin.lenOf (a.eval y)).run P w = .ok m w /\
  ∀ n, n <= m -> ∃ us : Array Value, (∀ d, (Builtin.firstCells sz n (a.eval y)).run P { w with drawn := d } = .ok us { w with drawn := d }) /\ us.size = n * sz /\ VRs w c (news.take (n * sz)) (fun i => us[i]?)
variable {y : Operand}
theorem SrcN.ok {m sz : Nat} {news : List PV} (h : SrcN P σ y m sz news) : zj9 P σ y m sz news :=
 ⟨h.1, h.2.1, fun w c a hr => by
  obtain ⟨h1, h2⟩ := h.2.2 w c a hr;obtain ⟨us, h3, h4, h5⟩ := h2 m (kT _);rw [List.take_of_length_le (Nat.le_of_eq h.1)] at h5;exact ⟨h1, us, h3, h4, h5⟩⟩
theorem z9x {a : Addr} (cs : List PV) (h' : VRs w c cs (fun i => w.cell? (a.add i))) :
  ∃ us : Array Value, (∀ n, (loadCells a cs.length).run P { w with drawn := n } = .ok us { w with drawn := n }) /\ us.size = cs.length /\ VRs w c cs (fun i => us[i]?) := by
 refine ⟨((kY cs.length).map (fun i => (w.cell? (a.add i)).getD undef)).toArray, fun n => ?_, by simp, zU fun i p hp => ?_⟩
 ·refine run_loadCells { w with drawn := n } a cs.length _ (fun i hi => ?_)
  obtain ⟨v, h1, _⟩ := zo h' (kH hi);have : ({ w with drawn := n } : World).cell? (a.add i) = w.cell? (a.add i) := rfl;rw [this, h1]; rfl
 ·have hi := (kB.1 hp).1;obtain ⟨v, h1, h2⟩ := zo h' hp;exact ⟨v, by simp [hi, h1], h2⟩
theorem zdt {m sz : Nat} {news : List PV} {tl : Tail} (hy : σ.eval y = .tr m news tl) (hl : news.length = m * sz) (hlf : zd news) :
  SrcN P σ y m sz news := by
 refine ⟨hl, hlf, fun w c a hr => ?_⟩
 have hv := hr.2.eval y;rw [hy] at hv;simp only [VR] at hv;rcases hv with ⟨h1, h2, h3, _⟩ | ⟨ad, cap, h1, _, hf, _, _, hc⟩
 ·subst h2; subst h3;rw [h1];refine ⟨rfl, fun n hn => ?_⟩
  have : n = 0 := by omega
  subst this;exact ⟨#[], fun n => rfl, by simp, by simp only [List.take_nil, VRs]⟩
 ·rw [h1];refine ⟨rfl, fun n hn => ?_⟩
  have hle : n * sz <= news.length := by rw [hl]; exact kS _ hn
  obtain ⟨us, h4, h5, h6⟩ := z9x (P := P) (news.take (n * sz)) (za7 (z77 hf hc) _);have hlen : (news.take (n * sz)).length = n * sz := by rw [kh]; omega
  refine ⟨us, fun d => ?_, by rw [h5, hlen], h6⟩
  show (loadCells ad (n * sz)).run P _ = _;have := h4 d;rw [hlen] at this; exact this
theorem zai (sz : Nat) (ad : Option Addr) : ∃ us : Array Value, (∀ n, (Builtin.firstCells sz 0 (.slice ad 0 0)).run P { w with drawn := n } = .ok us { w with drawn := n }) /\ us.size = 0 := by
 cases ad with
 | none => exact ⟨#[], fun n => rfl, rfl⟩
 | some a =>
  obtain ⟨us, g1, g2, g3⟩ := z9x (P := P) (w := w) (c := ⟨[], [], fun _ _ => True, 0⟩) (a := a) [] (by simp only [VRs])
  refine ⟨us, fun d => ?_, g2⟩
  show (loadCells _ (0 * sz)).run P _ = _;rw [kN]; exact g1 d
theorem zul {b off m sz : Nat} {cs : List PV} {e : TypeId} (hy : σ.eval y = .sl b off m sz) (hb : σ.H[b]? = some (.row cs e)) (hl : off + m * sz <= cs.length) (hlf : zd ((cs.drop off).take (m * sz))) :
  SrcN P σ y m sz ((cs.drop off).take (m * sz)) := by
 have hnl : ((cs.drop off).take (m * sz)).length = m * sz := by simp; omega
 refine ⟨hnl, hlf, fun w c a hr => ?_⟩
 have hv := hr.2.eval y;rw [hy] at hv;simp only [VR] at hv;rcases hv with ⟨⟨ad, h1⟩, h2⟩ | ⟨k, cap, off', h1, h2, h0, h3, vs, e', fr', h4, h5⟩
 ·subst h2;rw [h1];refine ⟨rfl, fun n hn => ?_⟩
  have : n = 0 := by omega
  subst this;obtain ⟨us, g1, g2⟩ := zai (P := P) (w := w) sz ad;exact ⟨us, g1, by rw [g2]; simp, by simp only [kN, k8, VRs]⟩
 ·rw [h2];refine ⟨rfl, fun n hn => ?_⟩
  obtain ⟨vs2, fr, h6, hf, h7, h8, h9⟩ := (hr.1.obj b _ hb).row h1
  by_cases hn0 : n = 0
  ·subst hn0;obtain ⟨us, g1, g2, g3⟩ := z9x (P := P) (w := w) (c := c) (a := ⟨k, off', none⟩) [] (by simp only [VRs])
   refine ⟨us, fun d => ?_, by rw [g2]; simp, by simp only [kN, k8, VRs]⟩
   show (loadCells _ (0 * sz)).run P _ = _;rw [kN]; exact g1 d
  ·have hoff : off' = off := h0.resolve_left (fun h => by omega)
   subst hoff;have hle : n * sz <= m * sz := kS _ hn;have hcells : VRs w c (((cs.drop off').take (m * sz)).take (n * sz)) (fun i => w.cell? ((⟨k, off', none⟩ : Addr).add i)) := zU fun i q hq => by
    rw [xz, vU h6];rw [k0] at hq;split at hq
    ·rw [k0] at hq;split at hq
     ·rw [kc] at hq; exact zo h9 hq
     ·cases hq
    ·cases hq
   obtain ⟨us, g1, g2, g3⟩ := z9x (P := P) _ hcells;have hlen : (((cs.drop off').take (m * sz)).take (n * sz)).length = n * sz := by rw [kh, hnl]; omega
   refine ⟨us, fun d => ?_, by rw [g2, hlen], g3⟩
   show (loadCells _ (n * sz)).run P _ = _;have := g1 d;rw [hlen] at this; exact this
theorem zt6 {s : ByteArray} (hy : σ.eval y = .val (.string s)) :
  SrcN P σ y s.size 1 (s.data.toList.map fun b => .val (.int .u8 b.toNat)) := by
 refine ⟨by simp, fun p hp => ?_, fun w c a hr => ?_⟩
 ·simp at hp; obtain ⟨b, _, rfl⟩ := hp; rfl
 ·have e := zm hr.2 hy;rw [e];refine ⟨rfl, fun n hn => ⟨((s.extract 0 n).data.map fun b => .int .u8 b.toNat), fun d => rfl, ?_, zU fun i p hp => ?_⟩⟩
  ·simp only [Array.size_map, Nat.mul_one];have : (s.extract 0 n).size = n := by rw [ByteArray.size_extract]; omega
   exact this
  ·rw [k0] at hp;split at hp
   ·rename_i hi;rw [kL] at hp;cases hx : s.data.toList[i]? with
    | none => rw [hx] at hp; cases hp
    | some b =>
     rw [hx] at hp; simp at hp; subst hp;have hi' : i < n := by omega
     refine ⟨.int .u8 b.toNat, ?_, yH rfl⟩;have hx' : s.data[i]? = some b := by simpa using hx
     simp only [Array.getElem?_map, ByteArray.data_extract, Array.getElem?_extract];have hlt := (kF.1 hx').1;simp [hx', hi', hlt];omega
   ·cases hp
theorem zra {t t2 e e' : TypeId} {x y : Operand} {b off len m sz : Nat} {cs news : List PV} {N : AS -> Prop} (ho : o.op = .call { callee := .builtin .copy, args := #[x, y], argTypes := #[t, t2] })
  (ht : P.underlying t = some (.slice e)) (hs : ye P e = some sz) (hx : σ.eval x = .sl b off len sz) (hb : σ.H[b]? = some (.row cs e')) (hlen : off + len * sz <= cs.length) (hsrc : SrcN P σ y m sz news)
  (hN : N (({ σ with H := σ.H.set b (.row (splice cs off (news.take (min m len * sz))) e') } : AS).put o.dst (.val (.int .i64 (min m len : Nat))))) : Step P o σ N := by
 intro c a w K Q hr hK;obtain ⟨hsl, hslf, hsr⟩ := hsrc;obtain ⟨hl1, hl2⟩ := hsr w c a hr;obtain ⟨us, hu1, hu2, hu3⟩ := hl2 (min m len) (Nat.min_le_left _ _);have hu1' := hu1 w.drawn;have hv := hr.2.eval x;rw [hx] at hv;simp only [VR] at hv;have hnl : (news.take (min m len * sz)).length = min m len * sz := by
  rw [kh, hsl];have : min m len * sz <= m * sz := kS _ (Nat.min_le_left _ _);omega
 have hnlf : zd (news.take (min m len * sz)) := fun p hp => hslf p (List.mem_of_mem_take hp)
 have hself : σ.H.set b (.row cs e') = σ.H := by
  apply List.ext_getElem?;intro j
  by_cases hj : b = j
  ·subst hj; rw [kW (kB.1 hb).1, hb]
  ·rw [kP hj]
 have fin : ∀ w', Good w' c (σ.H.set b (.row (splice cs off (news.take (min m len * sz))) e')) σ.ts -> Ext w c w' c -> (Builtin.copy_ #[t, t2] o.type #[a.eval x, a.eval y]).run P w = .ok (.int .i64 (min m len : Nat)) w' -> o.wp P a w K Q := by
  intro w' hg hx' hrun;refine je (v := .int .i64 (min m len : Nat)) (w' := w') (qO ho ?_) (hK _ _ _ _ hN ⟨?_, ?_⟩ hx' (Act.put_defers' _ _ _))
  ·simp only [ki, ke, ko, builtin, kE, hrun, kC]; rfl
  ·cases o.dst <;> simpa [AS.put] using hg
  ·exact SlotsR.put (σ := { σ with H := σ.H.set b (.row (splice cs off (news.take (min m len * sz))) e') }) ⟨(hr.2.ext hx').1, (hr.2.ext hx').2⟩ o.dst (yH rfl)
 have hmin : Nat.min m len = min m len := rfl;rcases hv with ⟨⟨ad, h1⟩, h2⟩ | ⟨k, cap, off', h1, h2, h0, h3, _⟩
 ·subst h2;have hn0 : min m 0 = 0 := by omega
  refine fin w ?_ (Ext.refl _ _) ?_
  ·rw [hn0, kN, k8, z6g, hself]; exact hr.1
  ·unfold Builtin.copy_;simp only [kO, kK, k9, kE, run_underlying ht, kC, h1, hl1, run_sizeOf hs, hmin, hu1', kU];have hus : us.toList = [] := by
    rw [hn0, kN] at hu2;exact List.length_eq_zero_iff.1 (by simpa using hu2)
   cases ad with
   | none => rfl
   | some ad => simp only [hus, storeCells, kE, kU, kC]; rfl
 ·by_cases hn0 : min m len = 0
  ·have hus : us.toList = [] := by
    rw [hn0, kN] at hu2;exact List.length_eq_zero_iff.1 (by simpa using hu2)
   refine fin w ?_ (Ext.refl _ _) ?_
   ·rw [hn0, kN, k8, z6g, hself]; exact hr.1
   ·unfold Builtin.copy_;simp only [kO, kK, k9, kE, run_underlying ht, kC, h2, hl1, run_sizeOf hs, hmin, hu1', hus, storeCells, kU];rfl
  ·have hoff : off' = off := h0.resolve_left (fun h => by omega)
   subst hoff;have hle : min m len * sz <= len * sz := kS _ (Nat.min_le_right _ _);obtain ⟨w', hw', g, ext⟩ := vo (P := P) us.toList (news.take (min m len * sz)) (off := off') (i := 0) hr.1 hb h1 (by simp [hu2, hnl]) (by rw [hnl]; omega) hnlf (by simpa using hu3)
   refine fin w' (by simpa using g) ext ?_
   unfold Builtin.copy_;simp only [kO, kK, k9, kE, run_underlying ht, kC, h2, hl1, run_sizeOf hs, hmin, hu1', hw', kU];rfl
theorem zp9 {t e e' : TypeId} {b off len sz : Nat} {cs z : List PV} {N : AS -> Prop} (ho : o.op = .call { callee := .builtin .clear, args := #[x], argTypes := #[t] })
  (ht : P.underlying t = some (.slice e)) (hz : qK P e = some z) (hzn : z.length = sz) (hzl : zd z) (hsz : sz ≠ 0) (hx : σ.eval x = .sl b off len sz) (hb : σ.H[b]? = some (.row cs e')) (hlen : off + len * sz <= cs.length)
  (hN : N (({ σ with H := σ.H.set b (.row (splice cs off (kD len z).flatten) e') } : AS).put o.dst .dead)) : Step P o σ N := by
 intro c a w K Q hr hK;have hv := hr.2.eval x;rw [hx] at hv;simp only [VR] at hv;have hself : σ.H.set b (.row cs e') = σ.H := by
  apply List.ext_getElem?;intro j
  by_cases hj : b = j
  ·subst hj; rw [kW (kB.1 hb).1, hb]
  ·rw [kP hj]
 have fin : ∀ w', Good w' c (σ.H.set b (.row (splice cs off (kD len z).flatten) e')) σ.ts -> Ext w c w' c -> (Builtin.clear_ #[t] o.type #[a.eval x]).run P w = .ok (.tuple #[]) w' -> o.wp P a w K Q := by
  intro w' hg hx' hrun;refine je (v := .tuple #[]) (w' := w') (qO ho ?_) (hK _ _ _ _ hN ⟨?_, ?_⟩ hx' (Act.put_defers' _ _ _))
  ·simp only [ki, ke, ko, builtin, kE, hrun, kC]; rfl
  ·cases o.dst <;> simpa [AS.put] using hg
  ·exact SlotsR.put (σ := { σ with H := σ.H.set b (.row (splice cs off (kD len z).flatten) e') }) ⟨(hr.2.ext hx').1, (hr.2.ext hx').2⟩ o.dst (z46 _)
 by_cases hl0 : len = 0
 ·subst hl0;refine fin w ?_ (Ext.refl _ _) ?_
  ·rw [List.replicate_zero, List.flatten_nil, z6g, hself]; exact hr.1
  ·unfold Builtin.clear_;rcases hv with ⟨⟨ad, h1⟩, h2⟩ | ⟨k, cap, off', h1, h2, h0, h3, _⟩
   ·simp only [kO, kK, kE, run_underlying ht, kC, h1];cases ad <;> rfl
   ·simp only [kO, kK, kE, run_underlying ht, kC, h2];rfl
 ·rcases hv with ⟨_, h2⟩ | ⟨k, cap, off', h1, h2, h0, h3, _⟩
  ·exact absurd h2 hl0
  ·have hoff : off' = off := h0.resolve_left (fun h => hl0 h.1)
   subst hoff;obtain ⟨zv, z1, z2, z3⟩ := jy (w := w) hz;have hz0 : z ≠ [] := fun h => hsz (by rw [<- hzn, h]; rfl)
   have hlf : zd (kD len z).flatten := fun p hp => by
    simp only [List.mem_flatten] at hp;obtain ⟨l, hl, hp⟩ := hp;rw [List.eq_of_mem_replicate hl] at hp;exact hzl p hp
   have hcs : (Builtin.zeroCells zv.cells len).size = len * sz := by simp [Builtin.zeroCells, z2, hzn]
   have hvr : VRs w c (kD len z).flatten (fun i => (Builtin.zeroCells zv.cells len).toList[i]?) := zU fun i p hp => by
    have hi : i < len * sz := by
     have := (kB.1 hp).1;rw [z2a, hzn] at this; exact this
    rw [zf3 hz0 _ _ (by rw [hzn]; exact hi)] at hp
    obtain ⟨v, hv, hr'⟩ := zo (z3 c) hp;refine ⟨v, ?_, hr'⟩;have hcell : (Builtin.zeroCells zv.cells len).toList[i]? = some (zv.cells[i % zv.cells.size]!) := by
     rw [Array.getElem?_toList];simp only [Builtin.zeroCells];rw [Array.getElem?_map, Array.getElem?_range, if_pos (by rw [z2, hzn]; exact hi)]; rfl
    have hv' : zv.cells[i % zv.cells.size]? = some v := by rw [z2]; exact hv
    rw [hcell, getElem!_def, hv']
   obtain ⟨w', hw', g, ext⟩ := vo (P := P) (Builtin.zeroCells zv.cells len).toList (kD len z).flatten (off := off') (i := 0) hr.1 hb h1 (by rw [z2a, hzn]; simpa using hcs) (by rw [z2a, hzn]; omega) hlf hvr
   refine fin w' (by simpa using g) ext ?_
   unfold Builtin.clear_;obtain ⟨l', rfl⟩ : ∃ l', len = l' + 1 := ⟨len - 1, by omega⟩
   simp only [kO, kK, kE, run_underlying ht, kC, h2, z1, hw', kU]
theorem zos {t arr e el : TypeId} {lo hi : Option Operand} {b off n sz l h : Nat} {cs : List PV} (ho : o.op = .slice t x lo hi none) (ht : P.underlying t = some (.pointer arr))
  (ha : P.underlying arr = some (.array n e)) (hs : ye P e = some sz) (hx : σ.eval x = .ptr b off) (hb : σ.H[b]? = some (.row cs el)) (hlen : off + n * sz <= cs.length)
  (hl : zH σ lo 0 l) (hh : zH σ hi n h) (h1 : l <= h) (h2 : h <= n) : QStep P o σ (.sl b (off + l * sz) (h - l) sz) :=
 zP fun w c a hr => by
  have hv := hr.2.eval x;rw [hx] at hv;simp only [VR] at hv;obtain ⟨k, hk, hxe⟩ := hv;obtain ⟨vs, fr, h4, h5, h6, h7, h8⟩ := (hr.1.obj b _ hb).row hk;refine ⟨.slice (some (if n = l then ⟨k, off, none⟩ else (⟨k, off, none⟩ : Addr).add (l * sz))) (h - l) (n - l), ?_, ?_⟩
  ·simp only [execOp, ho, hxe, Instr.sliceAt, Instr.slice, kE, run_underlying ht, kC, kV, asAddr, kU, run_underlying ha, z04 hr hl hh h1 h2, run_sizeOf hs]
  ·simp only [VR]
   by_cases hn : n = l
   ·rw [if_pos hn];refine .inr ⟨k, n - l, off, hk, rfl, ?_, by omega, vs, el, fr, h4, ?_⟩
    ·by_cases hz : l * sz = 0
     ·exact .inr (by omega)
     ·exact .inl ⟨by omega, by omega⟩
    ·rw [hn, kr, kN]; omega
   ·rw [if_neg hn, xz];refine .inr ⟨k, n - l, off + l * sz, hk, rfl, .inr rfl, by omega, vs, el, fr, h4, ?_⟩
    have : l * sz + (n - l) * sz = n * sz := by rw [<- ku]; congr 1; omega
    omega
theorem zqw {t e : TypeId} {lo hi : Option Operand} {b off len sz l h : Nat} (ho : o.op = .slice t x lo hi none) (ht : P.underlying t = some (.slice e)) (hs : ye P e = some sz) (hz : sz ≠ 0)
  (hx : σ.eval x = .sl b off len sz) (hl : zH σ lo 0 l) (hh : zH σ hi len h) (h1 : l <= h) (h2 : h <= len) : QStep P o σ (.sl b (off + l * sz) (h - l) sz) :=
 zP fun w c a hr => by
  have hv := hr.2.eval x;rw [hx] at hv;simp only [VR] at hv;rcases hv with ⟨⟨ad, hxe⟩, hl0⟩ | ⟨k, cap, off', hk, hxe, h0, hcap, vs, el, fr, h4, h5⟩
  ·subst hl0;have e1 : h = 0 := by omega
   have e2 : l = 0 := by omega
   subst e1; subst e2;refine ⟨.slice (if True then ad else Option.map (fun x => x.add (0 * sz)) ad) 0 0, ?_, ?_⟩
   ·simp only [execOp, ho, hxe, Instr.sliceAt, Instr.slice, kE, run_underlying ht, kC, kV, z04 hr hl hh (kT 0) (kT 0), run_sizeOf hs];rfl
   ·simp only [VR]; exact .inl ⟨⟨_, rfl⟩, by simp⟩
  ·refine ⟨.slice (if cap = l then some ⟨k, off', none⟩ else (some (⟨k, off', none⟩ : Addr)).map (·.add (l * sz))) (h - l) (cap - l), ?_, ?_⟩
   ·simp only [execOp, ho, hxe, Instr.sliceAt, Instr.slice, kE, run_underlying ht, kC, kV, z04 hr hl hh h1 (show h <= cap by omega), run_sizeOf hs]
    rfl
   ·simp only [VR]
    by_cases hcl : cap = l
    ·rw [if_pos hcl];refine .inr ⟨k, cap - l, off', hk, rfl, ?_, by omega, vs, el, fr, h4, ?_⟩
     ·by_cases hlz : l = 0
      ·subst hlz;rcases h0 with ⟨h6, h7⟩ | h6
       ·exact .inl ⟨by omega, by omega⟩
       ·exact .inr (by omega)
      ·have : 0 < l * sz := Nat.mul_pos (by omega) (by omega)
       exact .inl ⟨by omega, by omega⟩
     ·rw [hcl, kr, kN]; omega
    ·rw [if_neg hcl];simp only [kR, xz];have hm : l * sz + (cap - l) * sz = cap * sz := by rw [<- ku]; congr 1; omega
     refine .inr ⟨k, cap - l, off' + l * sz, hk, rfl, ?_, by omega, vs, el, fr, h4, by omega⟩
     rcases h0 with ⟨h6, h7⟩ | h6
     ·exact .inl ⟨by omega, by omega⟩
     ·exact .inr (by omega)
end Go.Ab
