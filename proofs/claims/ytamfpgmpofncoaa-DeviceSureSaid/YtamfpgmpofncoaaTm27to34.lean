import Derived.Test.YtamfpgmpofncoaaTm19to26
import Derived.Lib.Bytealg
import Derived.Below
import Derived.Laws.AppendOwn
import Derived.Sort.OwnSorted
import Derived.Shelf.Abstract
import Derived.RangeFuncSeq
import Derived.RangeFuncIn
open Array renaming getElem?_eq_some_iff → kA
open Nat renaming le_trans → kB, not_lt → kC, lt_of_lt_of_le → kD, blt_eq → kG, beq → kH
open Option renaming bind_eq_some_iff → kE
open List renaming length → kF
set_option linter.unusedSimpArgs false
set_option linter.unusedVariables false
namespace Go.Tm
open Go.Ab Go.Lib

end Go.Tm
namespace Go.Tm
open Go.Ab

end Go.Tm
namespace Go.Tm
open Go.Ab Go.RowKit Go.Sort Go.Proofs Go.Shelf

end Go.Tm
set_option linter.unusedSimpArgs false
set_option linter.unusedVariables false
namespace Go.Tm
open Go.Ab
def zti (w w' : World) : Prop := ∀ (k : Nat) (vs : Array Value) (e : TypeId) (fr : Nat × Nat), w.heap[k]? = some (Obj.cells vs e fr) -> ∃ (vs' : Array Value) (fr' : Nat × Nat), w'.heap[k]? = some (Obj.cells vs' e fr') /\ vs'.size = vs.size
structure Host (P : Program) (E : Type) where
 l : Nat
 K0 : Nat -> Nat -> Prop
 X : Nat -> Prop
 N : Nat -> Prop
 n0 : Nat
 emb : E -> List TV
 dec : List E -> Option Bool
 J : List E -> World -> Cx -> List AObj -> Prop
 new : ∀ k, n0 <= k -> N k
 gbn : gb <= n0
 stay : ∀ tr w (cb : Cx) Hb w' ok', J tr w cb Hb -> n0 <= w.heap.size -> Foreign (fun k => N k /\ ¬ cb.own k /\ ¬ X k) w w' -> zti w w' -> Sees w cb w' { cb with ok := ok' } -> Ab.Good w' { cb with ok := ok' } Hb [] -> J tr w' { cb with ok := ok' } Hb
 yield : ∀ (tr : List E) (x : E) (b : Bool) (vs : Array Value) w cb Hb ci Hi, dec (tr ++ [x]) = some b -> Two K0 X w cb Hb ci Hi -> J tr w cb Hb -> n0 <= w.heap.size -> (∀ k, ci.own k -> N k) -> vs.size = (emb x).length -> TV.wfs (emb x) -> VRs w ci ((emb x).map TV.pv) (fun i => vs[i]?) ->
  YieldAt (Wd none) 0 P l vs w fun e w' => e = .returned (.bool b) /\ ∃ cb' Hb', Foreign (fun k => cb.own k \/ X k) w w' /\ Grows w cb.own cb'.own /\ cb'.ok = cb.ok /\ Ab.Good w' cb' Hb' [] /\ J (tr ++ [x]) w' cb' Hb'
structure Inv {P : Program} {E : Type} (h : Host P E) (ro : Option Nat) (ds : List Nat) (tr : List E) (w : World) (c : Cx) (H : List AObj) : Prop where
 ex : ∃ cb Hb, Two h.K0 h.X w cb Hb c H /\ h.J tr w cb Hb /\ (∀ D, D ∈ ds -> some D ∉ cb.m) /\ ∀ l, ro = some l -> some l ∉ cb.m
 n : ∀ k, c.own k -> h.N k
 n0 : h.n0 <= w.heap.size
 nd : ds.Nodup
 d : ∀ D, D ∈ ds -> h.n0 <= D /\ w.heap[D]? = some (.deferred (some [])) /\ some D ∉ c.m /\ ¬ h.X D
 r : ∀ l, ro = some l -> ¬ h.X l /\ some l ∉ c.m /\ ∃ r, w.heap[l]? = some (.loop r)
theorem Host.own {P : Program} {E : Type} (h : Host P E) {tr : List E} {w w' : World} {cb ci ci' : Cx} {Hb H H' : List AObj} {p : Nat} (two : Two h.K0 h.X w cb Hb ci H) (hJ : h.J tr w cb Hb) (hn : ∀ k, ci.own k -> h.N k) (h0 : h.n0 <= w.heap.size) (x : ExtP p w ci w' ci') (g : Ab.Good w' ci' H' []) :
  h.J tr w' { cb with ok := fun k e => h.K0 k e /\ ¬ (ci'.own k \/ h.X k) } Hb := by
 obtain ⟨t2, s2, _⟩ := two.iter x g;refine h.stay tr w cb Hb w' _ hJ h0 ⟨x.os, x.tape, x.output, x.size, fun k hk hm => x.blocks k hk fun ho => hm ⟨hn k ho, fun hb => two.apart k hb ho, fun hX => two.xi k hX ho⟩⟩ x.room s2 t2.b
variable {P : Program} {E : Type}
theorem Inv.step {h : Host P E} {ro : Option Nat} {ds : List Nat} {tr : List E} {w w' : World} {c c' : Cx} {H H' : List AObj} {p : Nat} (i : Inv h ro ds tr w c H) (x : ExtP p w c w' c') (g : Ab.Good w' c' H' []) : Inv h ro ds tr w' c' H' := by
 obtain ⟨⟨cb, Hb, two, hJ, hd, hr⟩, hn, h0, nd, d, r⟩ := i;have keep : ∀ k, k < w.heap.size -> some k ∉ c.m -> w'.heap[k]? = w.heap[k]? /\ some k ∉ c'.m := fun k hk hm => ⟨x.blocks k hk hm, fun h' => (x.new k h').elim hm fun h2 => absurd hk (kC.2 h2)⟩
 refine ⟨⟨_, Hb, (two.iter x g).1, h.own two hJ hn h0 x g, hd, hr⟩, fun k hk => (x.new k hk).elim (hn k) fun h' => h.new k (kB h0 h'), kB h0 x.size, nd, fun D hD => ?_, fun l hl => ?_⟩
 ·obtain ⟨h1, h2, h3, h4⟩ := d D hD;obtain ⟨k1, k2⟩ := keep D (kA.1 h2).1 h3;exact ⟨h1, k1.trans h2, k2, h4⟩
 ·obtain ⟨h1, h2, rr, h3⟩ := r l hl;obtain ⟨k1, k2⟩ := keep l (kA.1 h3).1 h2;exact ⟨h1, k2, rr, k1.trans h3⟩
def YAW (P : Program) (h : Host P E) (ro : Option Nat) (x : Code) (tr : List E) (σ : TS) (Q : Exit -> List E -> TS -> Prop) : Prop :=
 ∀ c ds a w (Q' : Exit -> Act -> World -> Prop), RelT w c σ a -> σ.wf -> Inv h ro ds tr w c σ.flat.H -> a.defers = ds.map z91 ->
  (∀ e c' ds' a' w' σ' tr', Q e tr' σ' -> σ'.wf -> RelT w' c' σ' a' -> Inv h ro ds' tr' w' c' σ'.flat.H -> a'.defers = ds'.map z91 -> Q' e a' w') -> x.wpIn (Wd ro) 0 P Q' a w
variable {σ : TS}
theorem YAW.mono {h : Host P E} {ro : Option Nat} {x : Code} {tr : List E} {Q R : Exit -> List E -> TS -> Prop} (ht : YAW P h ro x tr σ Q) (hq : ∀ e t σ, Q e t σ -> R e t σ) : YAW P h ro x tr σ R :=
 fun c ds a w Q' hr hw hi hds hK => ht c ds a w Q' hr hw hi hds fun e c' ds' a' w' σ' tr' hQ => hK e c' ds' a' w' σ' tr' (hq _ _ _ hQ)
def zw2 (N : List E -> TS -> Prop) (Q : Exit -> List E -> TS -> Prop) : Exit -> List E -> TS -> Prop
 | .normal, tr, σ => N tr σ
 | e, tr, σ => Q e tr σ
def zrk (id : Nat) (Q : Exit -> List E -> TS -> Prop) : Exit -> List E -> TS -> Prop
 | .exit id', tr, σ => bif kH id' id then Q .normal tr σ else Q (.exit id') tr σ
 | e, tr, σ => Q e tr σ
theorem YAW.block {P : Program} {E : Type} {h : Host P E} {ro : Option Nat} {id : Nat} {x : Code} {tr : List E} {σ : TS} {Q : Exit -> List E -> TS -> Prop} (ht : YAW P h ro x tr σ (zrk id Q)) : YAW P h ro (.block id x) tr σ Q := by
 intro c ds a w Q' hr hw hi hds hK;refine wpIn_block (ht c ds a w _ hr hw hi hds fun e c' ds' a' w' σ' tr' hQ hw' hr' hi' hd => ?_)
 cases e with
 | exit id' =>
  simp only [zrk] at hQ;simp only [Exit.inBlock];split
  ·rename_i e;have : kH id' id = true := by rw [e]; exact Nat.beq_refl id
   rw [this] at hQ; exact hK _ c' ds' a' w' σ' tr' hQ hw' hr' hi' hd
  ·rename_i e;have : kH id' id = false := by
    cases hb : kH id' id with
    | false => rfl
    | true => exact absurd (Nat.eq_of_beq_eq_true hb) e
   rw [this] at hQ; exact hK _ c' ds' a' w' σ' tr' hQ hw' hr' hi' hd
 | _ => exact hK _ c' ds' a' w' σ' tr' hQ hw' hr' hi' hd
def YLoop (P : Program) (h : Host P E) (ro : Option Nat) (x : Code) (tr : List E) (σ : TS) (Q : Exit -> List E -> TS -> Prop) : Prop :=
 ∀ c ds a w (Q' : Exit -> Act -> World -> Prop), RelT w c σ a -> σ.wf -> Inv h ro ds tr w c σ.flat.H -> a.defers = ds.map z91 ->
  (∀ e c' ds' a' w' σ' tr', Q e tr' σ' -> σ'.wf -> RelT w' c' σ' a' -> Inv h ro ds' tr' w' c' σ'.flat.H -> a'.defers = ds'.map z91 -> Q' e a' w') ->
  ∀ (b : Frame) (k : List Go.Item) (cs : List Frame), b.roundOf = ro -> ∃ e a2 w2, Q' e a2 w2 /\ ArrivesIn (Machine.fenced P (Wd ro)) P (lone (b.atR a (.code x :: .inLoop x :: k)) cs w) b k cs e a2 w2
theorem YLoop.step {h : Host P E} {ro : Option Nat} {x : Code} {tr : List E} {Q : Exit -> List E -> TS -> Prop} (ht : YAW P h ro x tr σ (zw2 (fun tr' σ' => YLoop P h ro x tr' σ' Q) Q)) : YLoop P h ro x tr σ Q := by
 intro c ds a w Q' hrel hw hi hds hK b k cs hro;obtain ⟨e, a1, w1, hq, harr⟩ := (ht c ds a w
  (Exit.then (fun a2 w2 => ∃ σ2 tr2 c2 ds2, YLoop P h ro x tr2 σ2 Q /\ σ2.wf /\ RelT w2 c2 σ2 a2 /\ Inv h ro ds2 tr2 w2 c2 σ2.flat.H /\ a2.defers = ds2.map z91) Q') hrel hw hi hds (fun e c2 ds2 a2 w2 σ2 tr2 hQ hw2 hr2 hi2 hd2 => by
  cases e with
  | normal => exact ⟨σ2, tr2, c2, ds2, hQ, hw2, hr2, hi2, hd2⟩
  | exit id => exact hK _ c2 ds2 a2 w2 σ2 tr2 hQ hw2 hr2 hi2 hd2
  | goto l => exact hK _ c2 ds2 a2 w2 σ2 tr2 hQ hw2 hr2 hi2 hd2
  | ret => exact hK _ c2 ds2 a2 w2 σ2 tr2 hQ hw2 hr2 hi2 hd2
  | panic ch => exact hK _ c2 ds2 a2 w2 σ2 tr2 hQ hw2 hr2 hi2 hd2
  | outgrown => exact hK _ c2 ds2 a2 w2 σ2 tr2 hQ hw2 hr2 hi2 hd2)) b (.inLoop x :: k) cs hro trivial (zne _ _)
 cases e with
 | normal =>
  obtain ⟨σ2, tr2, c2, ds2, hL, hw2, hr2, hi2, hd2⟩ := hq;obtain ⟨e2, a2, w2, hq2, harr2⟩ := hL c2 ds2 a1 w1 Q' hr2 hw2 hi2 hd2 hK b k cs hro;have h1 : StepsIn (Machine.fenced P (Wd ro)) P (lone (b.atR a (.code x :: .inLoop x :: k)) cs w) (lone (b.atR a1 (.inLoop x :: k)) cs w1) := harr;have h2 : StepsIn (Machine.fenced P (Wd ro)) P (lone (b.atR a1 (.inLoop x :: k)) cs w1) (lone (b.atR a1 (.code x :: .inLoop x :: k)) cs w1) := .one (jr ro P _) stepR_inLoop;exact ⟨e2, a2, w2, hq2, .of_steps (h1.trans h2) harr2⟩
 | exit id => exact ⟨_, a1, w1, hq, .pass (x := .inLoop x) rfl (fun _ _ => .inl (by simp)) harr⟩
 | goto l => exact ⟨_, a1, w1, hq, .pass (x := .inLoop x) rfl (fun _ _ => .inl (by simp)) harr⟩
 | ret => exact ⟨_, a1, w1, hq, .pass (x := .inLoop x) rfl (fun _ _ => .inl (by simp)) harr⟩
 | panic ch => exact ⟨_, a1, w1, hq, .pass (x := .inLoop x) rfl (fun _ _ => .inl (by simp)) harr⟩
 | outgrown => exact ⟨_, a1, w1, hq, .pass (x := .inLoop x) rfl (fun _ _ => .inl (by simp)) harr⟩
theorem YLoop.loop {P : Program} {E : Type} {h : Host P E} {ro : Option Nat} {x : Code} {tr : List E} {σ : TS} {Q : Exit -> List E -> TS -> Prop} (ht : YLoop P h ro x tr σ Q) : YAW P h ro (.loop x) tr σ Q := by
 intro c ds a w Q' hrel hw hi hds hK b k cs hro _ _;obtain ⟨e, a2, w2, hq, harr⟩ := ht c ds a w Q' hrel hw hi hds hK b k cs hro;exact ⟨e, a2, w2, hq, .of_steps (.one (jr ro P _) stepR_loop) harr⟩
variable {o : Oper}
theorem zp0 {l : Nat} {fo : Operand} {xs : Array Operand} {ats : Array TypeId} {ρ : Operand -> Value} (ho : o.op = .call { callee := .value fo, args := xs, argTypes := ats })
  (hρ : ρ fo = .func (.yield l) #[] #[]) (w : World) {r : Result Next} (hr : (Instr.yield l (xs.map ρ)).run P w = r) : (execOp ρ o).run P w = r := by
 simp only [execOp, ho, resolve, hρ, Deferred.ofValue, Sem.run_bind, Sem.run_pure, Result.andThen_ok, invoke];simpa using hr
theorem zmq {ro : Option Nat} {n l : Nat} {vs : Array Value} {w : World} {R : Ending -> World -> Prop} (h : YieldAt (Wd none) n P l vs w R) : YieldAt (Wd ro) n P l vs w R := h
theorem zpf {h : Host P E} {ro : Option Nat} {fo : Operand} {xs : Array Operand} {ats : Array TypeId} {tr : List E} {x : E} {y : Bool} (ho : o.op = .call { callee := .value fo, args := xs, argTypes := ats })
  (hfo : σ.eval fo = .yl h.l) (hx : CLe ((xs.toList.map σ.eval).map TV.pv) ((h.emb x).map TV.pv)) (hxw : TV.wfs (h.emb x)) (hxl : (h.emb x).length = xs.toList.length) (hgo : h.dec (tr ++ [x]) = some y)
  {c : Cx} {ds : List Nat} {a : Act} {w : World} {K : Act -> World -> Prop} {Q' : Exit -> Act -> World -> Prop} (hr : RelT w c σ a) (hw : σ.wf) (hi : Inv h ro ds tr w c σ.flat.H)
  (hK : ∀ c' a' w', RelT w' c' (σ.put o.dst (.v .bool y)) a' -> Inv h ro ds (tr ++ [x]) w' c' (σ.put o.dst (.v .bool y)).flat.H -> a'.defers = a.defers -> K a' w') :
  o.wpIn (Wd ro) 0 P a w K Q' := by
 have hfv := hr.2.2.eval fo;rw [zb hfo (by simp)] at hfv
 simp only [TV.pv, VR] at hfv;have hvs : VRs w c ((h.emb x).map TV.pv) (fun i => (xs.map a.eval)[i]?) := by
  have hgd : Gd w c := ⟨_, _, hr.2.1⟩;refine jk hgd hx (jk hgd (z7y σ xs.toList) (zU fun i p hi => ?_))
  rw [List.getElem?_map] at hi;cases hxi : xs.toList[i]? with
  | none => rw [hxi] at hi; cases hi
  | some y =>
   rw [hxi] at hi; simp at hi; subst hi;have hx' : xs[i]? = some y := by simpa using hxi
   exact ⟨a.eval y, by simp [hx'], hr.2.2.eval y⟩
 have hsz : (xs.map a.eval).size = (h.emb x).length := by rw [hxl]; simp
 obtain ⟨⟨cb, Hb, two, hJ, hd, hrr⟩, hn, h0, nd, d, r⟩ := hi;obtain ⟨fn, tmps, assign, body, hy, hR⟩ := zmq (ro := ro) (h.yield tr x y (xs.map a.eval) w cb Hb c _ hgo two hJ h0 hn hsz hxw hvs);refine ⟨fun _ _ => trivial, ?_⟩
 have hrun : (o.semAt (Wd ro).round a.eval).run P w = .ok (.round h.l fn tmps assign body) w := by
  rw [Oper.semAt_eq _ _ _ (fun d e => by rw [ho] at e; cases e)]
  exact zp0 ho hfv.1 w hy
 rw [hrun];refine ⟨fun h => by simp [Wd, Fence.wide] at h, hR.mono ?_⟩
 rintro e w' ⟨rfl, cb', Hb', f, hg, hok, g', hJ'⟩;obtain ⟨t2, s2⟩ := two.round f hg hok g';have hr1 : RelT w' { c with ok := fun k e => h.K0 k e /\ ¬ (cb'.own k \/ h.X k) } σ a := by
  refine ⟨hr.1, t2.i, hr.2.2.1, fun t p hl ht => ?_⟩
  obtain ⟨v, h1, h2⟩ := hr.2.2.2 t p hl ht;exact ⟨v, h1, VR.sees s2 _ h2⟩
 have hr2 := z1q (v := .bool y) (t := .v .bool y) o.dst hr1 (by simp only [TV.pv, pvU, VR]; exact ⟨trivial, rfl⟩)
 have e1 : (σ.put o.dst (.v .bool y)).flat.H = σ.flat.H := by
  simp only [TS.flat, (jL _ _ _).1]
 have keep : ∀ k, k < w.heap.size -> some k ∉ cb.m -> ¬ h.X k -> w'.heap[k]? = w.heap[k]? /\ some k ∉ cb'.m := fun k hk hm hX => ⟨f.keep k hk fun h' => h'.elim hm hX, fun h' => (hg k h').elim hm fun h2 => absurd hk (kC.2 h2)⟩
 refine hK _ _ w' hr2 ⟨⟨cb', Hb', by rw [e1]; exact t2, hJ', fun D hD => ?_, fun l hl => ?_⟩, hn, kB h0 f.size, nd, fun D hD => ?_, fun l hl => ?_⟩ (Act.put_defers' _ _ _)
 ·obtain ⟨h1, h2, h3, h4⟩ := d D hD;exact (keep D (kA.1 h2).1 (hd D hD) h4).2
 ·obtain ⟨h1, h2, rr, h3⟩ := r l hl;exact (keep l (kA.1 h3).1 (hrr l hl) h1).2
 ·obtain ⟨h1, h2, h3, h4⟩ := d D hD;exact ⟨h1, (keep D (kA.1 h2).1 (hd D hD) h4).1.trans h2, h3, h4⟩
 ·obtain ⟨h1, h2, rr, h3⟩ := r l hl;exact ⟨h1, h2, rr, (keep l (kA.1 h3).1 (hrr l hl) h1).1.trans h3⟩
def z3m (A : List Pat) (x : LT (zi A)) : List TV := (z4u (fun _ => 0) A (yj (zi A) x)).1
variable {R : Type}
def zk6 (A : List Pat) (args : List TV) (k : LT (zi A) -> Option R) : Option R :=
 match yG A args with
 | some la => vp (zi A) la fun x => z39 (fun _ => 0) (jQ A args) (k x)
 | none => none
theorem zmf {A : List Pat} {args : List TV} {k : LT (zi A) -> Option R} {r : R} (hwa : TV.wfs args) (h : zk6 A args k = some r) : ∃ x, k x = some r /\ FitsL args (z3m A x) := by
 unfold zk6 at h;split at h
 ·rename_i la ha;have hlw := vk _ _ hwa ha;obtain ⟨x, h1, h2, h3, h4⟩ := z6e (zi A) _ hlw h;obtain ⟨h1, hg⟩ := z4x h1;refine ⟨x, h1, ?_⟩;unfold z3m;generalize hvs : yj (zi A) x = vs at h3 h4;obtain ⟨ts', f1, f2⟩ := vZ (lens := fun _ => 0) A args [] hwa ha ⟨h3.symm, h4⟩ hg
  rw [List.append_nil] at f1;rw [f1]; exact f2
 ·cases h
def zv2 (o : Oper) (σ : TS) : Bool :=
 match o.op with
 | .call { callee := .value fo, args := _, argTypes := _ } => match σ.eval fo with
  | .yl _ => true
  | _ => false
 | _ => false
def zvz (own : List Nat) (i : Nat) (o : Oper) (σ : TS) : List Nat :=
 bif z17 own i then (match o.op with
  | .call { callee := _, args := xs, argTypes := _ } => xs.toList.flatMap fun x => zg8 (σ.eval x)
  | _ => []) else []
def zgz (A : List Pat) (dec : Nat -> List (LT (zi A)) -> Option Bool) (o : Oper) (tr : List (LT (zi A))) (σ : TS) (k : List (LT (zi A)) -> TS -> Option R) : Option R :=
 match o.op with
 | .call { callee := .value fo, args := xs, argTypes := _ } => match σ.eval fo with
  | .yl l => zk6 A (xs.toList.map σ.eval) fun x => (dec l (tr ++ [x])).bind fun b => k (tr ++ [x]) (σ.put o.dst (.v .bool b))
  | _ => none
 | _ => none
def zm8 (A : List Pat) (dec : Nat -> List (LT (zi A)) -> Option Bool) (own : List Nat) (i : Nat) (o : Oper) (tr : List (LT (zi A))) (σ : TS) (k : List (LT (zi A)) -> TS -> Option R) : Option R :=
 match zvz own i o σ with
 | [] => zgz A dec o tr σ k
 | b :: bs => bif jR σ.p (z4y (kF σ.H) σ.p (b :: bs) []) then zgz A dec o tr (zp7 σ (b :: bs)) k else none
structure DecOK {P : Program} {A : List Pat} (h : Host P (LT (zi A))) (dec : Nat -> List (LT (zi A)) -> Option Bool) : Prop where
 emb : h.emb = z3m A
 dec : ∀ l tr b, dec l tr = some b -> l = h.l /\ h.dec tr = some b
def zja (P : Program) (h : Host P E) (ro : Option Nat) (o : Oper) (tr : List E) (σ : TS) (N : List E -> TS -> Prop) : Prop :=
 ∀ c ds a w (K : Act -> World -> Prop) (Q : Exit -> Act -> World -> Prop), RelT w c σ a -> Inv h ro ds tr w c σ.flat.H ->
  (∀ c' a' w' tr' σ', N tr' σ' -> σ'.wf -> RelT w' c' σ' a' -> Inv h ro ds tr' w' c' σ'.flat.H -> a'.defers = a.defers -> K a' w') -> o.wpIn (Wd ro) 0 P a w K Q
theorem ztf {h : Host P E} {ro : Option Nat} {tr : List E} {N : TS -> Prop} (hc : ∀ c, o.op ≠ .defer c) (ht : z1g P o σ N) : zja P h ro o tr σ (fun tr' σ' => tr' = tr /\ N σ') := by
 intro c ds a w K Q hr hi hK;exact zhi hc (ht c a w K Q hr fun c' a' w' σ' hN hw' hr' hx hd => hK c' a' w' tr σ' ⟨rfl, hN⟩ hw' hr' (hi.step hx hr'.2.1) hd)
theorem zek {A : List Pat} {h : Host P (LT (zi A))} {dec : Nat -> List (LT (zi A)) -> Option Bool} (hd : DecOK h dec) {ro : Option Nat} {tr : List (LT (zi A))} {k : List (LT (zi A)) -> TS -> Option R} {r : R} (hw : σ.wf)
  (hh : zgz A dec o tr σ k = some r) : zja P h ro o tr σ (fun tr' σ' => k tr' σ' = some r) := by
 unfold zgz at hh;split at hh
 ·rename_i fo xs ats ho;split at hh
  ·rename_i l hfo;obtain ⟨x, h1, h2⟩ := zmf (xm.2 fun t ht => by
    simp only [List.mem_map] at ht;obtain ⟨y, _, rfl⟩ := ht;exact zu hw y) hh
   rw [kE] at h1;obtain ⟨b, hb, h1⟩ := h1;obtain ⟨e1, e2⟩ := hd.dec _ _ _ hb;subst e1;have ee : h.emb x = z3m A x := by rw [hd.emb]
   intro c ds a w K Q hr hi hK;refine zpf (x := x) ho hfo ?_ ?_ ?_ e2 hr hw hi fun c' a' w' hr' hi' hdf => hK c' a' w' _ _ h1 (qe hw _ (by simp only [TV.wf, wfU])) hr' hi' hdf
   ·rw [ee]; have := h2.pvs; rwa [xl, xl] at this
   ·rw [ee]; exact h2.wf
   ·rw [ee, h2.len]; simp
  ·cases hh
 ·cases hh
theorem zpg {A : List Pat} {h : Host P (LT (zi A))} {dec : Nat -> List (LT (zi A)) -> Option Bool} (hd : DecOK h dec) {ro : Option Nat} {own : List Nat} {i : Nat} {tr : List (LT (zi A))} {k : List (LT (zi A)) -> TS -> Option R} {r : R} (hw : σ.wf)
  (hh : zm8 A dec own i o tr σ k = some r) : zja P h ro o tr σ (fun tr' σ' => k tr' σ' = some r) := by
 unfold zm8 at hh;split at hh
 ·exact zek hd hw hh
 ·rename_i b bs _;cases hc : jR σ.p (z4y (kF σ.H) σ.p (b :: bs) []) with
  | false => rw [hc] at hh; cases hh
  | true =>
   rw [hc] at hh;have h1 := zek (ro := ro) hd (σ := zp7 σ (b :: bs)) (zhu hw) hh;intro c ds a w K Q hr hi hK;obtain ⟨q1, q2⟩ := zlk hr hw hc (b :: bs) (hs := List.replicate (kF σ.H) .gone) (by simp [z4y])
   exact h1 _ ds a w K Q q1 (hi.step q2 q1.2.1) hK
noncomputable def zcu {R : Type} (P : Program) (V : Env) (A : List Pat) (dec : Nat -> List (LT (zi A)) -> Option Bool) (own : List Nat) (ops : Array Oper) : List Oper -> Nat -> List (LT (zi A)) -> TS -> (List (LT (zi A)) -> TS -> Option R) -> Option R
 | [], _, tr, σ, k => k tr σ
 | o :: r, i, tr, σ, k => z9k ops o σ σ (fun σ => bif zv2 o σ then zm8 A dec own i o tr σ fun tr' σ' => zcu P V A dec own ops r (i + 1) tr' σ' k
   else zkd P V own i o σ fun σ' => zcu P V A dec own ops r (i + 1) tr σ' k) (fun σ => zcu P V A dec own ops r (i + 1) tr (σ.put o.dst (.tup [])) k)
theorem zcv {R : Type} {P : Program} {V : Env} (hV : EnvsOK P V) {A : List Pat} {h : Host P (LT (zi A))} {dec : Nat -> List (LT (zi A)) -> Option Bool} (hd : DecOK h dec) {ro : Option Nat} {own : List Nat} {ops : Array Oper} (hcm : z8m ops.toList = true) {k : List (LT (zi A)) -> TS -> Option R} {r : R} :
  ∀ (l : List Oper) (i : Nat) {tr : List (LT (zi A))} {σ : TS}, ops.toList.drop i = l -> σ.wf -> zcu P V A dec own ops l i tr σ k = some r ->
  ∀ (c : Cx) (ds : List Nat) (a : Act) (w : World) (Q' : Exit -> Act -> World -> Prop), RelT w c σ a -> Inv h ro ds tr w c σ.flat.H ->
  (∀ c' a' w' tr' σ', k tr' σ' = some r -> σ'.wf -> RelT w' c' σ' a' -> Inv h ro ds tr' w' c' σ'.flat.H -> a'.defers = a.defers -> Q' .normal a' w') -> wpOpsIn (Wd ro) 0 P ops Q' (List.range' i l.length) a w
 | [], i, tr, σ, hdr, hw, hh => fun _ _ _ _ _ hr hi hK => hK _ _ _ tr σ (by simpa only [zcu] using hh) hw hr hi rfl
 | o :: l, i, tr, σ, hdr, hw, hh => by
  have ho : ops[i]? = some o := by
   have : ops.toList[i]? = some o := by
    have h3 : (ops.toList.drop i)[0]? = some o := by rw [hdr]; rfl
    rw [List.getElem?_drop] at h3; simpa using h3
   simpa using this
  have hdr' : ops.toList.drop (i + 1) = l := by
   have : ops.toList.drop (i + 1) = (ops.toList.drop i).drop 1 := by rw [List.drop_drop]
   rw [this, hdr]; rfl
  simp only [zcu] at hh;obtain ⟨g, σ', hg, hs, hh⟩ := z3o hw (fun _ _ e => e) hh
  intro c ds a w Q' hr hi hK;have hi' : Inv h ro ds tr w c σ'.flat.H := by rw [hs.flat]; exact hi
  cases g with
  | true =>
   simp only [if_true] at hh;have st : zja P h ro o tr σ' (fun tr' σ2 => zcu P V A dec own ops l (i + 1) tr' σ2 k = some r) := by
    cases hy : zv2 o σ' with
    | true => rw [hy, cond_true] at hh; exact zpg hd hs.wf hh
    | false =>
     rw [hy, cond_false] at hh;intro c ds a w K Q hr hi hK;refine ztf (zh6 hcm ho) (zag hV hs.wf hh).1 c ds a w K Q hr hi fun c' a' w' tr' σ2 hN => hK c' a' w' tr' σ2 ?_
     rw [hN.1]; exact hN.2.1
   simp only [List.length_cons, List.range'_succ, wpOpsIn, ho];rw [yZ hr.2.2 hg];simp only [if_true];refine st c ds a w _ Q' (hr.same hs) hi' fun c' a' w' tr' σ2 hk hw2 hr2 hi2 hdf => ?_
   exact zcv hV hd hcm l (i + 1) hdr' hw2 hk _ ds _ _ Q' hr2 hi2 fun c3 a3 w3 tr3 σ3 hk3 hw3 hr3 hi3 hd3 => hK c3 a3 w3 tr3 σ3 hk3 hw3 hr3 hi3 (hd3.trans hdf)
  | false =>
   simp only [Bool.false_eq_true, if_false] at hh;have hwp := qe hs.wf o.dst zd9;simp only [List.length_cons, List.range'_succ, wpOpsIn, ho];rw [yZ hr.2.2 hg];simp only [Bool.false_eq_true, if_false];refine ⟨fun _ _ => trivial, zcv hV hd hcm l (i + 1) hdr' hwp hh _ ds _ _ Q' (z1q o.dst (hr.same hs) (by simp only [TV.pv, TV.pvs]; exact z6v)) ?_ fun c3 a3 w3 tr3 σ3 hk3 hw3 hr3 hi3 hd3 => hK c3 a3 w3 tr3 σ3 hk3 hw3 hr3 hi3 (hd3.trans (Act.put_defers' _ _ _))⟩
   have e1 : (σ'.put o.dst (.tup [])).flat.H = σ'.flat.H := by
    simp only [TS.flat, (jL _ _ _).1]
   rw [e1]; exact hi'
theorem YAW.region {R : Type} {P : Program} {V : Env} (hV : EnvsOK P V) {A : List Pat} {h : Host P (LT (zi A))} {dec : Nat -> List (LT (zi A)) -> Option Bool} (hd : DecOK h dec) {ro : Option Nat} {own : List Nat} {id : Nat} {ops : Array Oper} {tr : List (LT (zi A))} {σ : TS} {k : List (LT (zi A)) -> TS -> Option R} {r : R}
  (hcm : z8m ops.toList = true) (hh : zcu P V A dec own ops ops.toList 0 tr σ k = some r) : YAW P h ro (.region id ops false) tr σ (fun e tr' σ' => e = .normal /\ k tr' σ' = some r) := by
 intro c ds a w Q' hr hw hi hds hK;refine wpIn_mono (Q := fun e a w => e = .normal /\ Q' e a w) (wpIn_region ?_) fun _ _ _ h => h.2
 have := zcv hV hd (ro := ro) hcm ops.toList 0 (by simp) hw hh c ds a w (fun e a w => e = .normal /\ Q' e a w) hr hi fun c' a' w' tr' σ' hk hw' hr' hi' hdf => ⟨rfl, hK .normal c' ds a' w' σ' tr' ⟨rfl, hk⟩ hw' hr' hi' (hdf.trans hds)⟩
 rw [List.range_eq_range'];simpa using this
def zvw (E : Type) : Type 1 := {R : Type} -> List E -> TS -> (Exit -> List E -> TS -> Option R) -> Option R
inductive HY (E : Type) : Type 1 where
 | no
 | pl (h : HT)
 | two (a b : HY E)
 | join (X : TS -> XS) (a b : HY E)
 | over (d : {R : Type} -> List E -> TS -> (Exit -> List E -> TS -> Option R) -> Option R)
 | reg (own : List Nat)
def HY.l : HY E -> HY E
 | .two a _ | .join _ a _ => a
 | _ => .no
def HY.r : HY E -> HY E
 | .two _ b | .join _ _ b => b
 | _ => .no
def HY.own {E : Type} : HY E -> List Nat
 | .reg own => own
 | _ => []
def zvd (A : List Pat) (tr : List (LT (zi A))) : Prop := ∀ e, e ∈ tr -> TV.wfs (z3m A e)
structure SoundY (P : Program) (A : List Pat) (dec : Nat -> List (LT (zi A)) -> Option Bool) (x : Code) (d : zvw (LT (zi A))) : Prop where
 yaw : ∀ (h : Host P (LT (zi A))) (ro : Option Nat), DecOK h dec -> ∀ (R : Type) (tr : List (LT (zi A))) (σ : TS) (k : Exit -> List (LT (zi A)) -> TS -> Option R) (r : R), d tr σ k = some r -> YAW P h ro x tr σ (fun e tr' σ' => k e tr' σ' = some r)
 wf : ∀ (R : Type) (tr : List (LT (zi A))) (σ : TS) (k : Exit -> List (LT (zi A)) -> TS -> Option R) (r : R), zvd A tr -> σ.wf -> d tr σ k = some r -> ∃ e tr' σ', zvd A tr' /\ σ'.wf /\ k e tr' σ' = some r
inductive OblY (E : Type) : Type 1 where
 | den (x : Code) (d : {R : Type} -> List E -> TS -> (Exit -> List E -> TS -> Option R) -> Option R)
 | xs (X : TS -> XS)
 | pl (o : Obl)
def OblY.OK (P : Program) {A : List Pat} (dec : Nat -> List (LT (zi A)) -> Option Bool) : OblY (LT (zi A)) -> Prop
 | .den x d => SoundY P A dec x d
 | .xs X => ∀ σ, (X σ).OK
 | .pl o => o.OK P
def zvy (σ : TS) (t : Nat) (v : TV) : TS := { σ with slots := (t, v) :: σ.slots }
def XE.yl (t : Nat) (S : XE) : XE where
 T := Nat × S.T
 fit := S.fit
 close := fun σ k => match σ.get t with
  | .yl l => S.close σ fun s => k (l, s)
  | _ => none
 st := fun x => zvy (S.st x.2) t (.yl x.1)
mutual
def qV (q : Nat) : PV -> Prop
 | .val _ => True
 | .ptr b _ => b < q
 | .fz cs => qA q cs
 | .sl b _ _ _ => b < q
 | .tr _ cs t => t.isTok = false /\ qA q cs
 | .fn _ caps => qA q caps
 | .agg cs => qA q cs
 | .tup cs => qA q cs
 | .ifc _ p => qV q p
 | .mp b => b < q
 | .one => True
 | .dead => True
def qA (q : Nat) : List PV -> Prop
 | [] => True
 | p :: ps => qV q p /\ qA q ps
end
mutual
theorem qG (q : Nat) : ∀ p : PV, Ab.Pure p -> qV q p
 | .val _, _ => by simp only [qV]
 | .ptr _ _, h => by simp only [Ab.Pure] at h
 | .mp _, h => by simp only [Ab.Pure] at h
 | .fz cs, h => by simp only [Ab.Pure] at h; simp only [qV]; exact yR q cs h
 | .sl _ _ _ _, h => by simp only [Ab.Pure] at h
 | .tr _ cs t, h => by simp only [Ab.Pure] at h; simp only [qV]; exact ⟨h.1, yR q cs h.2⟩
 | .fn _ caps, h => by simp only [Ab.Pure] at h; simp only [qV]; exact yR q caps h
 | .agg cs, h => by simp only [Ab.Pure] at h; simp only [qV]; exact yR q cs h
 | .tup cs, h => by simp only [Ab.Pure] at h; simp only [qV]; exact yR q cs h
 | .ifc _ p, h => by simp only [Ab.Pure] at h; simp only [qV]; exact qG q p h
 | .one, _ => by simp only [qV]
 | .dead, _ => by simp only [qV]
theorem yR (q : Nat) : ∀ ps : List PV, yf ps -> qA q ps
 | [], _ => by simp only [qA]
 | p :: ps, h => by simp only [yf] at h; simp only [qA]; exact ⟨qG q p h.1, yR q ps h.2⟩
end
theorem zcn {q : Nat} : ∀ {a b : List PV}, qA q a -> qA q b -> qA q (a ++ b)
 | [], b, _, h => h
 | p :: a, b, h, g => by simp only [qA, List.cons_append] at h ⊢; exact ⟨h.1, zcn h.2 g⟩
mutual
def vb (q : Nat) : TV -> Bool
 | .ptr b _ _ => Nat.blt b q
 | .os b _ _ _ _ _ => Nat.blt b q
 | .mp b => Nat.blt b q
 | .agg ts => z4z q ts
 | .tup ts => z4z q ts
 | .fn _ ts => z4z q ts
 | t => t.pureB
def z4z (q : Nat) : List TV -> Bool
 | [] => true
 | t :: ts => vb q t && z4z q ts
end
mutual
theorem zl0 (q : Nat) : ∀ t : TV, t.wf -> vb q t = true -> qV q t.pv /\ qA q t.cells
 | .ptr b r p, hw, h => by
  simp only [vb] at h;have := kG.mp h;simp only [TV.cells, TV.pv, cellsOf, qV, qA];exact ⟨this, this, trivial⟩
 | .os b r p u lo n, hw, h => by
  simp only [vb] at h;have := kG.mp h;simp only [TV.cells, TV.pv, cellsOf, qV, qA];exact ⟨this, this, trivial⟩
 | .agg ts, hw, h => by
  simp only [vb] at h;simp only [TV.wf] at hw;have := z8c q ts hw.2.1 h;simp only [TV.cells, TV.pv, cellsOf, qV];exact ⟨this.2, this.2⟩
 | .tup ts, hw, h => by
  simp only [vb] at h;simp only [TV.wf] at hw;have := z8c q ts hw h;simp only [TV.cells, TV.pv, cellsOf, qV, qA];exact ⟨this.1, this.1, trivial⟩
 | .fn f ts, hw, h => by
  simp only [vb] at h;simp only [TV.wf] at hw;have := z8c q ts hw h;simp only [TV.cells, TV.pv, cellsOf, qV, qA];exact ⟨this.1, this.1, trivial⟩
 | .v u x, hw, h => by have := yS _ hw (by simpa only [vb] using h); exact ⟨qG q _ this.1, yR q _ this.2⟩
 | .rf t, hw, h => by have := yS _ hw (by simpa only [vb] using h); exact ⟨qG q _ this.1, yR q _ this.2⟩
 | .nil, hw, h => by have := yS _ hw (by simpa only [vb] using h); exact ⟨qG q _ this.1, yR q _ this.2⟩
 | .fsl u l, hw, h => by have := yS _ hw (by simpa only [vb] using h); exact ⟨qG q _ this.1, yR q _ this.2⟩
 | .osf u l lo n, hw, h => by have := yS _ hw (by simpa only [vb] using h); exact ⟨qG q _ this.1, yR q _ this.2⟩
 | .one, hw, h => by have := yS _ hw (by simpa only [vb] using h); exact ⟨qG q _ this.1, yR q _ this.2⟩
 | .nilp, hw, h => by have := yS _ hw (by simpa only [vb] using h); exact ⟨qG q _ this.1, yR q _ this.2⟩
 | .nilf, hw, h => by have := yS _ hw (by simpa only [vb] using h); exact ⟨qG q _ this.1, yR q _ this.2⟩
 | .yl l, hw, h => by have := yS _ hw (by simpa only [vb] using h); exact ⟨qG q _ this.1, yR q _ this.2⟩
 | .nili, hw, h => by have := yS _ hw (by simpa only [vb] using h); exact ⟨qG q _ this.1, yR q _ this.2⟩
 | .mp b, hw, h => by
  simp only [vb] at h;have := kG.mp h;simp only [TV.cells, TV.pv, cellsOf, qV, qA];exact ⟨this, this, trivial⟩
 | .nilm, hw, h => by have := yS _ hw (by simpa only [vb] using h); exact ⟨qG q _ this.1, yR q _ this.2⟩
 | .ifc t x, hw, h => by have := yS _ hw (by simpa only [vb] using h); exact ⟨qG q _ this.1, yR q _ this.2⟩
 | .dead, hw, h => by have := yS _ hw (by simpa only [vb] using h); exact ⟨qG q _ this.1, yR q _ this.2⟩
theorem z8c (q : Nat) : ∀ ts : List TV, TV.wfs ts -> z4z q ts = true -> qA q (TV.pvs ts) /\ qA q (TV.cellsL ts)
 | [], _, _ => by simp only [TV.pvs, TV.cellsL, qA, and_self]
 | t :: ts, hw, h => by
  simp only [TV.wfs] at hw;simp only [z4z, Bool.and_eq_true] at h;have h1 := zl0 q t hw.1 h.1;have h2 := z8c q ts hw.2 h.2;simp only [TV.pvs, TV.cellsL, qA];exact ⟨⟨h1.1, h2.1⟩, zcn h1.2 h2.2⟩
end
structure PSees (q : Nat) (w : World) (c : Cx) (w' : World) (c' : Cx) : Prop where
 m : ∀ b k : Nat, b < q -> c.m[b]? = some (some k) -> c'.m[b]? = some (some k)
 foot : ∀ a n, Foot w c a n -> Foot w' c' a n
 cell : ∀ (a : Addr) n i v, Foot w c a n -> i < n -> w.cell? ⟨a.block, a.off + i, none⟩ = some v -> w'.cell? ⟨a.block, a.off + i, none⟩ = some v
 room : ∀ (b k : Nat) vs e fr, b < q -> c.m[b]? = some (some k) -> w.heap[k]? = some (Obj.cells vs e fr) -> ∃ (vs' : Array Value) (fr' : Nat × Nat), w'.heap[k]? = some (Obj.cells vs' e fr') /\ vs'.size = vs.size
mutual
theorem VR.psees {q : Nat} {w w' : World} {c c' : Cx} (x : PSees q w c w' c') : ∀ (p : PV) {v : Value}, qV q p -> VR w c p v -> VR w' c' p v
 | .val _, _, _, h => by simp only [VR] at h ⊢; exact h
 | .ptr b off, _, hl, h => by
  simp only [VR, qV] at h hl ⊢;obtain ⟨k, h1, h2⟩ := h;exact ⟨k, x.m _ _ hl h1, h2⟩
 | .mp b, _, hl, h => by
  simp only [VR, qV] at h hl ⊢;obtain ⟨k, h1, h2⟩ := h;exact ⟨k, x.m _ _ hl h1, h2⟩
 | .fz cs, _, hp, h => by
  simp only [VR, qV] at h hp ⊢;obtain ⟨a, h1, h2, hl, h3⟩ := h;exact ⟨a, h1, x.foot _ _ h2, hl, VRs.psees x cs hp (fun i hi v hv => x.cell a _ i v h2 hi hv) h3⟩
 | .sl b off len sz, _, hl, h => by
  simp only [VR, qV] at h hl ⊢;rcases h with h | ⟨k, cap, off', h1, h2, h0, h3, vs, e, fr, h4, h5⟩
  ·exact .inl h
  ·obtain ⟨vs', fr', h6, h7⟩ := x.room b k vs e fr hl h1 h4;exact .inr ⟨k, cap, off', x.m _ _ hl h1, h2, h0, h3, vs', e, fr', h6, by omega⟩
 | .tr len cs t, _, hp, h => by
  simp only [VR, qV] at h hp ⊢;rcases h with h | ⟨a, cap, h1, hc, h2, h4, hl, h3⟩
  ·exact .inl h
  ·refine .inr ⟨a, cap, h1, hc, x.foot _ _ h2, ?_, hl, VRs.psees x cs hp.2 (fun i hi v hv => x.cell a _ i v h2 hi hv) h3⟩
   cases t with
   | no => trivial
   | full => exact h4
   | tok i sz => simp [Tail.isTok] at hp
 | .fn f caps, _, hp, h => by
  simp only [VR, qV] at h hp ⊢;obtain ⟨cv, h1, h2, h3⟩ := h;exact ⟨cv, h1, h2, VRs.psees x caps hp (fun _ _ _ e => e) h3⟩
 | .agg cs, _, hp, h => by
  simp only [VR, qV] at h hp ⊢;obtain ⟨cv, h1, h2, hl, h3⟩ := h;exact ⟨cv, h1, h2, hl, VRs.psees x cs hp (fun _ _ _ e => e) h3⟩
 | .tup cs, _, hp, h => by
  simp only [VR, qV] at h hp ⊢;obtain ⟨cv, h1, h2, h3⟩ := h;exact ⟨cv, h1, h2, VRs.psees x cs hp (fun _ _ _ e => e) h3⟩
 | .ifc t p, _, hp, h => by
  simp only [VR, qV] at h hp ⊢;obtain ⟨v, h1, h2⟩ := h;exact ⟨v, h1, VR.psees x p hp h2⟩
 | .one, _, _, h => by simp only [VR] at h ⊢; exact h
 | .dead, _, _, _ => by simp only [VR]
theorem VRs.psees {q : Nat} {w w' : World} {c c' : Cx} (x : PSees q w c w' c') : ∀ (ps : List PV) {f g : Nat -> Option Value}, qA q ps ->
  (∀ i, i < ps.length -> ∀ v, f i = some v -> g i = some v) -> VRs w c ps f -> VRs w' c' ps g
 | [], _, _, _, _, _ => by simp only [VRs]
 | p :: ps, f, g, hp, hfg, h => by
  simp only [VRs, qA] at h hp ⊢;obtain ⟨⟨v, h1, h2⟩, h3⟩ := h;exact ⟨⟨v, hfg 0 (by simp) v h1, VR.psees x p hp.1 h2⟩, VRs.psees x ps hp.2 (fun i hi u hu => hfg (i + 1) (by simp; omega) u hu) h3⟩
end
theorem zqo {q : Nat} {w w' : World} {c c' c2 : Cx} (hT : c.T = []) (hT2 : c2.T = []) (x : ExtP q w c w' c') (hm : c2.m = c'.m) (hok : ∀ k e, k < w.heap.size -> some k ∉ c.m -> c.ok k e -> c2.ok k e) : PSees q w c w' c2 where
 m := fun b k hb h => by rw [hm]; exact x.pin b k hb h
 foot := fun a n h => by
  rcases h with h | ⟨h1, h2, h3, h4, h5⟩
  ·exact .inl h
  ·exact .inr ⟨h1, kD h2 x.size, by rw [hm]; exact fun h' => (x.new _ h').elim h3 fun h'' => absurd h2 (kC.2 h''), fun i k h => by rw [hT2] at h; simp at h, hok _ _ h2 h3 h5⟩
 cell := fun a n i v h hi hv => by
  rcases h with h | ⟨h1, h2, h3, h4, h5⟩
  ·omega
  ·have : w'.cell? ⟨a.block, a.off + i, none⟩ = w.cell? ⟨a.block, a.off + i, none⟩ := qy (x.blocks _ h2 h3);rw [this]; exact hv
 room := fun b k vs e fr _ _ hh => x.room k vs e fr hh
theorem zmo {q n : Nat} {w w' : World} {c c2 : Cx} {sl : List (Nat × TV)} {H H' : List AObj} {tm : Array Value} (x : PSees q w c w' c2) (hwf : ∀ z, z ∈ sl -> z.2.wf) (hlow : z4z q (sl.map (·.2)) = true)
  (h : SlotsR w c ⟨n, sl.map (fun x => (x.1, x.2.pv)), H, []⟩ tm) : SlotsR w' c2 ⟨n, sl.map (fun x => (x.1, x.2.pv)), H', []⟩ tm := by
 refine ⟨h.1, fun t p hl ht => ?_⟩
 obtain ⟨v, h1, h2⟩ := h.2 t p hl ht;refine ⟨v, h1, VR.psees x p ?_ h2⟩;simp only at hl;rw [vC] at hl;cases hlk : yn sl t with
 | none => rw [hlk] at hl; cases hl
 | some u =>
  rw [hlk] at hl;simp only [Option.map_some, Option.some.injEq] at hl;subst hl;obtain ⟨z, hz, e⟩ := z3b hlk;have hall : ∀ (l : List TV), z4z q l = true -> ∀ t, t ∈ l -> vb q t = true := by
   intro l
   induction l with
   | nil => intro _ t ht; cases ht
   | cons a l ih =>
    intro hl t ht;simp only [z4z, Bool.and_eq_true] at hl;rcases List.mem_cons.1 ht with rfl | ht
    ·exact hl.1
    ·exact ih hl.2 t ht
  have hm : u ∈ sl.map (·.2) := by rw [<- e]; exact List.mem_map_of_mem hz
  rw [<- e];exact (zl0 q _ (hwf z hz) (by rw [e]; exact hall _ hlow u hm)).1
def zd4 {T E Y : Type} (B : T -> E -> Option (T ⊕ Y)) : T -> List E -> Option (T ⊕ Y)
 | h, [] => some (.inl h)
 | h, x :: tr => (B h x).bind fun s => match s with
  | .inl h' => zd4 B h' tr
  | .inr y => match tr with
   | [] => some (.inr y)
   | _ :: _ => none
def zv1 {T E Y : Type} (B : T -> E -> Option (T ⊕ Y)) (h : T) (tr : List E) : Option Bool := (zd4 B h tr).map Sum.isLeft
theorem zih {T E Y : Type} {B : T -> E -> Option (T ⊕ Y)} : ∀ {tr : List E} {h : T} {x : E} {s : T ⊕ Y}, zd4 B h (tr ++ [x]) = some s -> ∃ h', zd4 B h tr = some (.inl h') /\ B h' x = some s
 | [], h, x, s, hh => by
  simp only [List.nil_append, zd4] at hh ⊢;rw [kE] at hh;obtain ⟨y, h1, h2⟩ := hh;refine ⟨h, rfl, ?_⟩;rw [h1];cases y <;> simpa using h2
 | z :: tr, h, x, s, hh => by
  simp only [List.cons_append, zd4] at hh ⊢;rw [kE] at hh;obtain ⟨y, h1, h2⟩ := hh;rw [h1];simp only [Option.bind_some];cases y with
  | inl h' => exact zih h2
  | inr y => cases tr <;> simp at h2
def z52 : List Tmp -> List TV -> TS -> TS
 | p :: ps, v :: vs, σ => z52 ps vs (σ.put (some p) v)
 | _, _, σ => σ
theorem zn6 : ∀ (ps : List Tmp) (vs : List TV) (σ : TS), (z52 ps vs σ).p = σ.p /\ (z52 ps vs σ).H = σ.H
 | [], _, _ => ⟨rfl, rfl⟩
 | _ :: _, [], _ => ⟨rfl, rfl⟩
 | p :: ps, v :: vs, σ => zn6 ps vs _
theorem zlf : ∀ (ps : List Tmp) (vs : List TV) (σ : TS), σ.wf -> TV.wfs vs -> (z52 ps vs σ).wf
 | [], _, _, h, _ => h
 | _ :: _, [], _, h, _ => h
 | p :: ps, v :: vs, σ, h, hv => by
  simp only [TV.wfs] at hv;exact zlf ps vs _ (qe h _ hv.1) hv.2
theorem zlj {w : World} {c : Cx} : ∀ (ps : List Tmp) (ts : List TV) (vs : List Value) {σ : TS} {tm : Array Value}, RelT w c σ { tmps := tm, defers := [] } -> VRs w c (ts.map TV.pv) (fun i => vs[i]?) -> vs.length = ts.length ->
  RelT w c (z52 ps ts σ) { tmps := (ps.zip vs).foldl (fun t x => t.setIfInBounds x.1 x.2) tm, defers := [] }
 | [], ts, vs, σ, tm, hr, _, _ => by simpa only [z52, List.zip_nil_left, List.foldl_nil] using hr
 | p :: ps, [], [], σ, tm, hr, _, _ => by simpa only [z52, List.zip_nil_right, List.foldl_nil] using hr
 | p :: ps, [], v :: vs, σ, tm, hr, _, hl => by simp at hl
 | p :: ps, t :: ts, [], σ, tm, hr, _, hl => by simp at hl
 | p :: ps, t :: ts, v :: vs, σ, tm, hr, hv, hl => by
  simp only [List.map_cons, VRs] at hv;obtain ⟨⟨v', h1, h2⟩, h3⟩ := hv;simp only [List.getElem?_cons_zero, Option.some.injEq] at h1;subst h1;simp only [z52, List.zip_cons_cons, List.foldl_cons];refine zlj ps ts vs ?_ (by simpa using h3) (by simpa using hl)
  exact z1q (some p) hr h2
noncomputable def zr1 (P : Program) (V : Env) (A : List Pat) (ps : Array Tmp) (assign body : Code) (g1 g2 : HT) (Sh : Shp) (X : XS) (n : Nat) (sl : List (Nat × TV)) (h : LT Sh.codes) (x : LT (zi A)) : Option (LT Sh.codes ⊕ X.T) :=
 zt P V assign g1 (z52 ps.toList (z3m A x) ⟨n, sl, (Sh.st h).H, Sh.pn⟩) fun e σ1 => match e with
  | .normal => zt P V body g2 σ1 fun e σ' => match e with
   | .normal => Sh.close σ' fun h' => some (.inl h')
   | .ret => X.close .ret σ' fun y => some (.inr y)
   | .exit id => X.close (.exit id) σ' fun y => some (.inr y)
   | _ => none
  | _ => none
def XS.no : XS where
 T := Empty
 close := fun _ _ _ => none
 open' := fun x _ => x.elim
 at' := fun x => x.elim
def zkt : Exit -> Option Code
 | .ret => some .ret
 | .exit id => some (.exit id)
 | _ => none
def zcc {Sh : Shp} {X : XS} : LT Sh.codes ⊕ X.T -> List TOb
 | .inl h => (Sh.st h).H
 | .inr y => (X.at' y).2.H
def z1j {Sh : Shp} {X : XS} : LT Sh.codes ⊕ X.T -> Option Code
 | .inl _ => none
 | .inr y => zkt (X.at' y).1
theorem zct {w : World} {D : Nat} {r : Loop} (h : w.heap[D]? = some (.loop r)) (off : Nat) : w.cell? ⟨D, off, none⟩ = none := by
 simp [World.cell?, h]
theorem zsx {w : World} {c : Cx} {a : Act} {l : Nat} {r : Loop} (o' : Obj) (hr : RelT w c σ a) (h : w.heap[l]? = some (.loop r)) (hm : some l ∉ c.m) (hgb : gb <= l) : RelT (w.putObj l o') c σ a := by
 obtain ⟨x, g⟩ := Tm.noncell (o := .loop r) o' hr.2.1 (zct h) hm hgb;exact ⟨hr.1, g, hr.2.2.1, fun t p hl ht => by
  obtain ⟨v, h1, h2⟩ := hr.2.2.2 t p hl ht;exact ⟨v, h1, VR.sees x _ h2⟩⟩
theorem zkh {p : Nat} {w w' : World} {c c' : Cx} {o : Nat -> Nat -> Prop} (x : ExtP p w c w' c') : ExtP p w { c with ok := o } w' { c' with ok := o } := ⟨x.os, x.tape, x.output, x.size, x.new, x.blocks, rfl, x.pn, x.pin, x.room⟩
structure Lp (A : List Pat) (Sh : Shp) (X : XS) where
 w : World
 c : Cx
 q : Nat
 ms : List Nat
 l : Nat
 fid : FuncId
 tmps : Array Value
 ps : Array Tmp
 assign : Code
 body : Code
 dfr : Nat
 B : LT Sh.codes -> LT (zi A) -> Option (LT Sh.codes ⊕ X.T)
 h0 : LT Sh.codes
 n : Nat
 sl : List (Nat × TV)
def Lp.rec' {A : List Pat} {Sh : Shp} {X : XS} (L : Lp A Sh X) (s : LoopState) (p : Option Code) : Loop := { state := s, pending := p, fn := L.fid, tmps := L.tmps, params := L.ps, assign := L.assign, body := L.body, defers := L.dfr }
def Lp.cq {A : List Pat} {Sh : Shp} {X : XS} (L : Lp A Sh X) : Cx := { L.c with pn := L.q }
def Lp.X {A : List Pat} {Sh : Shp} {X : XS} (L : Lp A Sh X) (k : Nat) : Prop := k = L.l \/ k ∈ L.ms
structure Lp.J {A : List Pat} {Sh : Shp} {X : XS} (L : Lp A Sh X) (s : LT Sh.codes ⊕ X.T) (tr : List (LT (zi A))) (W : World) (cb : Cx) (Hb : List AObj) : Prop where
 run : zd4 L.B L.h0 tr = some s
 ext : ExtP L.q L.w L.cq W { cb with ok := L.c.ok }
 ms : ∀ D, D ∈ L.ms -> W.heap[D]? = some (.deferred (some []))
 l : W.heap[L.l]? = some (.loop (L.rec' (if (z1j s).isNone then .ready else .done) (z1j s)))
 H : Hb = (zcc s).map TOb.flat
 wf : ∀ o, o ∈ zcc s -> o.wf
 lft : s.isLeft = (z1j s).isNone
structure Lp.OK {A : List Pat} {Sh : Shp} {X : XS} (P : Program) (V : Env) (g1 g2 : HT) (L : Lp A Sh X) : Prop where
 hV : EnvsOK P V
 ok1 : HOK P L.assign g1
 ok2 : HOK P L.body g2
 hX : X.OK
 T : L.c.T = []
 q : Sh.pn = L.q
 slwf : ∀ z, z ∈ L.sl -> z.2.wf
 low : z4z L.q (L.sl.map (·.2)) = true
 len : ∀ x, (z3m A x).length = L.ps.size
 pu : ∀ x, vM (z3m A x) = true
 hB : ∀ h x, zr1 P V A L.ps L.assign L.body g1 g2 Sh X L.n L.sl h x = L.B h x
 slots : ∃ H, SlotsR L.w L.c ⟨L.n, L.sl.map (fun x => (x.1, x.2.pv)), H, []⟩ L.tmps
 gbn : gb <= L.w.heap.size
 ms : ∀ D, D ∈ L.ms -> L.w.heap.size <= D /\ D ≠ L.l
 ll : L.w.heap.size <= L.l
 okm : ∀ k e e', L.c.ok k e -> e' <= e -> L.c.ok k e'
theorem Lp.OK.Xge {A : List Pat} {Sh : Shp} {X : XS} {V : Env} {g1 g2 : HT} {L : Lp A Sh X} (h : L.OK P V g1 g2) {k : Nat} (hk : L.X k) : L.w.heap.size <= k := hk.elim (fun e => by rw [e]; exact h.ll) fun hD => (h.ms k hD).1
theorem Lp.stay {A : List Pat} {Sh : Shp} {X : XS} {L : Lp A Sh X} {s : LT Sh.codes ⊕ X.T} {tr : List (LT (zi A))} {W W' : World} {cb : Cx} {Hb : List AObj} {ok' : Nat -> Nat -> Prop} (j : L.J s tr W cb Hb) (hn0 : L.w.heap.size <= W.heap.size)
  (fo : Foreign (fun k => L.w.heap.size <= k /\ ¬ cb.own k /\ ¬ L.X k) W W') (hk : zti W W') : L.J s tr W' { cb with ok := ok' } Hb := by
 have kX : ∀ k, L.X k -> k < W.heap.size -> W'.heap[k]? = W.heap[k]? := fun k hk hlt => fo.keep k hlt fun h => h.2.2 hk
 have x := j.ext;refine ⟨j.run, ⟨fo.os.trans x.os, fo.tape.trans x.tape, fo.output.trans x.output, kB x.size fo.size, x.new, fun k hk hm => (fo.keep k (kD hk hn0) fun h => absurd hk (kC.2 h.1)).trans (x.blocks k hk hm), x.ok, x.pn, x.pin, fun k vs e fr h => ?_⟩,
  fun D hD => (kX D (.inr hD) (kA.1 (j.ms D hD)).1).trans (j.ms D hD), (kX L.l (.inl rfl) (kA.1 j.l).1).trans j.l, j.H, j.wf, j.lft⟩
 obtain ⟨vs1, fr1, k1, k2⟩ := x.room k vs e fr h;obtain ⟨vs2, fr2, k3, k4⟩ := hk k vs1 e fr1 k1;exact ⟨vs2, fr2, k3, k4.trans k2⟩
theorem Lp.slots {A : List Pat} {Sh : Shp} {X : XS} {P : Program} {V : Env} {g1 g2 : HT} {L : Lp A Sh X} (hL : L.OK P V g1 g2) {W : World} {c' c2 : Cx} {H' : List AObj} (hT2 : c2.T = []) (x : ExtP L.q L.w L.cq W c') (hm : c2.m = c'.m) (hok : ∀ k e, k < L.w.heap.size -> some k ∉ L.c.m -> L.c.ok k e -> c2.ok k e) :
  SlotsR W c2 ⟨L.n, L.sl.map (fun x => (x.1, x.2.pv)), H', []⟩ L.tmps := by
 obtain ⟨H, hs⟩ := hL.slots;refine zmo (H := H) (c := L.cq) (zqo (c' := c') hL.T hT2 x hm hok) hL.slwf hL.low ?_;refine ⟨hs.1, fun t p hl ht => ?_⟩
 obtain ⟨v, k1, k2⟩ := hs.2 t p hl ht;refine ⟨v, k1, ?_⟩;have y : Sees L.w L.c L.w L.cq := ⟨fun _ _ h => h, hL.T, fun a n hf => hf, fun _ _ _ _ _ _ h => h, fun b k vs e fr _ hh => ⟨vs, fr, hh, rfl⟩⟩
 exact VR.sees y _ k2
theorem Lp.fin {A : List Pat} {Sh : Shp} {X : XS} {V : Env} {g1 g2 : HT} {L : Lp A Sh X} (hL : L.OK P V g1 g2) {tr : List (LT (zi A))} {x : LT (zi A)} {s s' : LT Sh.codes ⊕ X.T} {W w' w2 w3 : World} {cb c' c2 ci : Cx} {Hb Hi : List AObj} {σ2 τ : TS} {a2 : Act} {b : Bool}
  (two : Two L.c.ok L.X W cb Hb ci Hi) (j : L.J s tr W cb Hb) (hst' : zd4 L.B L.h0 (tr ++ [x]) = some s') (hb : s'.isLeft = b) (hx' : ExtP L.q W cb w' c') (hw2 : w'.putObj L.l (.loop { L.rec' .ready none with state := .busy }) = w2) (hx3 : ExtP L.q w2 c' w3 c2)
  (hl3 : w3.heap[L.l]? = some (.loop { L.rec' .ready none with state := .busy })) (hr3 : RelT w3 c2 σ2 a2) (ep2 : σ2.p = L.q) (hτ : Wk σ2 τ) (hτH : τ.H = zcc s') (hjl : s'.isLeft = (z1j s').isNone) :
  ∃ v w4, (Instr.endRound L.l (z1j s')).run P w3 = .ok v w4 /\ (Ending.returned v = Ending.returned (.bool b) /\ ∃ cb' Hb', Foreign (fun k => cb.own k \/ L.X k) W w4 /\ Grows W cb.own cb'.own /\ cb'.ok = cb.ok /\ Ab.Good w4 cb' Hb' [] /\ L.J s' (tr ++ [x]) w4 cb' Hb') := by
 obtain ⟨c3, hr4, hx4⟩ := hτ.2 w3 c2 a2 hr3;have hx4' := hx4 w3 c2 (ExtP.refl _ _ _);rw [ep2] at hx4';have hlW : L.l < W.heap.size := (kA.1 j.l).1;have hlm : some L.l ∉ cb.m := two.xb L.l (.inl rfl);have hlm' : some L.l ∉ c'.m := fun h => (hx'.new L.l h).elim hlm fun h' => absurd hlW (kC.2 h')
 have hs2 : w2.heap.size = w'.heap.size := by rw [<- hw2]; simp
 have hk2 : ∀ k, k ≠ L.l -> w2.heap[k]? = w'.heap[k]? := fun k hk => by rw [<- hw2]; exact World.putObj_heap_other hk
 have hl2lt : L.l < w2.heap.size := by rw [hs2]; exact kD hlW hx'.size
 have hlm2 : some L.l ∉ c2.m := fun h => (hx3.new L.l h).elim hlm' fun h' => absurd hl2lt (kC.2 h')
 have hl3lt : L.l < w3.heap.size := (kA.1 hl3).1;have hlm3 : some L.l ∉ c3.m := fun h => (hx4'.new L.l h).elim hlm2 fun h' => absurd hl3lt (kC.2 h')
 have he := run_endRound (P := P) (z1j s') hl3;have hgl : gb <= L.l := kB hL.gbn hL.ll;have m' : ∀ k, k < W.heap.size -> some k ∉ cb.m -> some k ∉ c'.m := fun k hk hm h => (hx'.new k h).elim hm fun h' => absurd hk (kC.2 h')
 have kp : ∀ k, k < W.heap.size -> some k ∉ cb.m -> k ≠ L.l -> w3.heap[k]? = W.heap[k]? := fun k hk hm hne => by
  have hk' : k < w2.heap.size := by rw [hs2]; exact kD hk hx'.size
  rw [hx3.blocks k hk' (m' k hk hm), hk2 k hne, hx'.blocks k hk hm]
 refine ⟨_, _, he, by rw [<- hb, hjl], c3, _, ?_, ?_, by rw [hx4'.ok, hx3.ok, hx'.ok], (noncell (o := .loop { L.rec' .ready none with state := .busy }) _ hr4.2.1 (zct hl3) hlm3 hgl).2, ?_⟩
 ·refine ⟨?_, ?_, ?_, ?_, fun k hk hm => (World.putObj_heap_other fun e => hm (.inr (.inl e))).trans (kp k hk (fun h => hm (.inl h)) fun e => hm (.inr (.inl e)))⟩
  ·show w3.os = W.os; rw [hx3.os, <- hw2]; exact hx'.os
  ·show w3.tape = W.tape; rw [hx3.tape, <- hw2]; exact hx'.tape
  ·show w3.output = W.output; rw [hx3.output, <- hw2]; exact hx'.output
  ·rw [World.putObj_size]; exact kB hx'.size (by rw [<- hs2]; exact hx3.size)
 ·intro k hk;rcases hx4'.new k hk with hk | hk
  ·rcases hx3.new k hk with hk | hk
   ·exact hx'.new k hk
   ·rw [hs2] at hk; exact .inr (kB hx'.size hk)
  ·exact .inr (kB hx'.size (kB (by rw [<- hs2]; exact hx3.size) hk))
 ·have xa : ExtP L.q L.w L.cq w' { c' with ok := L.c.ok } := ExtP.trans j.ext (zkh (o := L.c.ok) hx');have xb : ExtP L.q L.w L.cq w2 { c' with ok := L.c.ok } := by rw [<- hw2]; exact zh9 xa hL.ll
  have xc : ExtP L.q L.w L.cq w3 { c3 with ok := L.c.ok } := ExtP.trans (ExtP.trans xb (zkh (o := L.c.ok) hx3)) (zkh (o := L.c.ok) hx4');refine ⟨hst', zh9 xc hL.ll, fun D hD => ?_, ?_, by rw [<- hτH]; rfl, fun o ho => hτ.1.H o (by rw [hτH]; exact ho), hjl⟩
  ·have hDne : D ≠ L.l := (hL.ms D hD).2;have hDW := j.ms D hD;rw [World.putObj_heap_other hDne, kp D (kA.1 hDW).1 (two.xb D (.inr hD)) hDne];exact hDW
  ·rw [World.putObj_heap_same hl3lt]; rfl
theorem Lp.yield {A : List Pat} {Sh : Shp} {X : XS} {V : Env} {g1 g2 : HT} {L : Lp A Sh X} (hL : L.OK P V g1 g2) {tr : List (LT (zi A))} {x : LT (zi A)} {b : Bool} {vs : Array Value} {s0 : LT Sh.codes ⊕ X.T} {W : World} {cb ci : Cx} {Hb Hi : List AObj}
  (hdec : zv1 L.B L.h0 (tr ++ [x]) = some b) (two : Two L.c.ok L.X W cb Hb ci Hi) (j : L.J s0 tr W cb Hb) (hn : ∀ k, ci.own k -> L.w.heap.size <= k) (hvs : vs.size = (z3m A x).length) (hxw : TV.wfs (z3m A x)) (hv : VRs W ci ((z3m A x).map TV.pv) (fun i => vs[i]?)) :
  YieldAt (Wd none) 0 P L.l vs W fun e w' => e = .returned (.bool b) /\ ∃ cb' Hb', Foreign (fun k => cb.own k \/ L.X k) W w' /\ Grows W cb.own cb'.own /\ cb'.ok = cb.ok /\ Ab.Good w' cb' Hb' [] /\ ∃ s', L.J s' (tr ++ [x]) w' cb' Hb' := by
 simp only [zv1, Option.map_eq_some_iff] at hdec;obtain ⟨st', hst', hb⟩ := hdec;obtain ⟨h, hr1, hB1⟩ := zih hst';have es := j.run;rw [hr1] at es;cases es;have j4 := j.l;have j5 := j.H;have j6 := j.wf;simp only [z1j, Option.isNone_none, if_true] at j4;simp only [zcc] at j5 j6;have hcbT : cb.T = [] := List.eq_nil_of_length_eq_zero two.b.tl;have hcbp : cb.pn = L.q := j.ext.pn;have hlW : L.l < W.heap.size := (kA.1 j4).1;have hlm : some L.l ∉ cb.m := two.xb L.l (.inl rfl);have hgl : gb <= L.l := kB hL.gbn hL.ll;have hy := run_yield (P := P) (args := vs) j4 (by rw [hvs]; exact hL.len x)
 refine ⟨L.fid, _, L.assign, L.body, hy, roundIn_of_wpIn trivial ?_⟩;have base : RelT W cb ⟨L.n, L.sl, (Sh.st h).H, Sh.pn⟩ { tmps := L.tmps, defers := [] } := by
  refine ⟨by rw [hcbp, hL.q], ?_, ?_⟩
  ·have := two.b; rw [j5] at this; exact this
  ·refine Lp.slots hL hcbT j.ext rfl fun k e hk hm ho => ?_
   rw [two.bok];exact ⟨ho, fun h => h.elim (fun h => absurd hk (kC.2 (hn k h))) fun h => absurd hk (kC.2 (hL.Xge h))⟩
 have hvb : VRs W cb ((z3m A x).map TV.pv) (fun i => vs.toList[i]?) := by
  have pu := (z0c _ hxw (hL.pu x)).1;rw [xl] at pu;refine VRs.transfer (c := ci) (fun a n hf => ?_) _ pu (by simpa using hv)
  rcases hf with hf | ⟨k1, k2, k3, k4, k5⟩
  ·exact .inl hf
  ·rw [two.iok] at k5;refine .inr ⟨k1, k2, fun h => k5.2 (.inl h), fun i k h => by rw [hcbT] at h; simp at h, ?_⟩
   rw [two.bok];exact ⟨k5.1, fun h => h.elim k3 fun h => k5.2 (.inr h)⟩
 have start := zlj L.ps.toList (z3m A x) vs.toList base hvb (by simpa using hvs)
 have etm : (L.ps.toList.zip vs.toList).foldl (fun t x => t.setIfInBounds x.1 x.2) L.tmps = (L.ps.zip vs).foldl (fun tmps (t, a) => tmps.setIfInBounds t a) L.tmps := by
  rw [<- Array.foldl_toList, Array.toList_zip]
 rw [etm] at start;have wf0 : (z52 L.ps.toList (z3m A x) ⟨L.n, L.sl, (Sh.st h).H, Sh.pn⟩).wf := zlf _ _ _ ⟨hL.slwf, j6⟩ hxw;have hB2 := hL.hB h x;rw [hB1] at hB2;unfold zr1 at hB2;have t1 := z83 hL.hV L.assign g1 hL.ok1 hB2;refine t1 cb _ W _ start wf0 (fun e c' a' w' σ' hQ hw' hr' hx' _ => ?_) (some L.l) ⟨hlm, _, j4⟩
 rw [(zn6 _ _ _).1] at hx';simp only at hx';rw [hL.q] at hx';cases e with
 | normal =>
  have hl' : w'.heap[L.l]? = some (.loop (L.rec' .ready none)) := (hx'.blocks L.l hlW hlm).trans j4;have hlm' : some L.l ∉ c'.m := fun h => (hx'.new L.l h).elim hlm fun h' => absurd hlW (kC.2 h')
  have hbr := run_beginRound (P := P) hl' rfl;refine ⟨_, hbr, ?_⟩;obtain ⟨w2, hw2⟩ : ∃ w2, w'.putObj L.l (.loop { L.rec' .ready none with state := .busy }) = w2 := ⟨_, rfl⟩;rw [hw2];have hl2 : w2.heap[L.l]? = some (.loop { L.rec' .ready none with state := .busy }) := by rw [<- hw2]; exact World.putObj_heap_same (kA.1 hl').1
  have hr2 : RelT w2 c' σ' a' := by rw [<- hw2]; exact zsx _ hr' hl' hlm' hgl
  have hl2lt : L.l < w2.heap.size := (kA.1 hl2).1;have ep : σ'.p = L.q := by rw [<- hr'.1, hx'.pn]; exact hcbp
  have t2 := z83 hL.hV L.body g2 hL.ok2 hQ;refine t2 c' a' w2 _ hr2 hw' (fun e3 c2 a2 w3 σ2 hQ2 hw3 hr3 hx3 _ => ?_) (some L.l) ⟨hlm', _, hl2⟩
  rw [ep] at hx3;have ep2 : σ2.p = L.q := by rw [<- hr3.1, hx3.pn, hr2.1]; exact ep
  have hl3 : w3.heap[L.l]? = some (.loop { L.rec' .ready none with state := .busy }) := (hx3.blocks L.l hl2lt hlm').trans hl2;have fin : ∀ (s' : LT Sh.codes ⊕ X.T) (τ : TS), Wk σ2 τ -> τ.H = zcc s' -> st' = s' -> s'.isLeft = (z1j s').isNone -> ∃ v w4, (Instr.endRound L.l (z1j s')).run P w3 = .ok v w4 /\ (Ending.returned v = Ending.returned (.bool b) /\ ∃ cb' Hb', Foreign (fun k => cb.own k \/ L.X k) W w4 /\ Grows W cb.own cb'.own /\ cb'.ok = cb.ok /\ Ab.Good w4 cb' Hb' [] /\ ∃ s', L.J s' (tr ++ [x]) w4 cb' Hb') := by
   intro s' τ hτ hτH hs' hjl;subst hs';obtain ⟨v, w4, k1, k2, cb', Hb', k3, k4, k5, k6, k7⟩ := Lp.fin hL two j hst' hb hx' hw2 hx3 hl3 hr3 ep2 hτ hτH hjl;exact ⟨v, w4, k1, k2, cb', Hb', k3, k4, k5, k6, _, k7⟩
  cases e3 with
  | normal =>
   simp only at hQ2;obtain ⟨h', k1, k2⟩ := zr Sh _ σ2 _ st' hw3 hQ2;cases k1;exact fin (.inl h') _ k2 rfl rfl rfl
  | ret =>
   simp only at hQ2;obtain ⟨y, k1, k2, k3⟩ := hL.hX.close _ _ σ2 _ st' hw3 hQ2;cases k1;have hj : z1j (Sh := Sh) (X := X) (.inr y) = some .ret := by simp only [z1j, k2, zkt]
   have := fin (.inr y) _ k3 rfl rfl (by rw [hj]; rfl)
   rw [hj] at this; exact this
  | exit id =>
   simp only at hQ2;obtain ⟨y, k1, k2, k3⟩ := hL.hX.close _ _ σ2 _ st' hw3 hQ2;cases k1;have hj : z1j (Sh := Sh) (X := X) (.inr y) = some (.exit id) := by simp only [z1j, k2, zkt]
   have := fin (.inr y) _ k3 rfl rfl (by rw [hj]; rfl)
   rw [hj] at this; exact this
  | goto t => cases hQ2
  | panic ch => cases hQ2
  | outgrown => cases hQ2
 | exit id => cases hQ
 | goto t => cases hQ
 | ret => cases hQ
 | panic ch => cases hQ
 | outgrown => cases hQ
end Go.Tm
namespace Go.Tm

end Go.Tm
