import Derived.Test.YtpfjfldagldgnaaTm19to26
import Derived.Lib.Bytealg
import Derived.Below
import Derived.Laws.AppendOwn
import Derived.Sort.OwnSorted
import Derived.Shelf.Abstract
import Derived.RangeFuncSeq
import Derived.RangeFuncIn
open Array renaming getElem?_eq_some_iff → kA
open Option renaming bind_eq_some_iff → kB, bind_some → kK, map_some → kS
open Nat renaming le_trans → kC, not_lt → kD, lt_of_lt_of_le → kF, beq → kI
open List renaming eq_nil_of_length_eq_zero → kE, mem_singleton → kG, getElem?_append_left → kH, length → kJ, mem_append_right → kL, mem_append → kM, mem_append_left → kN, nil_append → kO, mem_cons → kQ, cons_append → kR, map_cons → kT
open Bool renaming false_eq_true → kP
open Go.Sem renaming run_bind → kU, run_pure → kV
set_option linter.unusedSimpArgs false
set_option linter.unusedVariables false
namespace Go.Tm
open Go.Ab Go.Lib

end Go.Tm
namespace Go.Tm
open Go.Ab

end Go.Tm
namespace Go.Tm
open Go.Ab Go.RowKit Go.Sort Go.Proofs Go.Shelf
theorem yx0 {w : World} {c : Cx} {H : List AObj} (g : Ab.Good w c H []) (i k j : Nat) : ¬ c.T[i]? = some (some (k, j)) := by rw [Ab.noT g]; simp
theorem yf5 {w w' : World} {c : Cx} {H : List AObj} (g : Ab.Good w c H []) (hb : Go.RowKit.Below w.heap.size w w') (o : Option Nat) (hok : ∀ k, o = some k -> w.heap.size <= k) (X : AObj) (hobj : ObjC w' { c with m := c.m ++ [o] } H.length X) :
  Ab.Good w' { c with m := c.m ++ [o] } (H ++ [X]) [] /\ Ext w c w' { c with m := c.m ++ [o] } := by
 have ids : ∀ b k : Nat, c.m[b]? = some (some k) -> (c.m ++ [o])[b]? = some (some k) := fun b k h => by
  rw [kH (List.getElem?_eq_some_iff.1 h).1]; exact h
 have back : ∀ i k : Nat, (c.m ++ [o])[i]? = some (some k) -> c.m[i]? = some (some k) \/ (i = c.m.length /\ o = some k) := fun i k h => by
  rcases Nat.lt_or_ge i c.m.length with hi | hi
  ·rw [kH hi] at h; exact .inl h
  ·rw [List.getElem?_append_right hi] at h;cases hz : i - c.m.length with
   | zero => rw [hz] at h; exact .inr ⟨by omega, by simpa using h⟩
   | succ n => rw [hz] at h; simp at h
 have x : Ext w c w' { c with m := c.m ++ [o] } := Ext.of_grow _ hb.os hb.tape hb.output hb.size hb.block ids (fun k h => by
  rcases kM.1 h with h | h
  ·exact .inl h
  ·exact .inr (hok k (kG.1 h).symm)) (fun i k j h => absurd h (yx0 g i k j))
 refine ⟨⟨by simp [g.len], fun i j k hi hj => ?_, fun b ob h => ?_, g.tl, fun i h => by simp at h, fun i h => by simp at h, fun i k j h => absurd h (yx0 g i k j), g.tinj, fun k e h => g.okn k e (kC hb.size h), g.okm, g.okt, fun b k hb' h e => ?_, g.gl.ext x⟩, x⟩
 ·rcases back i k hi with hi | ⟨ei, ek⟩ <;> rcases back j k hj with hj | ⟨ej, ek'⟩
  ·exact g.inj i j k hi hj
  ·have := ObjC.lt g hi; have := hok k ek'; omega
  ·have := ObjC.lt g hj; have := hok k ek; omega
  ·omega
 ·rcases Nat.lt_or_ge b H.length with hlt | hge
  ·rw [kH hlt] at h;refine (g.obj b ob h).pass x (fun k h1 => ⟨ids _ _ h1, hb.block k (ObjC.lt g h1)⟩) fun ho => ?_
   show (c.m ++ [o])[b]? = some none;rw [kH (by rw [g.len]; exact hlt)]; exact ho
  ·rw [List.getElem?_append_right hge] at h;cases hz : b - H.length with
   | zero =>
    rw [hz] at h;have e1 : b = H.length := by omega
    subst e1;simp at h; subst h; exact hobj
   | succ n => rw [hz] at h; simp at h
 ·rcases back b k h with hk | ⟨_, ek⟩
  ·exact g.oko b k hb' hk e
  ·exact g.okn k e (hok k ek)
end Go.Tm
set_option linter.unusedSimpArgs false
set_option linter.unusedVariables false
namespace Go.Tm
open Go.Ab
def yuj (w w' : World) : Prop := ∀ (k : Nat) (vs : Array Value) (e : TypeId) (fr : Nat × Nat), w.heap[k]? = some (Obj.cells vs e fr) -> ∃ (vs' : Array Value) (fr' : Nat × Nat), w'.heap[k]? = some (Obj.cells vs' e fr') /\ vs'.size = vs.size
structure Host (P : Program) (E : Type) where
 l : Nat
 K0 : Nat -> Nat -> Prop
 X : Nat -> Prop
 N : Nat -> Prop
 n0 : Nat
 emb : E -> List TV
 dec : List E -> Option Bool
 J : List E -> World -> Cx -> List AObj -> Prop
 new : ∀ k, n0 <= k -> N k
 gbn : gb <= n0
 stay : ∀ tr w (cb : Cx) Hb w' ok', J tr w cb Hb -> n0 <= w.heap.size -> Foreign (fun k => N k /\ ¬ cb.own k /\ ¬ X k) w w' -> yuj w w' -> Sees w cb w' { cb with ok := ok' } -> Ab.Good w' { cb with ok := ok' } Hb [] -> J tr w' { cb with ok := ok' } Hb
 yield : ∀ (tr : List E) (x : E) (b : Bool) (vs : Array Value) w cb Hb ci Hi, dec (tr ++ [x]) = some b -> Two K0 X w cb Hb ci Hi -> J tr w cb Hb -> n0 <= w.heap.size -> (∀ k, ci.own k -> N k) -> vs.size = (emb x).length -> TV.wfs (emb x) -> VRs w ci ((emb x).map TV.pv) (fun i => vs[i]?) ->
  YieldAt (Wd none) 0 P l vs w fun e w' => e = .returned (.bool b) /\ ∃ cb' Hb', Foreign (fun k => cb.own k \/ X k) w w' /\ Grows w cb.own cb'.own /\ cb'.ok = cb.ok /\ Ab.Good w' cb' Hb' [] /\ J (tr ++ [x]) w' cb' Hb'
structure Inv {P : Program} {E : Type} (h : Host P E) (ro : Option Nat) (ds : List Nat) (tr : List E) (w : World) (c : Cx) (H : List AObj) : Prop where
 ex : ∃ cb Hb, Two h.K0 h.X w cb Hb c H /\ h.J tr w cb Hb /\ (∀ D, D ∈ ds -> some D ∉ cb.m) /\ ∀ l, ro = some l -> some l ∉ cb.m
 n : ∀ k, c.own k -> h.N k
 n0 : h.n0 <= w.heap.size
 nd : ds.Nodup
 d : ∀ D, D ∈ ds -> h.n0 <= D /\ w.heap[D]? = some (.deferred (some [])) /\ some D ∉ c.m /\ ¬ h.X D
 r : ∀ l, ro = some l -> ¬ h.X l /\ some l ∉ c.m /\ ∃ r, w.heap[l]? = some (.loop r)
variable {P : Program} {E : Type} {w : World} {c : Cx}
theorem Inv.recok {h : Host P E} {ro : Option Nat} {ds : List Nat} {tr : List E} {H : List AObj} (i : Inv h ro ds tr w c H) : RecOK ro w c := by
 cases ro with
 | none => trivial
 | some l => exact (i.r l rfl).2
theorem Host.own {P : Program} {E : Type} (h : Host P E) {tr : List E} {w w' : World} {cb ci ci' : Cx} {Hb H H' : List AObj} {p : Nat} (two : Two h.K0 h.X w cb Hb ci H) (hJ : h.J tr w cb Hb) (hn : ∀ k, ci.own k -> h.N k) (h0 : h.n0 <= w.heap.size) (x : ExtP p w ci w' ci') (g : Ab.Good w' ci' H' []) :
  h.J tr w' { cb with ok := fun k e => h.K0 k e /\ ¬ (ci'.own k \/ h.X k) } Hb := by
 obtain ⟨t2, s2, _⟩ := two.iter x g;refine h.stay tr w cb Hb w' _ hJ h0 ⟨x.os, x.tape, x.output, x.size, fun k hk hm => x.blocks k hk fun ho => hm ⟨hn k ho, fun hb => two.apart k hb ho, fun hX => two.xi k hX ho⟩⟩ x.room s2 t2.b
theorem Inv.step {h : Host P E} {ro : Option Nat} {ds : List Nat} {tr : List E} {w w' : World} {c c' : Cx} {H H' : List AObj} {p : Nat} (i : Inv h ro ds tr w c H) (x : ExtP p w c w' c') (g : Ab.Good w' c' H' []) : Inv h ro ds tr w' c' H' := by
 obtain ⟨⟨cb, Hb, two, hJ, hd, hr⟩, hn, h0, nd, d, r⟩ := i;have keep : ∀ k, k < w.heap.size -> some k ∉ c.m -> w'.heap[k]? = w.heap[k]? /\ some k ∉ c'.m := fun k hk hm => ⟨x.blocks k hk hm, fun h' => (x.new k h').elim hm fun h2 => absurd hk (kD.2 h2)⟩
 refine ⟨⟨_, Hb, (two.iter x g).1, h.own two hJ hn h0 x g, hd, hr⟩, fun k hk => (x.new k hk).elim (hn k) fun h' => h.new k (kC h0 h'), kC h0 x.size, nd, fun D hD => ?_, fun l hl => ?_⟩
 ·obtain ⟨h1, h2, h3, h4⟩ := d D hD;obtain ⟨k1, k2⟩ := keep D (kA.1 h2).1 h3;exact ⟨h1, k1.trans h2, k2, h4⟩
 ·obtain ⟨h1, h2, rr, h3⟩ := r l hl;obtain ⟨k1, k2⟩ := keep l (kA.1 h3).1 h2;exact ⟨h1, k2, rr, k1.trans h3⟩
theorem Inv.marks {h : Host P E} {ro : Option Nat} {ds : List Nat} {tr : List E} {w w' : World} {c c' : Cx} {H H' : List AObj} {p : Nat} {d' : List Deferred} (i : Inv h ro ds tr w c H) (x : ExtP p w c w' c') (g : Ab.Good w' c' H' []) (m : Mk w w' c' (ds.map zdo) d') :
  ∃ ds', d' = ds'.map zdo /\ Inv h ro ds' tr w' c' H' := by
 obtain ⟨l, e, nd, hl⟩ := m;have j := i.step x g;obtain ⟨⟨cb, Hb, two, hJ, hd, hr⟩, hn, h0, nd0, d, r⟩ := i;have hlt : ∀ D, D ∈ ds -> D < w.heap.size := fun D hD => (kA.1 (d D hD).2.1).1
 obtain ⟨⟨cb2, Hb2, two2, hJ2, hd2, hr2⟩, hn2, h02, nd2, d2, r2⟩ := j;refine ⟨l ++ ds, by rw [e, List.map_append], ⟨_, Hb, (two.iter x g).1, h.own two hJ hn h0 x g, fun D hD => ?_, hr⟩, hn2, h02, List.nodup_append.2 ⟨nd, nd0, fun a ha b hb e => ?_⟩, fun D hD => ?_, r2⟩
 ·rcases kM.1 hD with hD | hD
  ·exact fun hm => absurd (two.own_b hm).1 (kD.2 (hl D hD).1)
  ·exact hd D hD
 ·subst e; exact absurd (hlt a hb) (kD.2 (hl a ha).1)
 ·rcases kM.1 hD with hD | hD
  ·obtain ⟨h1, h2, h3⟩ := hl D hD;exact ⟨kC h0 h1, h2, h3, fun hx => absurd (two.xlt D hx) (kD.2 h1)⟩
  ·exact d2 D hD
def YAW (P : Program) (h : Host P E) (ro : Option Nat) (x : Code) (tr : List E) (σ : TS) (Q : Exit -> List E -> TS -> Prop) : Prop :=
 ∀ c ds a w (Q' : Exit -> Act -> World -> Prop), RelT w c σ a -> σ.wf -> Inv h ro ds tr w c σ.flat.H -> a.defers = ds.map zdo ->
  (∀ e c' ds' a' w' σ' tr', Q e tr' σ' -> σ'.wf -> RelT w' c' σ' a' -> Inv h ro ds' tr' w' c' σ'.flat.H -> a'.defers = ds'.map zdo -> Q' e a' w') -> x.wpIn (Wd ro) 0 P Q' a w
variable {x : Code} {σ : TS}
theorem YAW.of {h : Host P E} {ro : Option Nat} {tr : List E} {Q : Exit -> TS -> Prop} (ht : TAW P x σ Q) : YAW P h ro x tr σ (fun e tr' σ' => tr' = tr /\ Q e σ') := by
 intro c ds a w Q' hr hw hi hds hK;refine ht c a w Q' hr hw (fun e c' a' w' σ' hQ hw' hr' hx hd => ?_) ro hi.recok
 rw [hds] at hd;obtain ⟨ds', e1, i'⟩ := hi.marks hx hr'.2.1 hd;exact hK e c' ds' a' w' σ' tr ⟨rfl, hQ⟩ hw' hr' i' e1
theorem YAW.mono {h : Host P E} {ro : Option Nat} {tr : List E} {Q R : Exit -> List E -> TS -> Prop} (ht : YAW P h ro x tr σ Q) (hq : ∀ e t σ, Q e t σ -> R e t σ) : YAW P h ro x tr σ R :=
 fun c ds a w Q' hr hw hi hds hK => ht c ds a w Q' hr hw hi hds fun e c' ds' a' w' σ' tr' hQ => hK e c' ds' a' w' σ' tr' (hq _ _ _ hQ)
theorem YAW.wk {h : Host P E} {ro : Option Nat} {tr : List E} {σ σ2 : TS} {Q : Exit -> List E -> TS -> Prop} (hk : Wk σ σ2) (ht : YAW P h ro x tr σ2 Q) : YAW P h ro x tr σ Q := by
 intro c ds a w Q' hr hw hi hds hK;obtain ⟨c2, hr2, hx⟩ := hk.2 w c a hr;exact ht c2 ds a w Q' hr2 hk.1 (hi.step (hx w c (ExtP.refl _ _ _)) hr2.2.1) hds hK
def yxl (N : List E -> TS -> Prop) (Q : Exit -> List E -> TS -> Prop) : Exit -> List E -> TS -> Prop
 | .normal, tr, σ => N tr σ
 | e, tr, σ => Q e tr σ
theorem YAW.seq {P : Program} {E : Type} {h : Host P E} {ro : Option Nat} {x y : Code} {tr : List E} {σ : TS} {Q : Exit -> List E -> TS -> Prop} (ht : YAW P h ro x tr σ (yxl (fun tr' σ' => YAW P h ro y tr' σ' Q) Q)) : YAW P h ro (.seq x y) tr σ Q := by
 intro c ds a w Q' hr hw hi hds hK;refine wpIn_seq (ht c ds a w _ hr hw hi hds fun e c' ds' a' w' σ' tr' hQ hw' hr' hi' hd => ?_)
 cases e <;> first | exact hK _ c' ds' a' w' σ' tr' hQ hw' hr' hi' hd | skip
 exact hQ c' ds' a' w' _ hr' hw' hi' hd hK
def ykn (id : Nat) (Q : Exit -> List E -> TS -> Prop) : Exit -> List E -> TS -> Prop
 | .exit id', tr, σ => bif kI id' id then Q .normal tr σ else Q (.exit id') tr σ
 | e, tr, σ => Q e tr σ
theorem YAW.block {P : Program} {E : Type} {h : Host P E} {ro : Option Nat} {id : Nat} {x : Code} {tr : List E} {σ : TS} {Q : Exit -> List E -> TS -> Prop} (ht : YAW P h ro x tr σ (ykn id Q)) : YAW P h ro (.block id x) tr σ Q := by
 intro c ds a w Q' hr hw hi hds hK;refine wpIn_block (ht c ds a w _ hr hw hi hds fun e c' ds' a' w' σ' tr' hQ hw' hr' hi' hd => ?_)
 cases e with
 | exit id' =>
  simp only [ykn] at hQ;simp only [Exit.inBlock];split
  ·rename_i e;have : kI id' id = true := by rw [e]; exact Nat.beq_refl id
   rw [this] at hQ; exact hK _ c' ds' a' w' σ' tr' hQ hw' hr' hi' hd
  ·rename_i e;have : kI id' id = false := by
    cases hb : kI id' id with
    | false => rfl
    | true => exact absurd (Nat.eq_of_beq_eq_true hb) e
   rw [this] at hQ; exact hK _ c' ds' a' w' σ' tr' hQ hw' hr' hi' hd
 | _ => exact hK _ c' ds' a' w' σ' tr' hQ hw' hr' hi' hd
def yy9 (Q : Exit -> List E -> TS -> Prop) : Exit -> List E -> TS -> Prop
 | .goto _, _, _ => False
 | e, tr, σ => Q e tr σ
theorem YAW.scope {P : Program} {E : Type} {h : Host P E} {ro : Option Nat} {x : Code} {tr : List E} {σ : TS} {Q : Exit -> List E -> TS -> Prop} (ht : YAW P h ro x tr σ (yy9 Q)) : YAW P h ro (.scope x) tr σ Q := by
 intro c ds a w Q' hr hw hi hds hK;refine yd5 (ht c ds a w _ hr hw hi hds fun e c' ds' a' w' σ' tr' hQ hw' hr' hi' hd => ?_)
 cases e <;> first | exact hQ.elim | exact hK _ c' ds' a' w' σ' tr' hQ hw' hr' hi' hd
theorem YAW.cond {P : Program} {E : Type} {h : Host P E} {ro : Option Nat} {x : Operand} {t e : Code} {tr : List E} {σ : TS} {Q : Exit -> List E -> TS -> Prop} {b : Bool} (hc : σ.eval x = .v .bool b) (ht : YAW P h ro (if b then t else e) tr σ Q) : YAW P h ro (.cond x t e) tr σ Q := by
 intro c ds a w Q' hr hw hi hds hK;have he := hr.2.2.eval x;rw [zm hc (by simp)] at he
 simp only [TV.pv, pvU, VR] at he;exact wpIn_cond he.1 (ht c ds a w Q' hr hw hi hds hK)
def YLoop (P : Program) (h : Host P E) (ro : Option Nat) (x : Code) (tr : List E) (σ : TS) (Q : Exit -> List E -> TS -> Prop) : Prop :=
 ∀ c ds a w (Q' : Exit -> Act -> World -> Prop), RelT w c σ a -> σ.wf -> Inv h ro ds tr w c σ.flat.H -> a.defers = ds.map zdo ->
  (∀ e c' ds' a' w' σ' tr', Q e tr' σ' -> σ'.wf -> RelT w' c' σ' a' -> Inv h ro ds' tr' w' c' σ'.flat.H -> a'.defers = ds'.map zdo -> Q' e a' w') ->
  ∀ (b : Frame) (k : List Go.Item) (cs : List Frame), b.roundOf = ro -> ∃ e a2 w2, Q' e a2 w2 /\ ArrivesIn (Machine.fenced P (Wd ro)) P (lone (b.atR a (.code x :: .inLoop x :: k)) cs w) b k cs e a2 w2
theorem YLoop.step {h : Host P E} {ro : Option Nat} {tr : List E} {Q : Exit -> List E -> TS -> Prop} (ht : YAW P h ro x tr σ (yxl (fun tr' σ' => YLoop P h ro x tr' σ' Q) Q)) : YLoop P h ro x tr σ Q := by
 intro c ds a w Q' hrel hw hi hds hK b k cs hro;obtain ⟨e, a1, w1, hq, harr⟩ := (ht c ds a w
  (Exit.then (fun a2 w2 => ∃ σ2 tr2 c2 ds2, YLoop P h ro x tr2 σ2 Q /\ σ2.wf /\ RelT w2 c2 σ2 a2 /\ Inv h ro ds2 tr2 w2 c2 σ2.flat.H /\ a2.defers = ds2.map zdo) Q') hrel hw hi hds (fun e c2 ds2 a2 w2 σ2 tr2 hQ hw2 hr2 hi2 hd2 => by
  cases e with
  | normal => exact ⟨σ2, tr2, c2, ds2, hQ, hw2, hr2, hi2, hd2⟩
  | exit id => exact hK _ c2 ds2 a2 w2 σ2 tr2 hQ hw2 hr2 hi2 hd2
  | goto l => exact hK _ c2 ds2 a2 w2 σ2 tr2 hQ hw2 hr2 hi2 hd2
  | ret => exact hK _ c2 ds2 a2 w2 σ2 tr2 hQ hw2 hr2 hi2 hd2
  | panic ch => exact hK _ c2 ds2 a2 w2 σ2 tr2 hQ hw2 hr2 hi2 hd2
  | outgrown => exact hK _ c2 ds2 a2 w2 σ2 tr2 hQ hw2 hr2 hi2 hd2)) b (.inLoop x :: k) cs hro trivial (ymt _ _)
 cases e with
 | normal =>
  obtain ⟨σ2, tr2, c2, ds2, hL, hw2, hr2, hi2, hd2⟩ := hq;obtain ⟨e2, a2, w2, hq2, harr2⟩ := hL c2 ds2 a1 w1 Q' hr2 hw2 hi2 hd2 hK b k cs hro;have h1 : StepsIn (Machine.fenced P (Wd ro)) P (lone (b.atR a (.code x :: .inLoop x :: k)) cs w) (lone (b.atR a1 (.inLoop x :: k)) cs w1) := harr;have h2 : StepsIn (Machine.fenced P (Wd ro)) P (lone (b.atR a1 (.inLoop x :: k)) cs w1) (lone (b.atR a1 (.code x :: .inLoop x :: k)) cs w1) := .one (z40 ro P _) stepR_inLoop;exact ⟨e2, a2, w2, hq2, .of_steps (h1.trans h2) harr2⟩
 | exit id => exact ⟨_, a1, w1, hq, .pass (x := .inLoop x) rfl (fun _ _ => .inl (by simp)) harr⟩
 | goto l => exact ⟨_, a1, w1, hq, .pass (x := .inLoop x) rfl (fun _ _ => .inl (by simp)) harr⟩
 | ret => exact ⟨_, a1, w1, hq, .pass (x := .inLoop x) rfl (fun _ _ => .inl (by simp)) harr⟩
 | panic ch => exact ⟨_, a1, w1, hq, .pass (x := .inLoop x) rfl (fun _ _ => .inl (by simp)) harr⟩
 | outgrown => exact ⟨_, a1, w1, hq, .pass (x := .inLoop x) rfl (fun _ _ => .inl (by simp)) harr⟩
theorem YLoop.wk {h : Host P E} {ro : Option Nat} {tr : List E} {σ σ2 : TS} {Q : Exit -> List E -> TS -> Prop} (hk : Wk σ σ2) (ht : YLoop P h ro x tr σ2 Q) : YLoop P h ro x tr σ Q := by
 intro c ds a w Q' hr hw hi hds hK;obtain ⟨c2, hr2, hx⟩ := hk.2 w c a hr;exact ht c2 ds a w Q' hr2 hk.1 (hi.step (hx w c (ExtP.refl _ _ _)) hr2.2.1) hds hK
theorem YLoop.loop {P : Program} {E : Type} {h : Host P E} {ro : Option Nat} {x : Code} {tr : List E} {σ : TS} {Q : Exit -> List E -> TS -> Prop} (ht : YLoop P h ro x tr σ Q) : YAW P h ro (.loop x) tr σ Q := by
 intro c ds a w Q' hrel hw hi hds hK b k cs hro _ _;obtain ⟨e, a2, w2, hq, harr⟩ := ht c ds a w Q' hrel hw hi hds hK b k cs hro;exact ⟨e, a2, w2, hq, .of_steps (.one (z40 ro P _) stepR_loop) harr⟩
variable {o : Oper}
theorem yom {l : Nat} {fo : Operand} {xs : Array Operand} {ats : Array TypeId} {ρ : Operand -> Value} (ho : o.op = .call { callee := .value fo, args := xs, argTypes := ats })
  (hρ : ρ fo = .func (.yield l) #[] #[]) (w : World) {r : Result Next} (hr : (Instr.yield l (xs.map ρ)).run P w = r) : (execOp ρ o).run P w = r := by
 simp only [execOp, ho, resolve, hρ, Deferred.ofValue, kU, kV, Result.andThen_ok, invoke];simpa using hr
theorem ylm {ro : Option Nat} {n l : Nat} {vs : Array Value} {R : Ending -> World -> Prop} (h : YieldAt (Wd none) n P l vs w R) : YieldAt (Wd ro) n P l vs w R := h
theorem yp7 {h : Host P E} {ro : Option Nat} {fo : Operand} {xs : Array Operand} {ats : Array TypeId} {tr : List E} {x : E} {y : Bool} (ho : o.op = .call { callee := .value fo, args := xs, argTypes := ats })
  (hfo : σ.eval fo = .yl h.l) (hx : CLe ((xs.toList.map σ.eval).map TV.pv) ((h.emb x).map TV.pv)) (hxw : TV.wfs (h.emb x)) (hxl : (h.emb x).length = xs.toList.length) (hgo : h.dec (tr ++ [x]) = some y)
  {c : Cx} {ds : List Nat} {a : Act} {w : World} {K : Act -> World -> Prop} {Q' : Exit -> Act -> World -> Prop} (hr : RelT w c σ a) (hw : σ.wf) (hi : Inv h ro ds tr w c σ.flat.H)
  (hK : ∀ c' a' w', RelT w' c' (σ.put o.dst (.v .bool y)) a' -> Inv h ro ds (tr ++ [x]) w' c' (σ.put o.dst (.v .bool y)).flat.H -> a'.defers = a.defers -> K a' w') :
  o.wpIn (Wd ro) 0 P a w K Q' := by
 have hfv := hr.2.2.eval fo;rw [zm hfo (by simp)] at hfv
 simp only [TV.pv, VR] at hfv;have hvs : VRs w c ((h.emb x).map TV.pv) (fun i => (xs.map a.eval)[i]?) := by
  have hgd : Gd w c := ⟨_, _, hr.2.1⟩;refine z2o hgd hx (z2o hgd (zuu σ xs.toList) (yI fun i p hi => ?_))
  rw [List.getElem?_map] at hi;cases hxi : xs.toList[i]? with
  | none => rw [hxi] at hi; cases hi
  | some y =>
   rw [hxi] at hi; simp at hi; subst hi;have hx' : xs[i]? = some y := by simpa using hxi
   exact ⟨a.eval y, by simp [hx'], hr.2.2.eval y⟩
 have hsz : (xs.map a.eval).size = (h.emb x).length := by rw [hxl]; simp
 obtain ⟨⟨cb, Hb, two, hJ, hd, hrr⟩, hn, h0, nd, d, r⟩ := hi;obtain ⟨fn, tmps, assign, body, hy, hR⟩ := ylm (ro := ro) (h.yield tr x y (xs.map a.eval) w cb Hb c _ hgo two hJ h0 hn hsz hxw hvs);refine ⟨fun _ _ => trivial, ?_⟩
 have hrun : (o.semAt (Wd ro).round a.eval).run P w = .ok (.round h.l fn tmps assign body) w := by
  rw [Oper.semAt_eq _ _ _ (fun d e => by rw [ho] at e; cases e)]
  exact yom ho hfv.1 w hy
 rw [hrun];refine ⟨fun h => by simp [Wd, Fence.wide] at h, hR.mono ?_⟩
 rintro e w' ⟨rfl, cb', Hb', f, hg, hok, g', hJ'⟩;obtain ⟨t2, s2⟩ := two.round f hg hok g';have hr1 : RelT w' { c with ok := fun k e => h.K0 k e /\ ¬ (cb'.own k \/ h.X k) } σ a := by
  refine ⟨hr.1, t2.i, hr.2.2.1, fun t p hl ht => ?_⟩
  obtain ⟨v, h1, h2⟩ := hr.2.2.2 t p hl ht;exact ⟨v, h1, VR.sees s2 _ h2⟩
 have hr2 := zem (v := .bool y) (t := .v .bool y) o.dst hr1 (by simp only [TV.pv, pvU, VR]; exact ⟨trivial, rfl⟩)
 have e1 : (σ.put o.dst (.v .bool y)).flat.H = σ.flat.H := by
  simp only [TS.flat, (z56 _ _ _).1]
 have keep : ∀ k, k < w.heap.size -> some k ∉ cb.m -> ¬ h.X k -> w'.heap[k]? = w.heap[k]? /\ some k ∉ cb'.m := fun k hk hm hX => ⟨f.keep k hk fun h' => h'.elim hm hX, fun h' => (hg k h').elim hm fun h2 => absurd hk (kD.2 h2)⟩
 refine hK _ _ w' hr2 ⟨⟨cb', Hb', by rw [e1]; exact t2, hJ', fun D hD => ?_, fun l hl => ?_⟩, hn, kC h0 f.size, nd, fun D hD => ?_, fun l hl => ?_⟩ (Act.put_defers' _ _ _)
 ·obtain ⟨h1, h2, h3, h4⟩ := d D hD;exact (keep D (kA.1 h2).1 (hd D hD) h4).2
 ·obtain ⟨h1, h2, rr, h3⟩ := r l hl;exact (keep l (kA.1 h3).1 (hrr l hl) h1).2
 ·obtain ⟨h1, h2, h3, h4⟩ := d D hD;exact ⟨h1, (keep D (kA.1 h2).1 (hd D hD) h4).1.trans h2, h3, h4⟩
 ·obtain ⟨h1, h2, rr, h3⟩ := r l hl;exact ⟨h1, h2, rr, (keep l (kA.1 h3).1 (hrr l hl) h1).1.trans h3⟩
def z7t (A : List Pat) (x : LT (zc A)) : List TV := (zj2 (fun _ => 0) A (yR (zc A) x)).1
variable {R : Type}
def yi2 (A : List Pat) (args : List TV) (k : LT (zc A) -> Option R) : Option R :=
 match xH A args with
 | some la => z5z (zc A) la fun x => zeb (fun _ => 0) (z49 A args) (k x)
 | none => none
theorem y7x {A : List Pat} {args : List TV} {k : LT (zc A) -> Option R} {r : R} (hwa : TV.wfs args) (h : yi2 A args k = some r) : ∃ x, k x = some r /\ FitsL args (z7t A x) := by
 unfold yi2 at h;split at h
 ·rename_i la ha;have hlw := z76 _ _ hwa ha;obtain ⟨x, h1, h2, h3, h4⟩ := zra (zc A) _ hlw h;obtain ⟨h1, hg⟩ := zmt h1;refine ⟨x, h1, ?_⟩;unfold z7t;generalize hvs : yR (zc A) x = vs at h3 h4;obtain ⟨ts', f1, f2⟩ := z9y (lens := fun _ => 0) A args [] hwa ha ⟨h3.symm, h4⟩ hg
  rw [List.append_nil] at f1;rw [f1]; exact f2
 ·cases h
def ysv (o : Oper) (σ : TS) : Bool :=
 match o.op with
 | .call { callee := .value fo, args := _, argTypes := _ } => match σ.eval fo with
  | .yl _ => true
  | _ => false
 | _ => false
def yyc (own : List Nat) (i : Nat) (o : Oper) (σ : TS) : List Nat :=
 bif zdq own i then (match o.op with
  | .call { callee := _, args := xs, argTypes := _ } => xs.toList.flatMap fun x => ybr (σ.eval x)
  | _ => []) else []
def zzi (A : List Pat) (dec : Nat -> List (LT (zc A)) -> Option Bool) (o : Oper) (tr : List (LT (zc A))) (σ : TS) (k : List (LT (zc A)) -> TS -> Option R) : Option R :=
 match o.op with
 | .call { callee := .value fo, args := xs, argTypes := _ } => match σ.eval fo with
  | .yl l => yi2 A (xs.toList.map σ.eval) fun x => (dec l (tr ++ [x])).bind fun b => k (tr ++ [x]) (σ.put o.dst (.v .bool b))
  | _ => none
 | _ => none
def y65 (A : List Pat) (dec : Nat -> List (LT (zc A)) -> Option Bool) (own : List Nat) (i : Nat) (o : Oper) (tr : List (LT (zc A))) (σ : TS) (k : List (LT (zc A)) -> TS -> Option R) : Option R :=
 match yyc own i o σ with
 | [] => zzi A dec o tr σ k
 | b :: bs => bif z4g σ.p (zj9 (kJ σ.H) σ.p (b :: bs) []) then zzi A dec o tr (yov σ (b :: bs)) k else none
structure DecOK {P : Program} {A : List Pat} (h : Host P (LT (zc A))) (dec : Nat -> List (LT (zc A)) -> Option Bool) : Prop where
 emb : h.emb = z7t A
 dec : ∀ l tr b, dec l tr = some b -> l = h.l /\ h.dec tr = some b
def yh3 (P : Program) (h : Host P E) (ro : Option Nat) (o : Oper) (tr : List E) (σ : TS) (N : List E -> TS -> Prop) : Prop :=
 ∀ c ds a w (K : Act -> World -> Prop) (Q : Exit -> Act -> World -> Prop), RelT w c σ a -> Inv h ro ds tr w c σ.flat.H ->
  (∀ c' a' w' tr' σ', N tr' σ' -> σ'.wf -> RelT w' c' σ' a' -> Inv h ro ds tr' w' c' σ'.flat.H -> a'.defers = a.defers -> K a' w') -> o.wpIn (Wd ro) 0 P a w K Q
theorem yug {h : Host P E} {ro : Option Nat} {tr : List E} {N : TS -> Prop} (hc : ∀ c, o.op ≠ .defer c) (ht : ze4 P o σ N) : yh3 P h ro o tr σ (fun tr' σ' => tr' = tr /\ N σ') := by
 intro c ds a w K Q hr hi hK;exact ydq hc (ht c a w K Q hr fun c' a' w' σ' hN hw' hr' hx hd => hK c' a' w' tr σ' ⟨rfl, hN⟩ hw' hr' (hi.step hx hr'.2.1) hd)
theorem y8w {A : List Pat} {h : Host P (LT (zc A))} {dec : Nat -> List (LT (zc A)) -> Option Bool} (hd : DecOK h dec) {ro : Option Nat} {tr : List (LT (zc A))} {k : List (LT (zc A)) -> TS -> Option R} {r : R} (hw : σ.wf)
  (hh : zzi A dec o tr σ k = some r) : yh3 P h ro o tr σ (fun tr' σ' => k tr' σ' = some r) := by
 unfold zzi at hh;split at hh
 ·rename_i fo xs ats ho;split at hh
  ·rename_i l hfo;obtain ⟨x, h1, h2⟩ := y7x (xI.2 fun t ht => by
    simp only [List.mem_map] at ht;obtain ⟨y, _, rfl⟩ := ht;exact zS hw y) hh
   rw [kB] at h1;obtain ⟨b, hb, h1⟩ := h1;obtain ⟨e1, e2⟩ := hd.dec _ _ _ hb;subst e1;have ee : h.emb x = z7t A x := by rw [hd.emb]
   intro c ds a w K Q hr hi hK;refine yp7 (x := x) ho hfo ?_ ?_ ?_ e2 hr hw hi fun c' a' w' hr' hi' hdf => hK c' a' w' _ _ h1 (jP hw _ (by simp only [TV.wf, wfU])) hr' hi' hdf
   ·rw [ee]; have := h2.pvs; rwa [qh, qh] at this
   ·rw [ee]; exact h2.wf
   ·rw [ee, h2.len]; simp
  ·cases hh
 ·cases hh
theorem yp8 {A : List Pat} {h : Host P (LT (zc A))} {dec : Nat -> List (LT (zc A)) -> Option Bool} (hd : DecOK h dec) {ro : Option Nat} {own : List Nat} {i : Nat} {tr : List (LT (zc A))} {k : List (LT (zc A)) -> TS -> Option R} {r : R} (hw : σ.wf)
  (hh : y65 A dec own i o tr σ k = some r) : yh3 P h ro o tr σ (fun tr' σ' => k tr' σ' = some r) := by
 unfold y65 at hh;split at hh
 ·exact y8w hd hw hh
 ·rename_i b bs _;cases hc : z4g σ.p (zj9 (kJ σ.H) σ.p (b :: bs) []) with
  | false => rw [hc] at hh; cases hh
  | true =>
   rw [hc] at hh;have h1 := y8w (ro := ro) hd (σ := yov σ (b :: bs)) (y6w hw) hh;intro c ds a w K Q hr hi hK;obtain ⟨q1, q2⟩ := yjq hr hw hc (b :: bs) (hs := List.replicate (kJ σ.H) .gone) (by simp [zj9])
   exact h1 _ ds a w K Q q1 (hi.step q2 q1.2.1) hK
noncomputable def zjp {R : Type} (P : Program) (V : Env) (A : List Pat) (dec : Nat -> List (LT (zc A)) -> Option Bool) (own : List Nat) (ops : Array Oper) : List Oper -> Nat -> List (LT (zc A)) -> TS -> (List (LT (zc A)) -> TS -> Option R) -> Option R
 | [], _, tr, σ, k => k tr σ
 | o :: r, i, tr, σ, k => zxz ops o σ σ (fun σ => bif ysv o σ then y65 A dec own i o tr σ fun tr' σ' => zjp P V A dec own ops r (i + 1) tr' σ' k
   else yia P V own i o σ fun σ' => zjp P V A dec own ops r (i + 1) tr σ' k) (fun σ => zjp P V A dec own ops r (i + 1) tr (σ.put o.dst (.tup [])) k)
theorem y51 {R : Type} {P : Program} {V : Env} (hV : EnvsOK P V) {A : List Pat} {h : Host P (LT (zc A))} {dec : Nat -> List (LT (zc A)) -> Option Bool} (hd : DecOK h dec) {ro : Option Nat} {own : List Nat} {ops : Array Oper} (hcm : zh2 ops.toList = true) {k : List (LT (zc A)) -> TS -> Option R} {r : R} :
  ∀ (l : List Oper) (i : Nat) {tr : List (LT (zc A))} {σ : TS}, ops.toList.drop i = l -> σ.wf -> zjp P V A dec own ops l i tr σ k = some r ->
  ∀ (c : Cx) (ds : List Nat) (a : Act) (w : World) (Q' : Exit -> Act -> World -> Prop), RelT w c σ a -> Inv h ro ds tr w c σ.flat.H ->
  (∀ c' a' w' tr' σ', k tr' σ' = some r -> σ'.wf -> RelT w' c' σ' a' -> Inv h ro ds tr' w' c' σ'.flat.H -> a'.defers = a.defers -> Q' .normal a' w') -> wpOpsIn (Wd ro) 0 P ops Q' (List.range' i l.length) a w
 | [], i, tr, σ, hdr, hw, hh => fun _ _ _ _ _ hr hi hK => hK _ _ _ tr σ (by simpa only [zjp] using hh) hw hr hi rfl
 | o :: l, i, tr, σ, hdr, hw, hh => by
  have ho : ops[i]? = some o := by
   have : ops.toList[i]? = some o := by
    have h3 : (ops.toList.drop i)[0]? = some o := by rw [hdr]; rfl
    rw [List.getElem?_drop] at h3; simpa using h3
   simpa using this
  have hdr' : ops.toList.drop (i + 1) = l := by
   have : ops.toList.drop (i + 1) = (ops.toList.drop i).drop 1 := by rw [List.drop_drop]
   rw [this, hdr]; rfl
  simp only [zjp] at hh;obtain ⟨g, σ', hg, hs, hh⟩ := zea hw (fun _ _ e => e) hh
  intro c ds a w Q' hr hi hK;have hi' : Inv h ro ds tr w c σ'.flat.H := by rw [hs.flat]; exact hi
  cases g with
  | true =>
   simp only [if_true] at hh;have st : yh3 P h ro o tr σ' (fun tr' σ2 => zjp P V A dec own ops l (i + 1) tr' σ2 k = some r) := by
    cases hy : ysv o σ' with
    | true => rw [hy, cond_true] at hh; exact yp8 hd hs.wf hh
    | false =>
     rw [hy, cond_false] at hh;intro c ds a w K Q hr hi hK;refine yug (ydd hcm ho) (zsd hV hs.wf hh).1 c ds a w K Q hr hi fun c' a' w' tr' σ2 hN => hK c' a' w' tr' σ2 ?_
     rw [hN.1]; exact hN.2.1
   simp only [List.length_cons, List.range'_succ, wpOpsIn, ho];rw [qK hr.2.2 hg];simp only [if_true];refine st c ds a w _ Q' (hr.same hs) hi' fun c' a' w' tr' σ2 hk hw2 hr2 hi2 hdf => ?_
   exact y51 hV hd hcm l (i + 1) hdr' hw2 hk _ ds _ _ Q' hr2 hi2 fun c3 a3 w3 tr3 σ3 hk3 hw3 hr3 hi3 hd3 => hK c3 a3 w3 tr3 σ3 hk3 hw3 hr3 hi3 (hd3.trans hdf)
  | false =>
   simp only [kP, if_false] at hh;have hwp := jP hs.wf o.dst zzh;simp only [List.length_cons, List.range'_succ, wpOpsIn, ho];rw [qK hr.2.2 hg];simp only [kP, if_false];refine ⟨fun _ _ => trivial, y51 hV hd hcm l (i + 1) hdr' hwp hh _ ds _ _ Q' (zem o.dst (hr.same hs) (by simp only [TV.pv, TV.pvs]; exact zrw)) ?_ fun c3 a3 w3 tr3 σ3 hk3 hw3 hr3 hi3 hd3 => hK c3 a3 w3 tr3 σ3 hk3 hw3 hr3 hi3 (hd3.trans (Act.put_defers' _ _ _))⟩
   have e1 : (σ'.put o.dst (.tup [])).flat.H = σ'.flat.H := by
    simp only [TS.flat, (z56 _ _ _).1]
   rw [e1]; exact hi'
theorem YAW.region {R : Type} {P : Program} {V : Env} (hV : EnvsOK P V) {A : List Pat} {h : Host P (LT (zc A))} {dec : Nat -> List (LT (zc A)) -> Option Bool} (hd : DecOK h dec) {ro : Option Nat} {own : List Nat} {id : Nat} {ops : Array Oper} {tr : List (LT (zc A))} {σ : TS} {k : List (LT (zc A)) -> TS -> Option R} {r : R}
  (hcm : zh2 ops.toList = true) (hh : zjp P V A dec own ops ops.toList 0 tr σ k = some r) : YAW P h ro (.region id ops false) tr σ (fun e tr' σ' => e = .normal /\ k tr' σ' = some r) := by
 intro c ds a w Q' hr hw hi hds hK;refine wpIn_mono (Q := fun e a w => e = .normal /\ Q' e a w) (wpIn_region ?_) fun _ _ _ h => h.2
 have := y51 hV hd (ro := ro) hcm ops.toList 0 (by simp) hw hh c ds a w (fun e a w => e = .normal /\ Q' e a w) hr hi fun c' a' w' tr' σ' hk hw' hr' hi' hdf => ⟨rfl, hK .normal c' ds a' w' σ' tr' ⟨rfl, hk⟩ hw' hr' hi' (hdf.trans hds)⟩
 rw [List.range_eq_range'];simpa using this
def yya (E : Type) : Type 1 := {R : Type} -> List E -> TS -> (Exit -> List E -> TS -> Option R) -> Option R
inductive HY (E : Type) : Type 1 where
 | no
 | pl (h : HT)
 | two (a b : HY E)
 | join (X : TS -> XS) (a b : HY E)
 | over (d : {R : Type} -> List E -> TS -> (Exit -> List E -> TS -> Option R) -> Option R)
 | reg (own : List Nat)
def HY.l : HY E -> HY E
 | .two a _ | .join _ a _ => a
 | _ => .no
def HY.r : HY E -> HY E
 | .two _ b | .join _ _ b => b
 | _ => .no
def HY.own {E : Type} : HY E -> List Nat
 | .reg own => own
 | _ => []
noncomputable def zn (P : Program) (V : Env) (A : List Pat) (dec : Nat -> List (LT (zc A)) -> Option Bool) : Code -> HY (LT (zc A)) -> {R : Type} -> List (LT (zc A)) -> TS -> (Exit -> List (LT (zc A)) -> TS -> Option R) -> Option R
 | .seq a b, h, _, tr, σ, k => match h with
  | .pl g => zO P V (.seq a b) g σ fun e σ' => k e tr σ'
  | .join X ha hb => (zn P V A dec a ha tr σ (fun e tr' σ' => (X σ).close e σ' fun x => some (tr', x))).bind fun y => (X σ).open' y.2 fun e σ' => match e with
   | .normal => zn P V A dec b hb y.1 σ' k
   | e => k e y.1 σ'
  | .over d => d tr σ k
  | h => zn P V A dec a h.l tr σ fun e tr' σ' => match e with
   | .normal => zn P V A dec b h.r tr' σ' k
   | e => k e tr' σ'
 | .region id ops draw, h, _, tr, σ, k => match h with
  | .pl g => zO P V (.region id ops draw) g σ fun e σ' => k e tr σ'
  | h => bif zh2 ops.toList then (match draw with
   | false => zjp P V A dec h.own ops ops.toList 0 tr σ fun tr' σ' => k .normal tr' σ'
   | true => none) else none
 | .skip, _, _, tr, σ, k => k .normal tr σ
 | .label _, _, _, tr, σ, k => k .normal tr σ
 | .ret, _, _, tr, σ, k => k .ret tr σ
 | .exit id, _, _, tr, σ, k => k (.exit id) tr σ
 | .cond x t e, h, _, tr, σ, k => match h with
  | .pl g => zO P V (.cond x t e) g σ fun e σ' => k e tr σ'
  | h => match σ.eval x with
   | .v .bool b => cond b (zn P V A dec t h.l tr σ k) (zn P V A dec e h.r tr σ k)
   | _ => none
 | .block id x, h, _, tr, σ, k => match h with
  | .pl g => zO P V (.block id x) g σ fun e σ' => k e tr σ'
  | h => zn P V A dec x h tr σ fun e tr' σ' => match e with
   | .exit id' => bif kI id' id then k .normal tr' σ' else k (.exit id') tr' σ'
   | e => k e tr' σ'
 | .scope x, h, _, tr, σ, k => match h with
  | .pl g => zO P V (.scope x) g σ fun e σ' => k e tr σ'
  | h => zn P V A dec x h tr σ fun e tr' σ' => match e with
   | .goto _ => none
   | e => k e tr' σ'
 | .loop x, h, _, tr, σ, k => match h with
  | .pl g => zO P V (.loop x) g σ fun e σ' => k e tr σ'
  | .over d => d tr σ k
  | _ => none
 | .rangeFunc g ps x y, h, _, tr, σ, k => match h with
  | .pl q => zO P V (.rangeFunc g ps x y) q σ fun e σ' => k e tr σ'
  | .over d => d tr σ k
  | _ => none
 | _, _, _, _, _, _ => none
def z6r (A : List Pat) (tr : List (LT (zc A))) : Prop := ∀ e, e ∈ tr -> TV.wfs (z7t A e)
structure SoundY (P : Program) (A : List Pat) (dec : Nat -> List (LT (zc A)) -> Option Bool) (x : Code) (d : yya (LT (zc A))) : Prop where
 yaw : ∀ (h : Host P (LT (zc A))) (ro : Option Nat), DecOK h dec -> ∀ (R : Type) (tr : List (LT (zc A))) (σ : TS) (k : Exit -> List (LT (zc A)) -> TS -> Option R) (r : R), d tr σ k = some r -> YAW P h ro x tr σ (fun e tr' σ' => k e tr' σ' = some r)
 wf : ∀ (R : Type) (tr : List (LT (zc A))) (σ : TS) (k : Exit -> List (LT (zc A)) -> TS -> Option R) (r : R), z6r A tr -> σ.wf -> d tr σ k = some r -> ∃ e tr' σ', z6r A tr' /\ σ'.wf /\ k e tr' σ' = some r
def z1v (P : Program) (A : List Pat) (dec : Nat -> List (LT (zc A)) -> Option Bool) : Code -> HY (LT (zc A)) -> Prop
 | .seq a b, h => match h with
  | .pl g => HOK P (.seq a b) g
  | .join X ha hb => (∀ σ, (X σ).OK) /\ z1v P A dec a ha /\ z1v P A dec b hb
  | .over d => SoundY P A dec (.seq a b) d
  | h => z1v P A dec a h.l /\ z1v P A dec b h.r
 | .cond x t e, h => match h with
  | .pl g => HOK P (.cond x t e) g
  | h => z1v P A dec t h.l /\ z1v P A dec e h.r
 | .block id x, h => match h with
  | .pl g => HOK P (.block id x) g
  | h => z1v P A dec x h
 | .scope x, h => match h with
  | .pl g => HOK P (.scope x) g
  | h => z1v P A dec x h
 | .loop x, h => match h with
  | .pl g => HOK P (.loop x) g
  | .over d => SoundY P A dec (.loop x) d
  | _ => True
 | .rangeFunc g ps x y, h => match h with
  | .pl q => HOK P (.rangeFunc g ps x y) q
  | .over d => SoundY P A dec (.rangeFunc g ps x y) d
  | _ => True
 | .region id ops draw, h => match h with
  | .pl g => HOK P (.region id ops draw) g
  | _ => True
 | _, _ => True
variable {V : Env}
theorem YAW.plain (hV : EnvsOK P V) {h : Host P E} {ro : Option Nat} {g : HT} {tr : List E} {k : Exit -> List E -> TS -> Option R} {r : R} (hok : HOK P x g) (hh : (zO P V x g σ fun e σ' => k e tr σ') = some r) :
  YAW P h ro x tr σ (fun e tr' σ' => k e tr' σ' = some r) :=
 (YAW.of (zn9 hV x g hok hh)).mono fun e t σ ⟨h1, h2⟩ => by rw [h1]; exact h2
theorem yb2 (hV : EnvsOK P V) {A : List Pat} {h : Host P (LT (zc A))} {dec : Nat -> List (LT (zc A)) -> Option Bool} (hd : DecOK h dec) {ro : Option Nat} : ∀ (x : Code) (g : HY (LT (zc A))) {R : Type} {tr : List (LT (zc A))} {σ : TS} {k : Exit -> List (LT (zc A)) -> TS -> Option R} {r : R},
  z1v P A dec x g -> zn P V A dec x g tr σ k = some r -> YAW P h ro x tr σ (fun e tr' σ' => k e tr' σ' = some r) := by
 intro x
 induction x with
 | skip => intro g R tr σ k r _ hh; simp only [zn] at hh; exact (YAW.of (TAW.skip (Q := fun e σ' => e = .normal /\ σ' = σ) ⟨rfl, rfl⟩)).mono fun e t s ⟨h1, h2, h3⟩ => by rw [h1, h2, h3]; exact hh
 | label l => intro g R tr σ k r _ hh; simp only [zn] at hh; exact (YAW.of (TAW.label (Q := fun e σ' => e = .normal /\ σ' = σ) ⟨rfl, rfl⟩)).mono fun e t s ⟨h1, h2, h3⟩ => by rw [h1, h2, h3]; exact hh
 | ret => intro g R tr σ k r _ hh; simp only [zn] at hh; exact (YAW.of (TAW.ret (Q := fun e σ' => e = .ret /\ σ' = σ) ⟨rfl, rfl⟩)).mono fun e t s ⟨h1, h2, h3⟩ => by rw [h1, h2, h3]; exact hh
 | exit id => intro g R tr σ k r _ hh; simp only [zn] at hh; exact (YAW.of (TAW.exit (Q := fun e σ' => e = .exit id /\ σ' = σ) ⟨rfl, rfl⟩)).mono fun e t s ⟨h1, h2, h3⟩ => by rw [h1, h2, h3]; exact hh
 | region id ops draw =>
  intro g R tr σ k r hok hh;have main : ∀ own, (bif zh2 ops.toList then (match draw with
   | false => zjp P V A dec own ops ops.toList 0 tr σ fun tr' σ' => k .normal tr' σ'
   | true => none) else none) = some r -> YAW P h ro (.region id ops draw) tr σ (fun e tr' σ' => k e tr' σ' = some r) := by
   intro own hh;cases hcm : zh2 ops.toList with
   | false => rw [hcm] at hh; cases hh
   | true =>
    rw [hcm, cond_true] at hh;cases draw with
    | true => cases hh
    | false => exact (YAW.region hV hd hcm hh).mono fun e t s ⟨h1, h2⟩ => by rw [h1]; exact h2
  cases g with
  | pl g => simp only [zn] at hh; exact YAW.plain hV hok hh
  | no => simp only [zn] at hh; exact main _ hh
  | two a b => simp only [zn] at hh; exact main _ hh
  | join X a b => simp only [zn] at hh; exact main _ hh
  | over d => simp only [zn] at hh; exact main _ hh
  | reg o => simp only [zn] at hh; exact main _ hh
 | seq a b iha ihb =>
  intro g R tr σ k r hok hh;have plain : ∀ ha hb : HY (LT (zc A)), z1v P A dec a ha -> z1v P A dec b hb -> (zn P V A dec a ha tr σ fun e tr' σ' => match e with | .normal => zn P V A dec b hb tr' σ' k | e => k e tr' σ') = some r -> YAW P h ro (.seq a b) tr σ (fun e tr' σ' => k e tr' σ' = some r) := by
   intro ha hb h1 h2 hh;refine YAW.seq ((iha ha h1 hh).mono fun e t σ' he => ?_)
   cases e <;> first | exact he | skip
   exact ihb hb h2 he
  cases g with
  | pl g => simp only [zn] at hh; exact YAW.plain hV hok hh
  | no => simp only [zn] at hh; exact plain _ _ hok.1 hok.2 hh
  | two ha hb => simp only [zn] at hh; exact plain _ _ hok.1 hok.2 hh
  | reg o => simp only [zn] at hh; exact plain _ _ hok.1 hok.2 hh
  | over d => simp only [zn] at hh; exact hok.yaw h ro hd R tr σ k r hh
  | join X ha hb =>
   simp only [zn] at hh;obtain ⟨hX, h1, h2⟩ := hok;rw [kB] at hh;obtain ⟨y, hx, hh⟩ := hh;rw [(hX σ).open'] at hh;have h3 := iha ha h1 hx;refine YAW.seq ?_;intro c ds a' w Q' hr hw hi hds hK;refine h3 c ds a' w Q' hr hw hi hds fun e c' ds' a2 w' σ' tr' he hw' hr' hi' hdf => ?_
   obtain ⟨x', g1, g2, g3⟩ := (hX σ).close _ e σ' _ y hw' he;cases g1;obtain ⟨c2, hr2, hx2⟩ := g3.2 w' c' a2 hr';refine hK e c2 ds' a2 w' ((X σ).at' x').2 tr' ?_ g3.1 hr2 (hi'.step (hx2 _ _ (ExtP.refl _ _ _)) hr2.2.1) hdf;rw [g2] at hh;cases e <;> first | exact hh | skip
   exact ihb hb h2 hh
 | cond x t e iht ihe =>
  intro g R tr σ k r hok hh;have main : ∀ ha hb : HY (LT (zc A)), z1v P A dec t ha -> z1v P A dec e hb -> (match σ.eval x with | .v .bool b => cond b (zn P V A dec t ha tr σ k) (zn P V A dec e hb tr σ k) | _ => none) = some r -> YAW P h ro (.cond x t e) tr σ (fun e tr' σ' => k e tr' σ' = some r) := by
   intro ha hb h1 h2 hh;split at hh
   ·rename_i b hbv;refine YAW.cond hbv ?_;cases b with
    | true => exact iht _ h1 hh
    | false => exact ihe _ h2 hh
   ·cases hh
  cases g with
  | pl g => simp only [zn] at hh; exact YAW.plain hV hok hh
  | no => simp only [zn] at hh; exact main _ _ hok.1 hok.2 hh
  | two ha hb => simp only [zn] at hh; exact main _ _ hok.1 hok.2 hh
  | reg o => simp only [zn] at hh; exact main _ _ hok.1 hok.2 hh
  | over d => simp only [zn] at hh; exact main _ _ hok.1 hok.2 hh
  | join X ha hb => simp only [zn] at hh; exact main _ _ hok.1 hok.2 hh
 | block id x ih =>
  intro g R tr σ k r hok hh;have main : ∀ g, z1v P A dec x g -> (zn P V A dec x g tr σ fun e tr' σ' => match e with
   | .exit id' => bif kI id' id then k .normal tr' σ' else k (.exit id') tr' σ'
   | e => k e tr' σ') = some r -> YAW P h ro (.block id x) tr σ (fun e tr' σ' => k e tr' σ' = some r) := by
   intro g hok hh;refine YAW.block ((ih g hok hh).mono fun e t σ' he => ?_)
   cases e with
   | exit id' =>
    simp only [ykn];simp only at he;cases hb : kI id' id with
    | true => rw [hb] at he; exact he
    | false => rw [hb] at he; exact he
   | _ => exact he
  cases g with
  | pl g => simp only [zn] at hh; exact YAW.plain hV hok hh
  | no => simp only [zn] at hh; exact main _ hok hh
  | two ha hb => simp only [zn] at hh; exact main _ hok hh
  | reg o => simp only [zn] at hh; exact main _ hok hh
  | over d => simp only [zn] at hh; exact main _ hok hh
  | join X ha hb => simp only [zn] at hh; exact main _ hok hh
 | scope x ih =>
  intro g R tr σ k r hok hh;have main : ∀ g, z1v P A dec x g -> (zn P V A dec x g tr σ fun e tr' σ' => match e with
   | .goto _ => none
   | e => k e tr' σ') = some r -> YAW P h ro (.scope x) tr σ (fun e tr' σ' => k e tr' σ' = some r) := by
   intro g hok hh;refine YAW.scope ((ih g hok hh).mono fun e t σ' he => ?_)
   cases e <;> first | exact he | cases he
  cases g with
  | pl g => simp only [zn] at hh; exact YAW.plain hV hok hh
  | no => simp only [zn] at hh; exact main _ hok hh
  | two ha hb => simp only [zn] at hh; exact main _ hok hh
  | reg o => simp only [zn] at hh; exact main _ hok hh
  | over d => simp only [zn] at hh; exact main _ hok hh
  | join X ha hb => simp only [zn] at hh; exact main _ hok hh
 | loop x ih =>
  intro g R tr σ k r hok hh;cases g with
  | pl g => simp only [zn] at hh; exact YAW.plain hV hok hh
  | over d => simp only [zn] at hh; exact hok.yaw h ro hd R tr σ k r hh
  | _ => simp [zn] at hh
 | rangeFunc q ps x y _ _ =>
  intro g R tr σ k r hok hh;cases g with
  | pl g => simp only [zn] at hh; exact YAW.plain hV hok hh
  | over d => simp only [zn] at hh; exact hok.yaw h ro hd R tr σ k r hh
  | _ => simp [zn] at hh
 | _ => intro g R tr σ k r hok hh; simp [zn] at hh
theorem yg9 {A : List Pat} {dec : Nat -> List (LT (zc A)) -> Option Bool} {tr : List (LT (zc A))} {k : List (LT (zc A)) -> TS -> Option R} {r : R} (ht : z6r A tr) (hw : σ.wf)
  (hh : zzi A dec o tr σ k = some r) : ∃ tr' σ', z6r A tr' /\ σ'.wf /\ k tr' σ' = some r := by
 unfold zzi at hh;split at hh
 ·rename_i fo xs ats ho;split at hh
  ·rename_i l hfo;obtain ⟨x, h1, h2⟩ := y7x (xI.2 fun t ht => by
    simp only [List.mem_map] at ht;obtain ⟨y, _, rfl⟩ := ht;exact zS hw y) hh
   rw [kB] at h1;obtain ⟨b, hb, h1⟩ := h1;refine ⟨_, _, fun e he => ?_, jP hw _ (by simp only [TV.wf, wfU]), h1⟩
   rcases kM.1 he with he | he
   ·exact ht e he
   ·rw [kG.1 he]; exact h2.wf
  ·cases hh
 ·cases hh
theorem yuf {A : List Pat} {dec : Nat -> List (LT (zc A)) -> Option Bool} {own : List Nat} {i : Nat} {tr : List (LT (zc A))} {k : List (LT (zc A)) -> TS -> Option R} {r : R} (ht : z6r A tr) (hw : σ.wf)
  (hh : y65 A dec own i o tr σ k = some r) : ∃ tr' σ', z6r A tr' /\ σ'.wf /\ k tr' σ' = some r := by
 unfold y65 at hh;split at hh
 ·exact yg9 ht hw hh
 ·rename_i b bs _;cases hc : z4g σ.p (zj9 (kJ σ.H) σ.p (b :: bs) []) with
  | false => rw [hc] at hh; cases hh
  | true => rw [hc] at hh; exact yg9 ht (y6w hw) hh
theorem y6p {R : Type} {P : Program} {V : Env} (hV : EnvsOK P V) {A : List Pat} {dec : Nat -> List (LT (zc A)) -> Option Bool} {own : List Nat} {ops : Array Oper} {k : List (LT (zc A)) -> TS -> Option R} {r : R} :
  ∀ (l : List Oper) (i : Nat) {tr : List (LT (zc A))} {σ : TS}, z6r A tr -> σ.wf -> zjp P V A dec own ops l i tr σ k = some r -> ∃ tr' σ', z6r A tr' /\ σ'.wf /\ k tr' σ' = some r
 | [], i, tr, σ, ht, hw, hh => ⟨tr, σ, ht, hw, by simpa only [zjp] using hh⟩
 | o :: l, i, tr, σ, ht, hw, hh => by
  simp only [zjp] at hh;obtain ⟨g, σ', hg, hs, hh⟩ := zea hw (fun _ _ e => e) hh
  cases g with
  | true =>
   simp only [if_true] at hh;cases hy : ysv o σ' with
   | true =>
    rw [hy, cond_true] at hh;obtain ⟨tr', σ2, h1, h2, h3⟩ := yuf ht hs.wf hh;exact y6p hV l _ h1 h2 h3
   | false =>
    rw [hy, cond_false] at hh;obtain ⟨σ2, h1, h2⟩ := (zsd hV hs.wf hh).2;exact y6p hV l _ ht h1 h2
  | false =>
   simp only [kP, if_false] at hh;exact y6p hV l _ ht (jP hs.wf o.dst zzh) hh
theorem yid (hV : EnvsOK P V) {A : List Pat} {dec : Nat -> List (LT (zc A)) -> Option Bool} : ∀ (x : Code) (g : HY (LT (zc A))) {R : Type} {tr : List (LT (zc A))} {σ : TS} {k : Exit -> List (LT (zc A)) -> TS -> Option R} {r : R},
  z1v P A dec x g -> z6r A tr -> σ.wf -> zn P V A dec x g tr σ k = some r -> ∃ e tr' σ', z6r A tr' /\ σ'.wf /\ k e tr' σ' = some r := by
 intro x;have pln : ∀ (x : Code) (g : HT) {R : Type} {tr : List (LT (zc A))} {σ : TS} {k : Exit -> List (LT (zc A)) -> TS -> Option R} {r : R}, HOK P x g -> z6r A tr -> σ.wf -> (zO P V x g σ fun e σ' => k e tr σ') = some r -> ∃ e tr' σ', z6r A tr' /\ σ'.wf /\ k e tr' σ' = some r := by
  intro x g R tr σ k r hok ht hw hh;obtain ⟨e, σ', h1, h2⟩ := zse hV x g hok hw hh;exact ⟨e, tr, σ', ht, h1, h2⟩
 induction x with
 | skip => intro g R tr σ k r _ ht hw hh; simp only [zn] at hh; exact ⟨_, tr, σ, ht, hw, hh⟩
 | label l => intro g R tr σ k r _ ht hw hh; simp only [zn] at hh; exact ⟨_, tr, σ, ht, hw, hh⟩
 | ret => intro g R tr σ k r _ ht hw hh; simp only [zn] at hh; exact ⟨_, tr, σ, ht, hw, hh⟩
 | exit id => intro g R tr σ k r _ ht hw hh; simp only [zn] at hh; exact ⟨_, tr, σ, ht, hw, hh⟩
 | region id ops draw =>
  intro g R tr σ k r hok ht hw hh;have main : ∀ own, (bif zh2 ops.toList then (match draw with
   | false => zjp P V A dec own ops ops.toList 0 tr σ fun tr' σ' => k .normal tr' σ'
   | true => none) else none) = some r -> ∃ e tr' σ', z6r A tr' /\ σ'.wf /\ k e tr' σ' = some r := by
   intro own hh;cases hcm : zh2 ops.toList with
   | false => rw [hcm] at hh; cases hh
   | true =>
    rw [hcm, cond_true] at hh;cases draw with
    | true => cases hh
    | false =>
     obtain ⟨tr', σ', h1, h2, h3⟩ := y6p hV _ _ ht hw hh;exact ⟨_, tr', σ', h1, h2, h3⟩
  cases g with
  | pl g => simp only [zn] at hh; exact pln _ _ hok ht hw hh
  | no => simp only [zn] at hh; exact main _ hh
  | two a b => simp only [zn] at hh; exact main _ hh
  | join X a b => simp only [zn] at hh; exact main _ hh
  | over d => simp only [zn] at hh; exact main _ hh
  | reg o => simp only [zn] at hh; exact main _ hh
 | seq a b iha ihb =>
  intro g R tr σ k r hok ht hw hh;have plain : ∀ ha hb : HY (LT (zc A)), z1v P A dec a ha -> z1v P A dec b hb -> (zn P V A dec a ha tr σ fun e tr' σ' => match e with | .normal => zn P V A dec b hb tr' σ' k | e => k e tr' σ') = some r -> ∃ e tr' σ', z6r A tr' /\ σ'.wf /\ k e tr' σ' = some r := by
   intro ha hb h1 h2 hh;obtain ⟨e, tr', σ', k1, k2, he⟩ := iha ha h1 ht hw hh;cases e <;> first | exact ⟨_, tr', σ', k1, k2, he⟩ | skip
   exact ihb hb h2 k1 k2 he
  cases g with
  | pl g => simp only [zn] at hh; exact pln _ _ hok ht hw hh
  | no => simp only [zn] at hh; exact plain _ _ hok.1 hok.2 hh
  | two ha hb => simp only [zn] at hh; exact plain _ _ hok.1 hok.2 hh
  | reg o => simp only [zn] at hh; exact plain _ _ hok.1 hok.2 hh
  | over d => simp only [zn] at hh; exact hok.wf R tr σ k r ht hw hh
  | join X ha hb =>
   simp only [zn] at hh;obtain ⟨hX, h1, h2⟩ := hok;rw [kB] at hh;obtain ⟨y, hx, hh⟩ := hh;rw [(hX σ).open'] at hh;obtain ⟨e, tr', σ', k1, k2, he⟩ := iha ha h1 ht hw hx;obtain ⟨x', g1, g2, g3⟩ := (hX σ).close _ e σ' _ y k2 he;cases g1;rw [g2] at hh;cases e <;> first | exact ⟨_, _, _, k1, g3.1, hh⟩ | skip
   exact ihb hb h2 k1 g3.1 hh
 | cond x t e iht ihe =>
  intro g R tr σ k r hok ht hw hh;have main : ∀ ha hb : HY (LT (zc A)), z1v P A dec t ha -> z1v P A dec e hb -> (match σ.eval x with | .v .bool b => cond b (zn P V A dec t ha tr σ k) (zn P V A dec e hb tr σ k) | _ => none) = some r -> ∃ e tr' σ', z6r A tr' /\ σ'.wf /\ k e tr' σ' = some r := by
   intro ha hb h1 h2 hh;split at hh
   ·rename_i b hbv;cases b with
    | true => exact iht _ h1 ht hw hh
    | false => exact ihe _ h2 ht hw hh
   ·cases hh
  cases g with
  | pl g => simp only [zn] at hh; exact pln _ _ hok ht hw hh
  | no => simp only [zn] at hh; exact main _ _ hok.1 hok.2 hh
  | two ha hb => simp only [zn] at hh; exact main _ _ hok.1 hok.2 hh
  | reg o => simp only [zn] at hh; exact main _ _ hok.1 hok.2 hh
  | over d => simp only [zn] at hh; exact main _ _ hok.1 hok.2 hh
  | join X ha hb => simp only [zn] at hh; exact main _ _ hok.1 hok.2 hh
 | block id x ih =>
  intro g R tr σ k r hok ht hw hh;have main : ∀ g, z1v P A dec x g -> (zn P V A dec x g tr σ fun e tr' σ' => match e with
   | .exit id' => bif kI id' id then k .normal tr' σ' else k (.exit id') tr' σ'
   | e => k e tr' σ') = some r -> ∃ e tr' σ', z6r A tr' /\ σ'.wf /\ k e tr' σ' = some r := by
   intro g hok hh;obtain ⟨e, tr', σ', k1, k2, he⟩ := ih g hok ht hw hh;cases e with
   | exit id' =>
    simp only at he;cases hb : kI id' id with
    | true => rw [hb] at he; exact ⟨_, tr', σ', k1, k2, he⟩
    | false => rw [hb] at he; exact ⟨_, tr', σ', k1, k2, he⟩
   | _ => exact ⟨_, tr', σ', k1, k2, he⟩
  cases g with
  | pl g => simp only [zn] at hh; exact pln _ _ hok ht hw hh
  | no => simp only [zn] at hh; exact main _ hok hh
  | two ha hb => simp only [zn] at hh; exact main _ hok hh
  | reg o => simp only [zn] at hh; exact main _ hok hh
  | over d => simp only [zn] at hh; exact main _ hok hh
  | join X ha hb => simp only [zn] at hh; exact main _ hok hh
 | scope x ih =>
  intro g R tr σ k r hok ht hw hh;have main : ∀ g, z1v P A dec x g -> (zn P V A dec x g tr σ fun e tr' σ' => match e with
   | .goto _ => none
   | e => k e tr' σ') = some r -> ∃ e tr' σ', z6r A tr' /\ σ'.wf /\ k e tr' σ' = some r := by
   intro g hok hh;obtain ⟨e, tr', σ', k1, k2, he⟩ := ih g hok ht hw hh;cases e <;> first | exact ⟨_, tr', σ', k1, k2, he⟩ | cases he
  cases g with
  | pl g => simp only [zn] at hh; exact pln _ _ hok ht hw hh
  | no => simp only [zn] at hh; exact main _ hok hh
  | two ha hb => simp only [zn] at hh; exact main _ hok hh
  | reg o => simp only [zn] at hh; exact main _ hok hh
  | over d => simp only [zn] at hh; exact main _ hok hh
  | join X ha hb => simp only [zn] at hh; exact main _ hok hh
 | loop x ih =>
  intro g R tr σ k r hok ht hw hh;cases g with
  | pl g => simp only [zn] at hh; exact pln _ _ hok ht hw hh
  | over d => simp only [zn] at hh; exact hok.wf R tr σ k r ht hw hh
  | _ => simp [zn] at hh
 | rangeFunc q ps x y _ _ =>
  intro g R tr σ k r hok ht hw hh;cases g with
  | pl g => simp only [zn] at hh; exact pln _ _ hok ht hw hh
  | over d => simp only [zn] at hh; exact hok.wf R tr σ k r ht hw hh
  | _ => simp [zn] at hh
 | _ => intro g R tr σ k r hok ht hw hh; simp [zn] at hh
def zyh (S : XE) (X : XS) (f : List E × S.T -> Option (List E × X.T)) : {R : Type} -> List E -> TS -> (Exit -> List E -> TS -> Option R) -> Option R :=
 fun tr σ k => S.close σ fun s => (f (tr, s)).bind fun y => X.open' y.2 fun e σ' => k e y.1 σ'
noncomputable def yxg (P : Program) (V : Env) (A : List Pat) (dec : Nat -> List (LT (zc A)) -> Option Bool) (x : Code) (g : HY (LT (zc A))) (S : XE) (X : XS) (s : List (LT (zc A)) × S.T) : Option ((List (LT (zc A)) × S.T) ⊕ (List (LT (zc A)) × X.T)) :=
 zn P V A dec x g s.1 (S.st s.2) fun e tr σ' => match e with
  | .normal => S.close σ' fun s' => some (.inl (tr, s'))
  | e => X.close e σ' fun y => some (.inr (tr, y))
theorem ykv (hV : EnvsOK P V) {A : List Pat} {dec : Nat -> List (LT (zc A)) -> Option Bool} {g : HY (LT (zc A))} {S : XE} {X : XS} (hok : z1v P A dec x g) (hS : S.OK) (hX : X.OK)
  (f : List (LT (zc A)) × S.T -> Option ((List (LT (zc A)) × S.T) ⊕ (List (LT (zc A)) × X.T))) (hf : ∀ s, yxg P V A dec x g S X s = f s) : SoundY P A dec (.loop x) (zyh S X (zb f)) := by
 refine ⟨?yaw, ?wf⟩
 case wf =>
  intro R tr σ k r ht hw hh;simp only [zyh] at hh;obtain ⟨s, h1, h2⟩ := hS R σ _ r hw hh;rw [kB] at h1;obtain ⟨xx, h3, h4⟩ := h1;obtain ⟨n, hn⟩ := zdn.1 h3;have key : ∀ (n : Nat) (s : List (LT (zc A)) × S.T) (xx : List (LT (zc A)) × X.T), z6r A s.1 -> (S.st s.2).wf -> iter f n s = some xx -> z6r A xx.1 /\ (X.at' xx.2).2.wf := by
   intro n
   induction n with
   | zero => intro s xx _ _ h; cases h
   | succ n ih =>
    intro s xx hts hws hi;simp only [iter] at hi;rw [kB] at hi;obtain ⟨y, hy, hi⟩ := hi;rw [<- hf] at hy;obtain ⟨e, tr', σ', ht', hw', he⟩ := yid hV x g hok hts hws hy;have fin : (X.close e σ' fun x => some (Sum.inr (tr', x))) = some y -> z6r A xx.1 /\ (X.at' xx.2).2.wf := fun hc => by
     obtain ⟨x', g1, g2, g3⟩ := hX.close _ e σ' _ y hw' hc;cases g1;cases hi;exact ⟨ht', g3.1⟩
    cases e with
    | normal =>
     obtain ⟨s', g1, g2⟩ := hS _ σ' _ y hw' he;cases g1;exact ih (tr', s') xx ht' g2.1 hi
    | exit id => exact fin he
    | goto l => exact fin he
    | ret => exact fin he
    | panic ch => exact fin he
    | outgrown => exact fin he
  rw [hX.open'] at h4;obtain ⟨k1, k2⟩ := key n (tr, s) xx ht h2.1 hn;exact ⟨_, _, _, k1, k2, h4⟩
 intro h ro hd R tr σ k r hh;simp only [zyh] at hh;have key : ∀ (n : Nat) (s : List (LT (zc A)) × S.T) (xx : List (LT (zc A)) × X.T), iter f n s = some xx -> YLoop P h ro x s.1 (S.st s.2) (fun e tr' σ' => k e tr' σ' = some r) \/ X.open' xx.2 (fun e σ' => k e xx.1 σ') ≠ some r := by
  intro n
  induction n with
  | zero => intro s xx h; cases h
  | succ n ih =>
   intro s xx hi
   by_cases hop : X.open' xx.2 (fun e σ' => k e xx.1 σ') = some r
   ·refine .inl (YLoop.step ?_);simp only [iter] at hi;rw [kB] at hi;obtain ⟨y, hy, hi⟩ := hi;rw [<- hf] at hy;have h1 := yb2 (ro := ro) hV hd x g hok hy;intro c ds a w Q' hr hw hin hds hK;refine h1 c ds a w Q' hr hw hin hds fun e c' ds' a2 w' σ' tr' he hw' hr' hi' hdf => ?_
    have fin : ∀ e, e ≠ .normal -> (X.close e σ' fun x => some (Sum.inr (tr', x))) = some y -> Q' e a2 w' := by
     intro e hne hc;obtain ⟨x', g1, g2, g3⟩ := hX.close _ e σ' _ y hw' hc;cases g1;cases hi;obtain ⟨c2, hr2, hx2⟩ := g3.2 w' c' a2 hr';refine hK e c2 ds' a2 w' (X.at' x').2 tr' ?_ g3.1 hr2 (hi'.step (hx2 _ _ (ExtP.refl _ _ _)) hr2.2.1) hdf;rw [hX.open', g2] at hop;cases e <;> first | exact hop | exact absurd rfl hne
    cases e with
    | normal =>
     obtain ⟨s', g1, g2⟩ := hS _ σ' _ y hw' he;cases g1;refine hK .normal c' ds' a2 w' σ' tr' ?_ hw' hr' hi' hdf;rcases ih (tr', s') xx hi with h2 | h2
     ·exact YLoop.wk g2 h2
     ·exact absurd hop h2
    | exit id => exact fin _ (by simp) he
    | goto l => exact fin _ (by simp) he
    | ret => exact fin _ (by simp) he
    | panic ch => exact fin _ (by simp) he
    | outgrown => exact fin _ (by simp) he
   ·exact .inr hop
 intro c ds a w Q' hr hw hi hds hK;obtain ⟨s, h1, h2⟩ := hS R σ _ r hw hh;rw [kB] at h1;obtain ⟨xx, h3, h4⟩ := h1;obtain ⟨n, hn⟩ := zdn.1 h3;rcases key n (tr, s) xx hn with h5 | h5
 ·exact YAW.wk h2 (YLoop.loop h5) c ds a w Q' hr hw hi hds hK
 ·exact absurd h4 h5
inductive OblY (E : Type) : Type 1 where
 | den (x : Code) (d : {R : Type} -> List E -> TS -> (Exit -> List E -> TS -> Option R) -> Option R)
 | xs (X : TS -> XS)
 | pl (o : Obl)
def OblY.OK (P : Program) {A : List Pat} (dec : Nat -> List (LT (zc A)) -> Option Bool) : OblY (LT (zc A)) -> Prop
 | .den x d => SoundY P A dec x d
 | .xs X => ∀ σ, (X σ).OK
 | .pl o => o.OK P
def zx1 {E : Type} : Code -> HY E -> List (OblY E)
 | .seq a b, h => match h with
  | .pl g => (obl (.seq a b) g).map .pl
  | .join X ha hb => .xs X :: (zx1 a ha ++ zx1 b hb)
  | .over d => [.den (.seq a b) d]
  | .no => []
  | .two ha hb => zx1 a ha ++ zx1 b hb
  | .reg _ => []
 | .cond x t e, h => match h with
  | .pl g => (obl (.cond x t e) g).map .pl
  | .no => []
  | h => zx1 t h.l ++ zx1 e h.r
 | .block id x, h => match h with
  | .pl g => (obl (.block id x) g).map .pl
  | .no => []
  | h => zx1 x h
 | .scope x, h => match h with
  | .pl g => (obl (.scope x) g).map .pl
  | .no => []
  | h => zx1 x h
 | .loop x, h => match h with
  | .pl g => (obl (.loop x) g).map .pl
  | .over d => [.den (.loop x) d]
  | _ => []
 | .rangeFunc q ps x y, h => match h with
  | .pl g => (obl (.rangeFunc q ps x y) g).map .pl
  | .over d => [.den (.rangeFunc q ps x y) d]
  | _ => []
 | .region id ops draw, h => match h with
  | .pl g => (obl (.region id ops draw) g).map .pl
  | _ => []
 | _, _ => []
def zxh (P : Program) {A : List Pat} (dec : Nat -> List (LT (zc A)) -> Option Bool) : List (OblY (LT (zc A))) -> Prop
 | [] => True
 | o :: l => o.OK P dec /\ zxh P dec l
theorem y7r {P : Program} {A : List Pat} {dec : Nat -> List (LT (zc A)) -> Option Bool} : ∀ {l : List (OblY (LT (zc A)))}, zxh P dec l ↔ ∀ o, o ∈ l -> o.OK P dec
 | [] => by simp [zxh]
 | o :: l => by simp [zxh, y7r (l := l)]
theorem z4a (P : Program) (A : List Pat) (dec : Nat -> List (LT (zc A)) -> Option Bool) : ∀ x : Code, z1v P A dec x .no
 | .seq a b => ⟨z4a P A dec a, z4a P A dec b⟩
 | .cond _ t e => ⟨z4a P A dec t, z4a P A dec e⟩
 | .block _ x => z4a P A dec x
 | .scope x => z4a P A dec x
 | .loop _ => trivial
 | .region _ _ _ | .skip | .label _ | .ret | .exit _ | .rangeFunc _ _ _ _ | .goto _ | .refuse _ => trivial
theorem ysu {A : List Pat} {dec : Nat -> List (LT (zc A)) -> Option Bool} : ∀ (x : Code) (h : HY (LT (zc A))), (∀ o, o ∈ zx1 x h -> o.OK P dec) -> z1v P A dec x h := by
 have pl : ∀ (x : Code) (g : HT), (∀ o, o ∈ (obl x g).map (OblY.pl (E := LT (zc A))) -> o.OK P dec) -> HOK P x g := fun x g ho => ylz x g fun o h => ho (.pl o) (List.mem_map_of_mem h)
 intro x
 induction x with
 | seq a b iha ihb =>
  intro h ho;cases h with
  | pl g => exact pl _ _ ho
  | no => exact ⟨z4a P A dec a, z4a P A dec b⟩
  | two ha hb => exact ⟨iha _ fun o h => ho o (kN _ h), ihb _ fun o h => ho o (kL _ h)⟩
  | reg _ => exact ⟨z4a P A dec a, z4a P A dec b⟩
  | over d => exact ho _ (kG.2 rfl)
  | join X ha hb => exact ⟨ho (.xs X) (List.mem_cons_self ..), iha _ fun o h => ho o (List.mem_cons_of_mem _ (kN _ h)), ihb _ fun o h => ho o (List.mem_cons_of_mem _ (kL _ h))⟩
 | cond x t e iht ihe =>
  intro h ho;cases h with
  | pl g => exact pl _ _ ho
  | no => exact ⟨z4a P A dec t, z4a P A dec e⟩
  | _ => exact ⟨iht _ fun o h => ho o (kN _ h), ihe _ fun o h => ho o (kL _ h)⟩
 | block id x ih =>
  intro h ho;cases h with
  | pl g => exact pl _ _ ho
  | no => exact z4a P A dec x
  | _ => exact ih _ ho
 | scope x ih =>
  intro h ho;cases h with
  | pl g => exact pl _ _ ho
  | no => exact z4a P A dec x
  | _ => exact ih _ ho
 | loop x ih =>
  intro h ho;cases h with
  | pl g => exact pl _ _ ho
  | over d => exact ho _ (kG.2 rfl)
  | _ => trivial
 | rangeFunc q ps x y _ _ =>
  intro h ho;cases h with
  | pl g => exact pl _ _ ho
  | over d => exact ho _ (kG.2 rfl)
  | _ => trivial
 | region id ops draw =>
  intro h ho;cases h with
  | pl g => exact pl _ _ ho
  | _ => trivial
 | _ => intro h _; trivial
theorem yly {A : List Pat} {dec : Nat -> List (LT (zc A)) -> Option Bool} {h : HY (LT (zc A))} (l : List (OblY (LT (zc A)))) (hl : zx1 x h = l) (ho : zxh P dec l) : z1v P A dec x h := ysu x h (by rw [hl]; exact y7r.1 ho)
def ze6 (C : List Pat) (x : LT (zc C)) : List TV := (zj2 (fun _ => 0) C (yR (zc C) x)).1
def yns (fn : Func) (l : Nat) (caps : List TV) : TS := ⟨kJ (TV.yl l :: caps) + (fn.ntmps - kJ (TV.yl l :: caps)), zc7 (.yl l :: caps) 0, [], 0⟩
noncomputable def fnY (P : Program) (V : Env) (fn : Func) (A C : List Pat) (dec : Nat -> List (LT (zc A)) -> Option Bool) (g : HY (LT (zc A))) (l : Nat) (x : LT (zc C)) : Option (List (LT (zc A))) :=
 match fn.body with
 | some c => zn P V A dec c g [] (yns fn l (ze6 C x)) fun e tr σ => match e with
  | .normal | .ret => some tr
  | _ => none
 | none => none
def onY (l : Nat) (dec : List E -> Option Bool) : Nat -> List E -> Option Bool := fun l' tr => if l' = l then dec tr else none
structure SeqOK (P : Program) (f : FuncId) (A C : List Pat) (fn : (List (LT (zc A)) -> Option Bool) -> LT (zc C) -> Option (List (LT (zc A)))) : Prop where
 can : z4i P f = true
 wf : ∀ dec (x : LT (zc C)) (tr : List (LT (zc A))), fn dec x = some tr -> TV.wfs (ze6 C x) -> z6r A tr
 calls : ∀ (h : Host P (LT (zc A))) (x : LT (zc C)) (tr : List (LT (zc A))), h.emb = z7t A -> fn h.dec x = some tr -> TV.wfs (ze6 C x) -> ∀ w cb Hb ci (vs : Array Value), Two h.K0 h.X w cb Hb ci [] -> ci.pn = 0 -> h.J [] w cb Hb -> h.n0 <= w.heap.size -> vs.size = (ze6 C x).length ->
  VRs w ci ((ze6 C x).map TV.pv) (fun i => vs[i]?) -> Calls P f (#[.func (.yield h.l) #[] #[]] ++ vs) w fun e w' => ∃ v, e = .returned v /\ ∃ cb' Hb' ci' Hi', Two h.K0 h.X w' cb' Hb' ci' Hi' /\ h.J tr w' cb' Hb'
theorem ym0 {P : Program} {E : Type} {h : Host P E} {func : Func} {tmps : Array Value} {tr : List E} {cb ci : Cx} {Hb Hi : List AObj} (hres : func.results = #[]) : ∀ {l : List Nat} {w : World}, l.Nodup -> (∀ D, D ∈ l -> h.n0 <= D /\ gb <= D /\ w.heap[D]? = some (.deferred (some [])) /\ some D ∉ ci.m /\ some D ∉ cb.m /\ ¬ h.X D) -> h.n0 <= w.heap.size ->
  Two h.K0 h.X w cb Hb ci Hi -> h.J tr w cb Hb -> LeavesInM (Wd none) 0 P func tmps (fun e w' => ∃ v, e = .returned v /\ ∃ cb' Hb' ci' Hi', Two h.K0 h.X w' cb' Hb' ci' Hi' /\ h.J tr w' cb' Hb') (l.map zdo) .returning w
 | [], w, _, _, _, two, hJ => ⟨.tuple #[], by simp [results, hres, kU, kV, Result.andThen], _, rfl, cb, Hb, ci, Hi, two, hJ⟩
 | D :: l, w, hn, hl, h0, two, hJ => by
  obtain ⟨g1, gg, g2, g3, g4, g5⟩ := hl D (by simp)
  obtain ⟨s1, k1⟩ := noncell (o := .deferred (some [])) (.deferred none) two.b (zhd g2) g4 gg;obtain ⟨_, k2⟩ := noncell (o := .deferred (some [])) (.deferred none) two.i (zhd g2) g3 gg;have two' : Two h.K0 h.X (w.putObj D (.deferred none)) cb Hb ci Hi := ⟨k1, k2, two.bok, two.iok, two.mono, two.apart, two.xb, two.xi, fun k hk => by simpa using two.xlt k hk, two.xgb⟩
  have hJ' : h.J tr (w.putObj D (.deferred none)) cb Hb := by
   refine h.stay tr w cb Hb _ cb.ok hJ h0 ⟨rfl, rfl, rfl, by simp, fun k hk hm => World.putObj_heap_other fun e => hm ⟨h.new k (by rw [e]; exact g1), by rw [e]; exact g4, by rw [e]; exact g5⟩⟩ (fun k vs e fr hk => ⟨vs, fr, (World.putObj_heap_other fun e => ?_).trans hk, rfl⟩) s1 k1
   rw [e, g2] at hk; cases hk
  refine ⟨by simp, .inl ⟨D, _, rfl, run_takeDeferred g2, ym0 hres (List.nodup_cons.1 hn).2 (fun E hE => ?_) (by simpa using h0) two' hJ'⟩⟩
  obtain ⟨k1, kg, k2, k3⟩ := hl E (by simp [hE])
  exact ⟨k1, kg, (World.putObj_heap_other (fun e : E = D => (List.nodup_cons.1 hn).1 (by rw [<- e]; exact hE))).trans k2, k3⟩
theorem yxh (hV : EnvsOK P V) {f : FuncId} {func : Func} {A C : List Pat} {g : (Nat -> List (LT (zc A)) -> Option Bool) -> HY (LT (zc A))} {F : (Nat -> List (LT (zc A)) -> Option Bool) -> Nat -> LT (zc C) -> Option (List (LT (zc A)))} {G : (List (LT (zc A)) -> Option Bool) -> LT (zc C) -> Option (List (LT (zc A)))}
  (hfun : P.funcs[f]? = some func) (hres : func.results = #[]) (hh : ∀ dec, z1v P A dec (zw func) (g dec)) (hc : z4i P f = true) (hF : ∀ dec l x, fnY P V func A C dec (g dec) l x = F dec l x) (hG : ∀ dec l x tr, G dec x = some tr -> F (onY l dec) l x = some tr) : SeqOK P f A C G := by
 refine ⟨hc, fun dec1 x tr hfn hwx => ?_, fun h x tr hemb hfn hwx w cb Hb ci vs two hpn hJ h0 hsz hv => ?_⟩
 ·have hev := hF (onY 0 dec1) 0 x;rw [hG dec1 0 x tr hfn] at hev;unfold fnY at hev;split at hev
  ·rename_i c hb;have hok : z1v P A (onY 0 dec1) c (g (onY 0 dec1)) := by have := hh (onY 0 dec1); unfold zw at this; rw [hb] at this; exact this
   obtain ⟨e, tr', σ', k1, k2, k3⟩ := yid hV c _ hok (fun e he => by cases he) ⟨fun z hz => by
    rcases kQ.1 (ziw hz) with e | hm
    ·rw [e]; simp only [TV.wf]
    ·exact xI.1 hwx _ hm, fun o ho => by cases ho⟩ hev
   cases e <;> first | (cases k3; done) | (cases k3; exact k1)
  ·cases hev
 obtain ⟨dec, hdec⟩ : ∃ dec, dec = onY h.l h.dec := ⟨_, rfl⟩;have hd : DecOK h dec := ⟨hemb, fun l tr b e => by
  rw [hdec] at e;unfold onY at e;split at e
  ·rename_i e1; exact ⟨e1, e⟩
  ·cases e⟩
 have hev := hF dec h.l x;rw [hdec, hG _ _ _ _ hfn, <- hdec] at hev;unfold fnY at hev;split at hev
 ·rename_i c hb;have hok : z1v P A dec c (g dec) := by have := hh dec; unfold zw at this; rw [hb] at this; exact this
  have ht := yb2 (ro := none) hV hd c (g dec) hok hev;have hm : ci.m = [] := kE two.i.len;refine (callsIn_wide (n := 0)).1 (callsIn_of_wp_marks (F := Wd none) hfun hb trivial (ht ci [] _ w _ ⟨hpn, two.i, ?_⟩ ⟨fun z hz => ?_, fun o ho => by cases ho⟩ ⟨⟨cb, Hb, two, hJ, (fun D hD => by cases hD), (fun l e => by cases e)⟩, fun k hk => ?_, h0, List.nodup_nil, fun D hD => (by cases hD), fun l e => (by cases e)⟩ rfl ?_))
  ·refine ⟨by simp [TS.flat, yns, hsz]; omega, fun t p hl hlt => ?_⟩
   simp only [TS.flat, yns, zol] at hl;obtain ⟨_, h2⟩ := zpb _ 0 t p hl;simp only [Nat.sub_zero] at h2;have hall : VRs w ci ((TV.yl h.l :: ze6 C x).map TV.pv) (fun i => (#[Value.func (.yield h.l) #[] #[]] ++ vs)[i]?) := by
    simp only [kT, VRs];refine ⟨⟨.func (.yield h.l) #[] #[], ?_, ?_⟩, ?_⟩
    ·rw [Array.getElem?_append_left (by simp)]; rfl
    ·simp only [TV.pv, VR]; exact ⟨trivial, rfl⟩
    ·refine yI fun i p hp => ?_
     obtain ⟨v, e1, e2⟩ := zQ hv hp;exact ⟨v, by simpa [Array.getElem?_append, Nat.add_comm] using e1, e2⟩
   obtain ⟨v, h3, h4⟩ := zQ hall h2;have hlt' : t < (#[Value.func (.yield h.l) #[] #[]] ++ vs).size := by
    have := (List.getElem?_eq_some_iff.1 h2).1;simp [hsz] at this ⊢; omega
   exact ⟨v, by rw [Array.getElem?_append_left hlt']; exact h3, h4⟩
  ·have := ziw hz;rcases kQ.1 this with e | hm
   ·rw [e]; simp only [TV.wf]
   ·exact xI.1 hwx _ hm
  ·unfold Cx.own at hk; rw [hm] at hk; cases hk
  ·intro e c' ds' a' w' σ' tr' hQ hw' hr' hi' hd';obtain ⟨⟨cb', Hb', two', hJ', hdc, _⟩, hn, h0', nd, hd2, _⟩ := hi';have fin : LeavesInM (Wd none) 0 P func a'.tmps (fun e w' => ∃ v, e = .returned v /\ ∃ cb' Hb' ci' Hi', Two h.K0 h.X w' cb' Hb' ci' Hi' /\ h.J tr' w' cb' Hb') a'.defers .returning w' := by
    rw [hd'];refine ym0 hres nd (fun D hD => ?_) h0' two' hJ'
    obtain ⟨k1, k2, k3, k4⟩ := hd2 D hD;exact ⟨k1, kC h.gbn k1, k2, k3, hdc D hD, k4⟩
   cases e with
   | normal => cases hQ; exact fin
   | ret => cases hQ; exact fin
   | exit id => cases hQ
   | goto l => cases hQ
   | panic ch => cases hQ
   | outgrown => cases hQ
 ·cases hev
def ywq (σ : TS) (t : Nat) (v : TV) : TS := { σ with slots := (t, v) :: σ.slots }
def XE.yl (t : Nat) (S : XE) : XE where
 T := Nat × S.T
 fit := S.fit
 close := fun σ k => match σ.get t with
  | .yl l => S.close σ fun s => k (l, s)
  | _ => none
 st := fun x => ywq (S.st x.2) t (.yl x.1)
theorem XE.yl_ok (t : Nat) {S : XE} (h : S.OK) : (XE.yl t S).OK := by
 intro R σ k r hw hc;simp only [XE.yl] at hc ⊢;split at hc
 ·rename_i l hl;obtain ⟨s, h1, h2⟩ := h R σ _ r hw hc;refine ⟨(l, s), h1, ⟨fun z hz => ?_, h2.1.H⟩, fun w c a hr => ?_⟩
  ·rcases kQ.1 hz with e | hz
   ·rw [e]; simp only [TV.wf]
   ·exact h2.1.slots z hz
  ·obtain ⟨c2, hr2, hx⟩ := h2.2 w c a hr;refine ⟨c2, ⟨hr2.1, hr2.2.1, hr2.2.2.1, fun t' p hlk hlt => ?_⟩, hx⟩
   simp only [ywq, TS.flat, kT, Ab.look] at hlk hlt;cases hb : kI t t' with
   | false => rw [hb] at hlk; exact hr2.2.2.2 t' p hlk hlt
   | true =>
    rw [hb] at hlk;simp only [cond_true, Option.some.injEq] at hlk;have et := Nat.eq_of_beq_eq_true hb;subst et; subst hlk;have hv := hr.2.2.eval (.tmp t);simp only [AS.eval, zcn, hl, TV.pv, VR] at hv;have hsz : t < a.tmps.size := by
     have := hr2.2.2.1;simp only [TS.flat] at this;rw [this]; exact hlt
    refine ⟨a.tmps[t], by simp [hsz], ?_⟩
    simp only [TV.pv, VR];simpa [Act.eval, Array.getD_eq_getD_getElem?, hsz] using hv
 ·cases hc
mutual
def z31 (q : Nat) : PV -> Prop
 | .val _ => True
 | .ptr b _ => b < q
 | .fz cs => z1m q cs
 | .sl b _ _ _ => b < q
 | .tr _ cs t => t.isTok = false /\ z1m q cs
 | .fn _ caps => z1m q caps
 | .agg cs => z1m q cs
 | .tup cs => z1m q cs
 | .ifc _ p => z31 q p
 | .one => True
 | .dead => True
def z1m (q : Nat) : List PV -> Prop
 | [] => True
 | p :: ps => z31 q p /\ z1m q ps
end
mutual
theorem z0w (q : Nat) : ∀ p : PV, Ab.Pure p -> z31 q p
 | .val _, _ => by simp only [z31]
 | .ptr _ _, h => by simp only [Ab.Pure] at h
 | .fz cs, h => by simp only [Ab.Pure] at h; simp only [z31]; exact xP q cs h
 | .sl _ _ _ _, h => by simp only [Ab.Pure] at h
 | .tr _ cs t, h => by simp only [Ab.Pure] at h; simp only [z31]; exact ⟨h.1, xP q cs h.2⟩
 | .fn _ caps, h => by simp only [Ab.Pure] at h; simp only [z31]; exact xP q caps h
 | .agg cs, h => by simp only [Ab.Pure] at h; simp only [z31]; exact xP q cs h
 | .tup cs, h => by simp only [Ab.Pure] at h; simp only [z31]; exact xP q cs h
 | .ifc _ p, h => by simp only [Ab.Pure] at h; simp only [z31]; exact z0w q p h
 | .one, _ => by simp only [z31]
 | .dead, _ => by simp only [z31]
theorem xP (q : Nat) : ∀ ps : List PV, yX ps -> z1m q ps
 | [], _ => by simp only [z1m]
 | p :: ps, h => by simp only [yX] at h; simp only [z1m]; exact ⟨z0w q p h.1, xP q ps h.2⟩
end
theorem y4u {q : Nat} : ∀ {a b : List PV}, z1m q a -> z1m q b -> z1m q (a ++ b)
 | [], b, _, h => h
 | p :: a, b, h, g => by simp only [z1m, kR] at h ⊢; exact ⟨h.1, y4u h.2 g⟩
mutual
def z85 (q : Nat) : TV -> Bool
 | .ptr b _ _ => Nat.blt b q
 | .os b _ _ _ _ _ => Nat.blt b q
 | .agg ts => zgu q ts
 | .tup ts => zgu q ts
 | .fn _ ts => zgu q ts
 | t => t.pureB
def zgu (q : Nat) : List TV -> Bool
 | [] => true
 | t :: ts => z85 q t && zgu q ts
end
mutual
theorem yiy (q : Nat) : ∀ t : TV, t.wf -> z85 q t = true -> z31 q t.pv /\ z1m q t.cells
 | .ptr b r p, hw, h => by
  simp only [z85] at h;have := Nat.blt_eq.mp h;simp only [TV.cells, TV.pv, cellsOf, z31, z1m];exact ⟨this, this, trivial⟩
 | .os b r p u lo n, hw, h => by
  simp only [z85] at h;have := Nat.blt_eq.mp h;simp only [TV.cells, TV.pv, cellsOf, z31, z1m];exact ⟨this, this, trivial⟩
 | .agg ts, hw, h => by
  simp only [z85] at h;simp only [TV.wf] at hw;have := zvh q ts hw.2.1 h;simp only [TV.cells, TV.pv, cellsOf, z31];exact ⟨this.2, this.2⟩
 | .tup ts, hw, h => by
  simp only [z85] at h;simp only [TV.wf] at hw;have := zvh q ts hw h;simp only [TV.cells, TV.pv, cellsOf, z31, z1m];exact ⟨this.1, this.1, trivial⟩
 | .fn f ts, hw, h => by
  simp only [z85] at h;simp only [TV.wf] at hw;have := zvh q ts hw h;simp only [TV.cells, TV.pv, cellsOf, z31, z1m];exact ⟨this.1, this.1, trivial⟩
 | .v u x, hw, h => by have := qr _ hw (by simpa only [z85] using h); exact ⟨z0w q _ this.1, xP q _ this.2⟩
 | .rf t, hw, h => by have := qr _ hw (by simpa only [z85] using h); exact ⟨z0w q _ this.1, xP q _ this.2⟩
 | .nil, hw, h => by have := qr _ hw (by simpa only [z85] using h); exact ⟨z0w q _ this.1, xP q _ this.2⟩
 | .fsl u l, hw, h => by have := qr _ hw (by simpa only [z85] using h); exact ⟨z0w q _ this.1, xP q _ this.2⟩
 | .osf u l lo n, hw, h => by have := qr _ hw (by simpa only [z85] using h); exact ⟨z0w q _ this.1, xP q _ this.2⟩
 | .one, hw, h => by have := qr _ hw (by simpa only [z85] using h); exact ⟨z0w q _ this.1, xP q _ this.2⟩
 | .nilp, hw, h => by have := qr _ hw (by simpa only [z85] using h); exact ⟨z0w q _ this.1, xP q _ this.2⟩
 | .nilf, hw, h => by have := qr _ hw (by simpa only [z85] using h); exact ⟨z0w q _ this.1, xP q _ this.2⟩
 | .yl l, hw, h => by have := qr _ hw (by simpa only [z85] using h); exact ⟨z0w q _ this.1, xP q _ this.2⟩
 | .nili, hw, h => by have := qr _ hw (by simpa only [z85] using h); exact ⟨z0w q _ this.1, xP q _ this.2⟩
 | .nilm, hw, h => by have := qr _ hw (by simpa only [z85] using h); exact ⟨z0w q _ this.1, xP q _ this.2⟩
 | .ifc t x, hw, h => by have := qr _ hw (by simpa only [z85] using h); exact ⟨z0w q _ this.1, xP q _ this.2⟩
 | .dead, hw, h => by have := qr _ hw (by simpa only [z85] using h); exact ⟨z0w q _ this.1, xP q _ this.2⟩
theorem zvh (q : Nat) : ∀ ts : List TV, TV.wfs ts -> zgu q ts = true -> z1m q (TV.pvs ts) /\ z1m q (TV.cellsL ts)
 | [], _, _ => by simp only [TV.pvs, TV.cellsL, z1m, and_self]
 | t :: ts, hw, h => by
  simp only [TV.wfs] at hw;simp only [zgu, Bool.and_eq_true] at h;have h1 := yiy q t hw.1 h.1;have h2 := zvh q ts hw.2 h.2;simp only [TV.pvs, TV.cellsL, z1m];exact ⟨⟨h1.1, h2.1⟩, y4u h1.2 h2.2⟩
end
structure PSees (q : Nat) (w : World) (c : Cx) (w' : World) (c' : Cx) : Prop where
 m : ∀ b k : Nat, b < q -> c.m[b]? = some (some k) -> c'.m[b]? = some (some k)
 foot : ∀ a n, Foot w c a n -> Foot w' c' a n
 cell : ∀ (a : Addr) n i v, Foot w c a n -> i < n -> w.cell? ⟨a.block, a.off + i, none⟩ = some v -> w'.cell? ⟨a.block, a.off + i, none⟩ = some v
 room : ∀ (b k : Nat) vs e fr, b < q -> c.m[b]? = some (some k) -> w.heap[k]? = some (Obj.cells vs e fr) -> ∃ (vs' : Array Value) (fr' : Nat × Nat), w'.heap[k]? = some (Obj.cells vs' e fr') /\ vs'.size = vs.size
mutual
theorem VR.psees {q : Nat} {w w' : World} {c c' : Cx} (x : PSees q w c w' c') : ∀ (p : PV) {v : Value}, z31 q p -> VR w c p v -> VR w' c' p v
 | .val _, _, _, h => by simp only [VR] at h ⊢; exact h
 | .ptr b off, _, hl, h => by
  simp only [VR, z31] at h hl ⊢;obtain ⟨k, h1, h2⟩ := h;exact ⟨k, x.m _ _ hl h1, h2⟩
 | .fz cs, _, hp, h => by
  simp only [VR, z31] at h hp ⊢;obtain ⟨a, h1, h2, hl, h3⟩ := h;exact ⟨a, h1, x.foot _ _ h2, hl, VRs.psees x cs hp (fun i hi v hv => x.cell a _ i v h2 hi hv) h3⟩
 | .sl b off len sz, _, hl, h => by
  simp only [VR, z31] at h hl ⊢;rcases h with h | ⟨k, cap, off', h1, h2, h0, h3, vs, e, fr, h4, h5⟩
  ·exact .inl h
  ·obtain ⟨vs', fr', h6, h7⟩ := x.room b k vs e fr hl h1 h4;exact .inr ⟨k, cap, off', x.m _ _ hl h1, h2, h0, h3, vs', e, fr', h6, by omega⟩
 | .tr len cs t, _, hp, h => by
  simp only [VR, z31] at h hp ⊢;rcases h with h | ⟨a, cap, h1, hc, h2, h4, hl, h3⟩
  ·exact .inl h
  ·refine .inr ⟨a, cap, h1, hc, x.foot _ _ h2, ?_, hl, VRs.psees x cs hp.2 (fun i hi v hv => x.cell a _ i v h2 hi hv) h3⟩
   cases t with
   | no => trivial
   | full => exact h4
   | tok i sz => simp [Tail.isTok] at hp
 | .fn f caps, _, hp, h => by
  simp only [VR, z31] at h hp ⊢;obtain ⟨cv, h1, h2, h3⟩ := h;exact ⟨cv, h1, h2, VRs.psees x caps hp (fun _ _ _ e => e) h3⟩
 | .agg cs, _, hp, h => by
  simp only [VR, z31] at h hp ⊢;obtain ⟨cv, h1, h2, hl, h3⟩ := h;exact ⟨cv, h1, h2, hl, VRs.psees x cs hp (fun _ _ _ e => e) h3⟩
 | .tup cs, _, hp, h => by
  simp only [VR, z31] at h hp ⊢;obtain ⟨cv, h1, h2, h3⟩ := h;exact ⟨cv, h1, h2, VRs.psees x cs hp (fun _ _ _ e => e) h3⟩
 | .ifc t p, _, hp, h => by
  simp only [VR, z31] at h hp ⊢;obtain ⟨v, h1, h2⟩ := h;exact ⟨v, h1, VR.psees x p hp h2⟩
 | .one, _, _, h => by simp only [VR] at h ⊢; exact h
 | .dead, _, _, _ => by simp only [VR]
theorem VRs.psees {q : Nat} {w w' : World} {c c' : Cx} (x : PSees q w c w' c') : ∀ (ps : List PV) {f g : Nat -> Option Value}, z1m q ps ->
  (∀ i, i < ps.length -> ∀ v, f i = some v -> g i = some v) -> VRs w c ps f -> VRs w' c' ps g
 | [], _, _, _, _, _ => by simp only [VRs]
 | p :: ps, f, g, hp, hfg, h => by
  simp only [VRs, z1m] at h hp ⊢;obtain ⟨⟨v, h1, h2⟩, h3⟩ := h;exact ⟨⟨v, hfg 0 (by simp) v h1, VR.psees x p hp.1 h2⟩, VRs.psees x ps hp.2 (fun i hi u hu => hfg (i + 1) (by simp; omega) u hu) h3⟩
end
theorem yqu {q : Nat} {w w' : World} {c c' c2 : Cx} (hT : c.T = []) (hT2 : c2.T = []) (x : ExtP q w c w' c') (hm : c2.m = c'.m) (hok : ∀ k e, k < w.heap.size -> some k ∉ c.m -> c.ok k e -> c2.ok k e) : PSees q w c w' c2 where
 m := fun b k hb h => by rw [hm]; exact x.pin b k hb h
 foot := fun a n h => by
  rcases h with h | ⟨h1, h2, h3, h4, h5⟩
  ·exact .inl h
  ·exact .inr ⟨h1, kF h2 x.size, by rw [hm]; exact fun h' => (x.new _ h').elim h3 fun h'' => absurd h2 (kD.2 h''), fun i k h => by rw [hT2] at h; simp at h, hok _ _ h2 h3 h5⟩
 cell := fun a n i v h hi hv => by
  rcases h with h | ⟨h1, h2, h3, h4, h5⟩
  ·omega
  ·have : w'.cell? ⟨a.block, a.off + i, none⟩ = w.cell? ⟨a.block, a.off + i, none⟩ := jm (x.blocks _ h2 h3);rw [this]; exact hv
 room := fun b k vs e fr _ _ hh => x.room k vs e fr hh
theorem ylj {q n : Nat} {w w' : World} {c c2 : Cx} {sl : List (Nat × TV)} {H H' : List AObj} {tm : Array Value} (x : PSees q w c w' c2) (hwf : ∀ z, z ∈ sl -> z.2.wf) (hlow : zgu q (sl.map (·.2)) = true)
  (h : SlotsR w c ⟨n, sl.map (fun x => (x.1, x.2.pv)), H, []⟩ tm) : SlotsR w' c2 ⟨n, sl.map (fun x => (x.1, x.2.pv)), H', []⟩ tm := by
 refine ⟨h.1, fun t p hl ht => ?_⟩
 obtain ⟨v, h1, h2⟩ := h.2 t p hl ht;refine ⟨v, h1, VR.psees x p ?_ h2⟩;simp only at hl;rw [z84] at hl;cases hlk : xh sl t with
 | none => rw [hlk] at hl; cases hl
 | some u =>
  rw [hlk] at hl;simp only [kS, Option.some.injEq] at hl;subst hl;obtain ⟨z, hz, e⟩ := zic hlk;have hall : ∀ (l : List TV), zgu q l = true -> ∀ t, t ∈ l -> z85 q t = true := by
   intro l
   induction l with
   | nil => intro _ t ht; cases ht
   | cons a l ih =>
    intro hl t ht;simp only [zgu, Bool.and_eq_true] at hl;rcases kQ.1 ht with rfl | ht
    ·exact hl.1
    ·exact ih hl.2 t ht
  have hm : u ∈ sl.map (·.2) := by rw [<- e]; exact List.mem_map_of_mem hz
  rw [<- e];exact (yiy q _ (hwf z hz) (by rw [e]; exact hall _ hlow u hm)).1
def z6q {T E Y : Type} (B : T -> E -> Option (T ⊕ Y)) : T -> List E -> Option (T ⊕ Y)
 | h, [] => some (.inl h)
 | h, x :: tr => (B h x).bind fun s => match s with
  | .inl h' => z6q B h' tr
  | .inr y => match tr with
   | [] => some (.inr y)
   | _ :: _ => none
def zwi {T E Y : Type} (B : T -> E -> Option (T ⊕ Y)) (h : T) (tr : List E) : Option Bool := (z6q B h tr).map Sum.isLeft
theorem yfp {T E Y : Type} {B : T -> E -> Option (T ⊕ Y)} : ∀ {tr : List E} {h : T} {x : E} {s : T ⊕ Y}, z6q B h (tr ++ [x]) = some s -> ∃ h', z6q B h tr = some (.inl h') /\ B h' x = some s
 | [], h, x, s, hh => by
  simp only [kO, z6q] at hh ⊢;rw [kB] at hh;obtain ⟨y, h1, h2⟩ := hh;refine ⟨h, rfl, ?_⟩;rw [h1];cases y <;> simpa using h2
 | z :: tr, h, x, s, hh => by
  simp only [kR, z6q] at hh ⊢;rw [kB] at hh;obtain ⟨y, h1, h2⟩ := hh;rw [h1];simp only [kK];cases y with
  | inl h' => exact yfp h2
  | inr y => cases tr <;> simp at h2
def zmv : List Tmp -> List TV -> TS -> TS
 | p :: ps, v :: vs, σ => zmv ps vs (σ.put (some p) v)
 | _, _, σ => σ
theorem ymd : ∀ (ps : List Tmp) (vs : List TV) (σ : TS), (zmv ps vs σ).p = σ.p /\ (zmv ps vs σ).H = σ.H
 | [], _, _ => ⟨rfl, rfl⟩
 | _ :: _, [], _ => ⟨rfl, rfl⟩
 | p :: ps, v :: vs, σ => ymd ps vs _
theorem y9w : ∀ (ps : List Tmp) (vs : List TV) (σ : TS), σ.wf -> TV.wfs vs -> (zmv ps vs σ).wf
 | [], _, _, h, _ => h
 | _ :: _, [], _, h, _ => h
 | p :: ps, v :: vs, σ, h, hv => by
  simp only [TV.wfs] at hv;exact y9w ps vs _ (jP h _ hv.1) hv.2
theorem yjp {w : World} {c : Cx} : ∀ (ps : List Tmp) (ts : List TV) (vs : List Value) {σ : TS} {tm : Array Value}, RelT w c σ { tmps := tm, defers := [] } -> VRs w c (ts.map TV.pv) (fun i => vs[i]?) -> vs.length = ts.length ->
  RelT w c (zmv ps ts σ) { tmps := (ps.zip vs).foldl (fun t x => t.setIfInBounds x.1 x.2) tm, defers := [] }
 | [], ts, vs, σ, tm, hr, _, _ => by simpa only [zmv, List.zip_nil_left, List.foldl_nil] using hr
 | p :: ps, [], [], σ, tm, hr, _, _ => by simpa only [zmv, List.zip_nil_right, List.foldl_nil] using hr
 | p :: ps, [], v :: vs, σ, tm, hr, _, hl => by simp at hl
 | p :: ps, t :: ts, [], σ, tm, hr, _, hl => by simp at hl
 | p :: ps, t :: ts, v :: vs, σ, tm, hr, hv, hl => by
  simp only [kT, VRs] at hv;obtain ⟨⟨v', h1, h2⟩, h3⟩ := hv;simp only [List.getElem?_cons_zero, Option.some.injEq] at h1;subst h1;simp only [zmv, List.zip_cons_cons, List.foldl_cons];refine yjp ps ts vs ?_ (by simpa using h3) (by simpa using hl)
  exact zem (some p) hr h2
noncomputable def zz4 (P : Program) (V : Env) (A : List Pat) (ps : Array Tmp) (assign body : Code) (g1 g2 : HT) (Sh : Shp) (X : XS) (n : Nat) (sl : List (Nat × TV)) (h : LT Sh.codes) (x : LT (zc A)) : Option (LT Sh.codes ⊕ X.T) :=
 zO P V assign g1 (zmv ps.toList (z7t A x) ⟨n, sl, (Sh.st h).H, Sh.pn⟩) fun e σ1 => match e with
  | .normal => zO P V body g2 σ1 fun e σ' => match e with
   | .normal => Sh.close σ' fun h' => some (.inl h')
   | .ret => X.close .ret σ' fun y => some (.inr y)
   | .exit id => X.close (.exit id) σ' fun y => some (.inr y)
   | _ => none
  | _ => none
def zj8 : Exit -> Option Code
 | .ret => some .ret
 | .exit id => some (.exit id)
 | _ => none
def yr4 (σ0 : TS) (Sh : Shp) (X : XS) : LT Sh.codes ⊕ X.T -> Exit -> TS -> Prop
 | .inl h, e, σ' => e = .normal /\ σ' = ⟨σ0.n, σ0.slots, (Sh.st h).H, σ0.p⟩
 | .inr y, e, σ' => e = (X.at' y).1 /\ σ' = ⟨σ0.n, σ0.slots, (X.at' y).2.H, σ0.p⟩
def zcq {Sh : Shp} {X : XS} : LT Sh.codes ⊕ X.T -> List TOb
 | .inl h => (Sh.st h).H
 | .inr y => (X.at' y).2.H
def vw {Sh : Shp} {X : XS} : LT Sh.codes ⊕ X.T -> Option Code
 | .inl _ => none
 | .inr y => zj8 (X.at' y).1
theorem ypy {ro : Option Nat} (hro : RecOK ro w c) (fn : FuncId) (tmps : Array Value) (ps : Array Tmp) (assign body : Code) :
  ∃ (l : Nat) (ms : List Nat) (dfr : Nat) (w1 : World), (Instr.enterLoop fn tmps ps assign body ro).run P w = .ok (l, ms.map zdo) w1 /\ w1.heap[l]? = some (.loop { state := .ready, pending := none, fn, tmps, params := ps, assign, body, defers := dfr }) /\ ms.Nodup /\
   (∀ D, D ∈ ms -> w.heap.size <= D /\ D ≠ l /\ w1.heap[D]? = some (.deferred (some []))) /\ w.heap.size <= l /\ w.heap.size <= w1.heap.size /\ w1.os = w.os /\ w1.tape = w.tape /\ w1.output = w.output /\ ∀ k, k < w.heap.size -> w1.heap[k]? = w.heap[k]? := by
 cases ro with
 | none =>
  refine ⟨w.heap.size + 1, [w.heap.size], w.heap.size, _, run_enterLoop_outer _ _ _ _ _, ?_, by simp, fun D hD => ?_, by omega, by simp; omega, rfl, rfl, rfl, fun k hk => ?_⟩
  ·have := World.alloc_heap_new (w.alloc (.deferred (some []))) (.loop { state := .ready, pending := none, fn, tmps, params := ps, assign, body, defers := w.heap.size }); rwa [World.size_alloc] at this
  ·rw [kG.1 hD];exact ⟨Nat.le_refl _, by omega, (Go.RowKit.Below.heap_alloc _ _ _ (by simp)).trans (World.alloc_heap_new w _)⟩
  ·exact (Go.RowKit.Below.heap_alloc _ _ _ (by simp; omega)).trans (Go.RowKit.Below.heap_alloc _ _ _ hk)
 | some l0 =>
  obtain ⟨h1, r, h2⟩ := hro;refine ⟨w.heap.size, [], r.defers, w.alloc (.loop { state := .ready, pending := none, fn, tmps, params := ps, assign, body, defers := r.defers }), ?_, World.alloc_heap_new _ _, by simp, fun D hD => (by cases hD), Nat.le_refl _, by simp, rfl, rfl, rfl, fun k hk => Go.RowKit.Below.heap_alloc _ _ _ hk⟩
  unfold Instr.enterLoop;simp only [kU, run_getLoop h2, Result.andThen, kV, run_newObj_alloc, List.map_nil]
theorem zt2 {D : Nat} {r : Loop} (h : w.heap[D]? = some (.loop r)) (off : Nat) : w.cell? ⟨D, off, none⟩ = none := by
 simp [World.cell?, h]
theorem ytq {a : Act} {l : Nat} {r : Loop} (o' : Obj) (hr : RelT w c σ a) (h : w.heap[l]? = some (.loop r)) (hm : some l ∉ c.m) (hgb : gb <= l) : RelT (w.putObj l o') c σ a := by
 obtain ⟨x, g⟩ := Tm.noncell (o := .loop r) o' hr.2.1 (zt2 h) hm hgb;exact ⟨hr.1, g, hr.2.2.1, fun t p hl ht => by
  obtain ⟨v, h1, h2⟩ := hr.2.2.2 t p hl ht;exact ⟨v, h1, VR.sees x _ h2⟩⟩
theorem yv9 {H : List AObj} {q : Nat} (g : Ab.Good w c H []) (h : c.pn <= q) : Ab.Good w { c with pn := q } H [] := by
 have hT : c.T = [] := kE g.tl;have x : Sees w c w { c with pn := q } := ⟨fun _ _ h => h, hT, fun a n hf => hf, fun _ _ _ _ _ _ h => h, fun b k vs e fr _ hh => ⟨vs, fr, hh, rfl⟩⟩
 refine ⟨g.len, g.inj, fun b o ho => ?_, g.tl, g.tal, g.tdead, fun i k j h => by rw [show ({ c with pn := q } : Cx).T = c.T from rfl, hT] at h; simp at h, g.tinj, g.okn, g.okm, fun i k j hi => by rw [show ({ c with pn := q } : Cx).T = c.T from rfl, hT] at hi; simp at hi, fun b k hb hk e => g.oko b k (kC h hb) hk e, ⟨g.gl.sz, g.gl.m, g.gl.T, g.gl.var⟩⟩
 have hob := g.obj b o ho;cases o with
 | row cs e =>
  rcases hob with ⟨h1, h2⟩ | ⟨k, vs, fr, h1, h2, hf, h3, hl, h4⟩
  ·exact .inl ⟨h1, h2⟩
  ·exact .inr ⟨k, vs, fr, h1, h2, hf, h3, hl, VRs.sees x cs (fun _ _ _ e => e) h4⟩
 | raw o => exact hob
 | gone => exact hob
theorem ynn {w w' : World} {c c' : Cx} {H H' : List AObj} {q : Nat} (g : Ab.Good w c H []) (h : c.pn <= q) (x : ExtP q w { c with pn := q } w' c') (g' : Ab.Good w' c' H' []) : Ab.Good w' { c' with pn := c.pn } H' [] := by
 have hT : c'.T = [] := kE g'.tl;have y : Sees w' c' w' { c' with pn := c.pn } := ⟨fun _ _ h => h, hT, fun a n hf => hf, fun _ _ _ _ _ _ h => h, fun b k vs e fr _ hh => ⟨vs, fr, hh, rfl⟩⟩
 have ho : ∀ k e, c'.ok k e ↔ c.ok k e := fun k e => by rw [x.ok]
 refine ⟨g'.len, g'.inj, fun b o ho => ?_, g'.tl, g'.tal, g'.tdead, fun i k j h => by rw [show ({ c' with pn := c.pn } : Cx).T = c'.T from rfl, hT] at h; simp at h, g'.tinj, g'.okn, g'.okm, fun i k j hi => by rw [show ({ c' with pn := c.pn } : Cx).T = c'.T from rfl, hT] at hi; simp at hi, fun b k hb hk e => ?_, ⟨g'.gl.sz, g'.gl.m, g'.gl.T, g'.gl.var⟩⟩
 ·have hob := g'.obj b o ho;cases o with
  | row cs e =>
   rcases hob with ⟨h1, h2⟩ | ⟨k, vs, fr, h1, h2, hf, h3, hl, h4⟩
   ·exact .inl ⟨h1, h2⟩
   ·exact .inr ⟨k, vs, fr, h1, h2, hf, h3, hl, VRs.sees y cs (fun _ _ _ e => e) h4⟩
  | raw o => exact hob
  | gone => exact hob
 ·show c'.ok k e;rw [ho];rcases x.new k (List.mem_of_getElem? hk) with hm | hm
  ·obtain ⟨b2, hb2⟩ := List.mem_iff_getElem?.1 hm
   by_cases hlt : b2 < c.pn
   ·have := x.pin b2 k (kF hlt h) hb2;have e2 := g'.inj _ _ _ hk this;have hb' : c.pn <= b := hb;omega
   ·exact g.oko b2 k (Nat.le_of_not_lt hlt) hb2 e
  ·exact g.okn k e hm
theorem yie {p : Nat} {w w' : World} {c c' : Cx} {o : Nat -> Nat -> Prop} (x : ExtP p w c w' c') : ExtP p w { c with ok := o } w' { c' with ok := o } := ⟨x.os, x.tape, x.output, x.size, x.new, x.blocks, rfl, x.pn, x.pin, x.room⟩
structure Lp (A : List Pat) (Sh : Shp) (X : XS) where
 w : World
 c : Cx
 q : Nat
 ms : List Nat
 l : Nat
 fid : FuncId
 tmps : Array Value
 ps : Array Tmp
 assign : Code
 body : Code
 dfr : Nat
 B : LT Sh.codes -> LT (zc A) -> Option (LT Sh.codes ⊕ X.T)
 h0 : LT Sh.codes
 n : Nat
 sl : List (Nat × TV)
def Lp.rec' {A : List Pat} {Sh : Shp} {X : XS} (L : Lp A Sh X) (s : LoopState) (p : Option Code) : Loop := { state := s, pending := p, fn := L.fid, tmps := L.tmps, params := L.ps, assign := L.assign, body := L.body, defers := L.dfr }
def Lp.cq {A : List Pat} {Sh : Shp} {X : XS} (L : Lp A Sh X) : Cx := { L.c with pn := L.q }
def Lp.X {A : List Pat} {Sh : Shp} {X : XS} (L : Lp A Sh X) (k : Nat) : Prop := k = L.l \/ k ∈ L.ms
structure Lp.J {A : List Pat} {Sh : Shp} {X : XS} (L : Lp A Sh X) (s : LT Sh.codes ⊕ X.T) (tr : List (LT (zc A))) (W : World) (cb : Cx) (Hb : List AObj) : Prop where
 run : z6q L.B L.h0 tr = some s
 ext : ExtP L.q L.w L.cq W { cb with ok := L.c.ok }
 ms : ∀ D, D ∈ L.ms -> W.heap[D]? = some (.deferred (some []))
 l : W.heap[L.l]? = some (.loop (L.rec' (if (vw s).isNone then .ready else .done) (vw s)))
 H : Hb = (zcq s).map TOb.flat
 wf : ∀ o, o ∈ zcq s -> o.wf
 lft : s.isLeft = (vw s).isNone
structure Lp.OK {A : List Pat} {Sh : Shp} {X : XS} (P : Program) (V : Env) (g1 g2 : HT) (L : Lp A Sh X) : Prop where
 hV : EnvsOK P V
 ok1 : HOK P L.assign g1
 ok2 : HOK P L.body g2
 hX : X.OK
 T : L.c.T = []
 q : Sh.pn = L.q
 slwf : ∀ z, z ∈ L.sl -> z.2.wf
 low : zgu L.q (L.sl.map (·.2)) = true
 len : ∀ x, (z7t A x).length = L.ps.size
 pu : ∀ x, z3v (z7t A x) = true
 hB : ∀ h x, zz4 P V A L.ps L.assign L.body g1 g2 Sh X L.n L.sl h x = L.B h x
 slots : ∃ H, SlotsR L.w L.c ⟨L.n, L.sl.map (fun x => (x.1, x.2.pv)), H, []⟩ L.tmps
 gbn : gb <= L.w.heap.size
 ms : ∀ D, D ∈ L.ms -> L.w.heap.size <= D /\ D ≠ L.l
 ll : L.w.heap.size <= L.l
 okm : ∀ k e e', L.c.ok k e -> e' <= e -> L.c.ok k e'
theorem Lp.OK.Xge {A : List Pat} {Sh : Shp} {X : XS} {g1 g2 : HT} {L : Lp A Sh X} (h : L.OK P V g1 g2) {k : Nat} (hk : L.X k) : L.w.heap.size <= k := hk.elim (fun e => by rw [e]; exact h.ll) fun hD => (h.ms k hD).1
theorem Lp.stay {A : List Pat} {Sh : Shp} {X : XS} {L : Lp A Sh X} {s : LT Sh.codes ⊕ X.T} {tr : List (LT (zc A))} {W W' : World} {cb : Cx} {Hb : List AObj} {ok' : Nat -> Nat -> Prop} (j : L.J s tr W cb Hb) (hn0 : L.w.heap.size <= W.heap.size)
  (fo : Foreign (fun k => L.w.heap.size <= k /\ ¬ cb.own k /\ ¬ L.X k) W W') (hk : yuj W W') : L.J s tr W' { cb with ok := ok' } Hb := by
 have kX : ∀ k, L.X k -> k < W.heap.size -> W'.heap[k]? = W.heap[k]? := fun k hk hlt => fo.keep k hlt fun h => h.2.2 hk
 have x := j.ext;refine ⟨j.run, ⟨fo.os.trans x.os, fo.tape.trans x.tape, fo.output.trans x.output, kC x.size fo.size, x.new, fun k hk hm => (fo.keep k (kF hk hn0) fun h => absurd hk (kD.2 h.1)).trans (x.blocks k hk hm), x.ok, x.pn, x.pin, fun k vs e fr h => ?_⟩,
  fun D hD => (kX D (.inr hD) (kA.1 (j.ms D hD)).1).trans (j.ms D hD), (kX L.l (.inl rfl) (kA.1 j.l).1).trans j.l, j.H, j.wf, j.lft⟩
 obtain ⟨vs1, fr1, k1, k2⟩ := x.room k vs e fr h;obtain ⟨vs2, fr2, k3, k4⟩ := hk k vs1 e fr1 k1;exact ⟨vs2, fr2, k3, k4.trans k2⟩
theorem Lp.slots {A : List Pat} {Sh : Shp} {X : XS} {P : Program} {V : Env} {g1 g2 : HT} {L : Lp A Sh X} (hL : L.OK P V g1 g2) {W : World} {c' c2 : Cx} {H' : List AObj} (hT2 : c2.T = []) (x : ExtP L.q L.w L.cq W c') (hm : c2.m = c'.m) (hok : ∀ k e, k < L.w.heap.size -> some k ∉ L.c.m -> L.c.ok k e -> c2.ok k e) :
  SlotsR W c2 ⟨L.n, L.sl.map (fun x => (x.1, x.2.pv)), H', []⟩ L.tmps := by
 obtain ⟨H, hs⟩ := hL.slots;refine ylj (H := H) (c := L.cq) (yqu (c' := c') hL.T hT2 x hm hok) hL.slwf hL.low ?_;refine ⟨hs.1, fun t p hl ht => ?_⟩
 obtain ⟨v, k1, k2⟩ := hs.2 t p hl ht;refine ⟨v, k1, ?_⟩;have y : Sees L.w L.c L.w L.cq := ⟨fun _ _ h => h, hL.T, fun a n hf => hf, fun _ _ _ _ _ _ h => h, fun b k vs e fr _ hh => ⟨vs, fr, hh, rfl⟩⟩
 exact VR.sees y _ k2
theorem Lp.fin {A : List Pat} {Sh : Shp} {X : XS} {g1 g2 : HT} {L : Lp A Sh X} (hL : L.OK P V g1 g2) {tr : List (LT (zc A))} {x : LT (zc A)} {s s' : LT Sh.codes ⊕ X.T} {W w' w2 w3 : World} {cb c' c2 ci : Cx} {Hb Hi : List AObj} {σ2 τ : TS} {a2 : Act} {b : Bool}
  (two : Two L.c.ok L.X W cb Hb ci Hi) (j : L.J s tr W cb Hb) (hst' : z6q L.B L.h0 (tr ++ [x]) = some s') (hb : s'.isLeft = b) (hx' : ExtP L.q W cb w' c') (hw2 : w'.putObj L.l (.loop { L.rec' .ready none with state := .busy }) = w2) (hx3 : ExtP L.q w2 c' w3 c2)
  (hl3 : w3.heap[L.l]? = some (.loop { L.rec' .ready none with state := .busy })) (hr3 : RelT w3 c2 σ2 a2) (ep2 : σ2.p = L.q) (hτ : Wk σ2 τ) (hτH : τ.H = zcq s') (hjl : s'.isLeft = (vw s').isNone) :
  ∃ v w4, (Instr.endRound L.l (vw s')).run P w3 = .ok v w4 /\ (Ending.returned v = Ending.returned (.bool b) /\ ∃ cb' Hb', Foreign (fun k => cb.own k \/ L.X k) W w4 /\ Grows W cb.own cb'.own /\ cb'.ok = cb.ok /\ Ab.Good w4 cb' Hb' [] /\ L.J s' (tr ++ [x]) w4 cb' Hb') := by
 obtain ⟨c3, hr4, hx4⟩ := hτ.2 w3 c2 a2 hr3;have hx4' := hx4 w3 c2 (ExtP.refl _ _ _);rw [ep2] at hx4';have hlW : L.l < W.heap.size := (kA.1 j.l).1;have hlm : some L.l ∉ cb.m := two.xb L.l (.inl rfl);have hlm' : some L.l ∉ c'.m := fun h => (hx'.new L.l h).elim hlm fun h' => absurd hlW (kD.2 h')
 have hs2 : w2.heap.size = w'.heap.size := by rw [<- hw2]; simp
 have hk2 : ∀ k, k ≠ L.l -> w2.heap[k]? = w'.heap[k]? := fun k hk => by rw [<- hw2]; exact World.putObj_heap_other hk
 have hl2lt : L.l < w2.heap.size := by rw [hs2]; exact kF hlW hx'.size
 have hlm2 : some L.l ∉ c2.m := fun h => (hx3.new L.l h).elim hlm' fun h' => absurd hl2lt (kD.2 h')
 have hl3lt : L.l < w3.heap.size := (kA.1 hl3).1;have hlm3 : some L.l ∉ c3.m := fun h => (hx4'.new L.l h).elim hlm2 fun h' => absurd hl3lt (kD.2 h')
 have he := run_endRound (P := P) (vw s') hl3;have hgl : gb <= L.l := kC hL.gbn hL.ll;have m' : ∀ k, k < W.heap.size -> some k ∉ cb.m -> some k ∉ c'.m := fun k hk hm h => (hx'.new k h).elim hm fun h' => absurd hk (kD.2 h')
 have kp : ∀ k, k < W.heap.size -> some k ∉ cb.m -> k ≠ L.l -> w3.heap[k]? = W.heap[k]? := fun k hk hm hne => by
  have hk' : k < w2.heap.size := by rw [hs2]; exact kF hk hx'.size
  rw [hx3.blocks k hk' (m' k hk hm), hk2 k hne, hx'.blocks k hk hm]
 refine ⟨_, _, he, by rw [<- hb, hjl], c3, _, ?_, ?_, by rw [hx4'.ok, hx3.ok, hx'.ok], (noncell (o := .loop { L.rec' .ready none with state := .busy }) _ hr4.2.1 (zt2 hl3) hlm3 hgl).2, ?_⟩
 ·refine ⟨?_, ?_, ?_, ?_, fun k hk hm => (World.putObj_heap_other fun e => hm (.inr (.inl e))).trans (kp k hk (fun h => hm (.inl h)) fun e => hm (.inr (.inl e)))⟩
  ·show w3.os = W.os; rw [hx3.os, <- hw2]; exact hx'.os
  ·show w3.tape = W.tape; rw [hx3.tape, <- hw2]; exact hx'.tape
  ·show w3.output = W.output; rw [hx3.output, <- hw2]; exact hx'.output
  ·rw [World.putObj_size]; exact kC hx'.size (by rw [<- hs2]; exact hx3.size)
 ·intro k hk;rcases hx4'.new k hk with hk | hk
  ·rcases hx3.new k hk with hk | hk
   ·exact hx'.new k hk
   ·rw [hs2] at hk; exact .inr (kC hx'.size hk)
  ·exact .inr (kC hx'.size (kC (by rw [<- hs2]; exact hx3.size) hk))
 ·have xa : ExtP L.q L.w L.cq w' { c' with ok := L.c.ok } := ExtP.trans j.ext (yie (o := L.c.ok) hx');have xb : ExtP L.q L.w L.cq w2 { c' with ok := L.c.ok } := by rw [<- hw2]; exact y6e xa hL.ll
  have xc : ExtP L.q L.w L.cq w3 { c3 with ok := L.c.ok } := ExtP.trans (ExtP.trans xb (yie (o := L.c.ok) hx3)) (yie (o := L.c.ok) hx4');refine ⟨hst', y6e xc hL.ll, fun D hD => ?_, ?_, by rw [<- hτH]; rfl, fun o ho => hτ.1.H o (by rw [hτH]; exact ho), hjl⟩
  ·have hDne : D ≠ L.l := (hL.ms D hD).2;have hDW := j.ms D hD;rw [World.putObj_heap_other hDne, kp D (kA.1 hDW).1 (two.xb D (.inr hD)) hDne];exact hDW
  ·rw [World.putObj_heap_same hl3lt]; rfl
theorem Lp.yield {A : List Pat} {Sh : Shp} {X : XS} {g1 g2 : HT} {L : Lp A Sh X} (hL : L.OK P V g1 g2) {tr : List (LT (zc A))} {x : LT (zc A)} {b : Bool} {vs : Array Value} {s0 : LT Sh.codes ⊕ X.T} {W : World} {cb ci : Cx} {Hb Hi : List AObj}
  (hdec : zwi L.B L.h0 (tr ++ [x]) = some b) (two : Two L.c.ok L.X W cb Hb ci Hi) (j : L.J s0 tr W cb Hb) (hn : ∀ k, ci.own k -> L.w.heap.size <= k) (hvs : vs.size = (z7t A x).length) (hxw : TV.wfs (z7t A x)) (hv : VRs W ci ((z7t A x).map TV.pv) (fun i => vs[i]?)) :
  YieldAt (Wd none) 0 P L.l vs W fun e w' => e = .returned (.bool b) /\ ∃ cb' Hb', Foreign (fun k => cb.own k \/ L.X k) W w' /\ Grows W cb.own cb'.own /\ cb'.ok = cb.ok /\ Ab.Good w' cb' Hb' [] /\ ∃ s', L.J s' (tr ++ [x]) w' cb' Hb' := by
 simp only [zwi, Option.map_eq_some_iff] at hdec;obtain ⟨st', hst', hb⟩ := hdec;obtain ⟨h, hr1, hB1⟩ := yfp hst';have es := j.run;rw [hr1] at es;cases es;have j4 := j.l;have j5 := j.H;have j6 := j.wf;simp only [vw, Option.isNone_none, if_true] at j4;simp only [zcq] at j5 j6;have hcbT : cb.T = [] := kE two.b.tl;have hcbp : cb.pn = L.q := j.ext.pn;have hlW : L.l < W.heap.size := (kA.1 j4).1;have hlm : some L.l ∉ cb.m := two.xb L.l (.inl rfl);have hgl : gb <= L.l := kC hL.gbn hL.ll;have hy := run_yield (P := P) (args := vs) j4 (by rw [hvs]; exact hL.len x)
 refine ⟨L.fid, _, L.assign, L.body, hy, roundIn_of_wpIn trivial ?_⟩;have base : RelT W cb ⟨L.n, L.sl, (Sh.st h).H, Sh.pn⟩ { tmps := L.tmps, defers := [] } := by
  refine ⟨by rw [hcbp, hL.q], ?_, ?_⟩
  ·have := two.b; rw [j5] at this; exact this
  ·refine Lp.slots hL hcbT j.ext rfl fun k e hk hm ho => ?_
   rw [two.bok];exact ⟨ho, fun h => h.elim (fun h => absurd hk (kD.2 (hn k h))) fun h => absurd hk (kD.2 (hL.Xge h))⟩
 have hvb : VRs W cb ((z7t A x).map TV.pv) (fun i => vs.toList[i]?) := by
  have pu := (z86 _ hxw (hL.pu x)).1;rw [qh] at pu;refine VRs.transfer (c := ci) (fun a n hf => ?_) _ pu (by simpa using hv)
  rcases hf with hf | ⟨k1, k2, k3, k4, k5⟩
  ·exact .inl hf
  ·rw [two.iok] at k5;refine .inr ⟨k1, k2, fun h => k5.2 (.inl h), fun i k h => by rw [hcbT] at h; simp at h, ?_⟩
   rw [two.bok];exact ⟨k5.1, fun h => h.elim k3 fun h => k5.2 (.inr h)⟩
 have start := yjp L.ps.toList (z7t A x) vs.toList base hvb (by simpa using hvs)
 have etm : (L.ps.toList.zip vs.toList).foldl (fun t x => t.setIfInBounds x.1 x.2) L.tmps = (L.ps.zip vs).foldl (fun tmps (t, a) => tmps.setIfInBounds t a) L.tmps := by
  rw [<- Array.foldl_toList, Array.toList_zip]
 rw [etm] at start;have wf0 : (zmv L.ps.toList (z7t A x) ⟨L.n, L.sl, (Sh.st h).H, Sh.pn⟩).wf := y9w _ _ _ ⟨hL.slwf, j6⟩ hxw;have hB2 := hL.hB h x;rw [hB1] at hB2;unfold zz4 at hB2;have t1 := zn9 hL.hV L.assign g1 hL.ok1 hB2;refine t1 cb _ W _ start wf0 (fun e c' a' w' σ' hQ hw' hr' hx' _ => ?_) (some L.l) ⟨hlm, _, j4⟩
 rw [(ymd _ _ _).1] at hx';simp only at hx';rw [hL.q] at hx';cases e with
 | normal =>
  have hl' : w'.heap[L.l]? = some (.loop (L.rec' .ready none)) := (hx'.blocks L.l hlW hlm).trans j4;have hlm' : some L.l ∉ c'.m := fun h => (hx'.new L.l h).elim hlm fun h' => absurd hlW (kD.2 h')
  have hbr := run_beginRound (P := P) hl' rfl;refine ⟨_, hbr, ?_⟩;obtain ⟨w2, hw2⟩ : ∃ w2, w'.putObj L.l (.loop { L.rec' .ready none with state := .busy }) = w2 := ⟨_, rfl⟩;rw [hw2];have hl2 : w2.heap[L.l]? = some (.loop { L.rec' .ready none with state := .busy }) := by rw [<- hw2]; exact World.putObj_heap_same (kA.1 hl').1
  have hr2 : RelT w2 c' σ' a' := by rw [<- hw2]; exact ytq _ hr' hl' hlm' hgl
  have hl2lt : L.l < w2.heap.size := (kA.1 hl2).1;have ep : σ'.p = L.q := by rw [<- hr'.1, hx'.pn]; exact hcbp
  have t2 := zn9 hL.hV L.body g2 hL.ok2 hQ;refine t2 c' a' w2 _ hr2 hw' (fun e3 c2 a2 w3 σ2 hQ2 hw3 hr3 hx3 _ => ?_) (some L.l) ⟨hlm', _, hl2⟩
  rw [ep] at hx3;have ep2 : σ2.p = L.q := by rw [<- hr3.1, hx3.pn, hr2.1]; exact ep
  have hl3 : w3.heap[L.l]? = some (.loop { L.rec' .ready none with state := .busy }) := (hx3.blocks L.l hl2lt hlm').trans hl2;have fin : ∀ (s' : LT Sh.codes ⊕ X.T) (τ : TS), Wk σ2 τ -> τ.H = zcq s' -> st' = s' -> s'.isLeft = (vw s').isNone -> ∃ v w4, (Instr.endRound L.l (vw s')).run P w3 = .ok v w4 /\ (Ending.returned v = Ending.returned (.bool b) /\ ∃ cb' Hb', Foreign (fun k => cb.own k \/ L.X k) W w4 /\ Grows W cb.own cb'.own /\ cb'.ok = cb.ok /\ Ab.Good w4 cb' Hb' [] /\ ∃ s', L.J s' (tr ++ [x]) w4 cb' Hb') := by
   intro s' τ hτ hτH hs' hjl;subst hs';obtain ⟨v, w4, k1, k2, cb', Hb', k3, k4, k5, k6, k7⟩ := Lp.fin hL two j hst' hb hx' hw2 hx3 hl3 hr3 ep2 hτ hτH hjl;exact ⟨v, w4, k1, k2, cb', Hb', k3, k4, k5, k6, _, k7⟩
  cases e3 with
  | normal =>
   simp only at hQ2;obtain ⟨h', k1, k2⟩ := za Sh _ σ2 _ st' hw3 hQ2;cases k1;exact fin (.inl h') _ k2 rfl rfl rfl
  | ret =>
   simp only at hQ2;obtain ⟨y, k1, k2, k3⟩ := hL.hX.close _ _ σ2 _ st' hw3 hQ2;cases k1;have hj : vw (Sh := Sh) (X := X) (.inr y) = some .ret := by simp only [vw, k2, zj8]
   have := fin (.inr y) _ k3 rfl rfl (by rw [hj]; rfl)
   rw [hj] at this; exact this
  | exit id =>
   simp only at hQ2;obtain ⟨y, k1, k2, k3⟩ := hL.hX.close _ _ σ2 _ st' hw3 hQ2;cases k1;have hj : vw (Sh := Sh) (X := X) (.inr y) = some (.exit id) := by simp only [vw, k2, zj8]
   have := fin (.inr y) _ k3 rfl rfl (by rw [hj]; rfl)
   rw [hj] at this; exact this
  | goto t => cases hQ2
  | panic ch => cases hQ2
  | outgrown => cases hQ2
 | exit id => cases hQ
 | goto t => cases hQ
 | ret => cases hQ
 | panic ch => cases hQ
 | outgrown => cases hQ
def Lp.host {A : List Pat} {Sh : Shp} {X : XS} {g1 g2 : HT} {L : Lp A Sh X} (hL : L.OK P V g1 g2) : Host P (LT (zc A)) where
 l := L.l
 K0 := L.c.ok
 X := L.X
 N := fun k => L.w.heap.size <= k
 n0 := L.w.heap.size
 emb := z7t A
 dec := zwi L.B L.h0
 J := fun tr W cb Hb => ∃ s, L.J s tr W cb Hb
 new := fun k h => h
 gbn := hL.gbn
 stay := fun tr W cb Hb W' ok' hJ hn0 fo hk _ _ => by
  obtain ⟨s, j⟩ := hJ;exact ⟨s, Lp.stay j hn0 fo hk⟩
 yield := fun tr x b vs W cb Hb ci Hi hdec two hJ _ hn hvs hxw hv => by
  obtain ⟨s, j⟩ := hJ;exact Lp.yield hL hdec two j hn hvs hxw hv
theorem yr6 (hV : EnvsOK P V) {A C : List Pat} {f : FuncId} {F : (List (LT (zc A)) -> Option Bool) -> LT (zc C) -> Option (List (LT (zc A)))} (hseq : SeqOK P f A C F) {g : Operand} {ps : Array Tmp} {assign body : Code} {g1 g2 : HT} {Sh : Shp} {X : XS} {σ0 : TS} {h0 : LT Sh.codes} {cp : LT (zc C)}
  {B : LT Sh.codes -> LT (zc A) -> Option (LT Sh.codes ⊕ X.T)} (hok1 : HOK P assign g1) (hok2 : HOK P body g2) (hX : X.OK) (hw0 : σ0.wf) (hfn : σ0.eval g = .fn f (ze6 C cp)) (hcp : z3v (ze6 C cp) = true) (hlow : zgu Sh.pn (σ0.slots.map (·.2)) = true)
  (hH : σ0.H = (Sh.st h0).H) (hp : σ0.p <= Sh.pn) (hlen : ∀ x, (z7t A x).length = ps.size) (hpu : ∀ x, z3v (z7t A x) = true) (hB : ∀ h x, zz4 P V A ps assign body g1 g2 Sh X σ0.n σ0.slots h x = B h x) {tr : List (LT (zc A))} {st : LT Sh.codes ⊕ X.T}
  (h1 : F (zwi B h0) cp = some tr) (h2 : z6q B h0 tr = some st) : TAW P (.rangeFunc g ps assign body) σ0 (yr4 σ0 Sh X st) := by
 intro c a w Q' hr hw hK ro hro;obtain ⟨cv, e1, e2, e3⟩ := zuw (xs := #[]) (Y := σ0.flat.H) hr.2 hfn;simp only [List.map_nil, kO, Array.map_empty, Array.empty_append, kO] at e2 e3;have hT : c.T = [] := hr.noT;have g0 : Ab.Good w c σ0.flat.H [] := hr.2.1;refine wpIn_rangeFunc fun fid _ => ?_
 obtain ⟨l, ms, dfr, w1, hent, hl1, hnd, hms, hll, hsz1, hos, htape, hout, hkeep⟩ := ypy (P := P) hro fid a.tmps ps assign body;obtain ⟨L, hLe⟩ : ∃ L : Lp A Sh X, L = ⟨w, c, Sh.pn, ms, l, fid, a.tmps, ps, assign, body, dfr, B, h0, σ0.n, σ0.slots⟩ := ⟨_, rfl⟩;have hL : L.OK P V g1 g2 := by
  rw [hLe];exact ⟨hV, hok1, hok2, hX, hT, rfl, hw0.slots, hlow, hlen, hpu, hB, ⟨_, hr.2.2⟩, g0.gl.sz, fun D hD => ⟨(hms D hD).1, (hms D hD).2.1⟩, hll, g0.okm⟩
 have Lw : L.w = w := by rw [hLe]
 have Lc : L.c = c := by rw [hLe]
 have Lq : L.q = Sh.pn := by rw [hLe]
 have Ll : L.l = l := by rw [hLe]
 have Lms : L.ms = ms := by rw [hLe]
 have Ltm : L.tmps = a.tmps := by rw [hLe]
 have LB : L.B = B := by rw [hLe]
 have Lh : L.h0 = h0 := by rw [hLe]
 have Ln : L.n = σ0.n := by rw [hLe]
 have Lsl : L.sl = σ0.slots := by rw [hLe]
 have hgl : gb <= l := kC g0.gl.sz hll;have hpq : c.pn <= L.q := by rw [hr.1, Lq]; exact hp
 have hcqm : L.cq.m = c.m := by rw [<- Lc]; rfl
 have hcqo : L.cq.ok = c.ok := by rw [<- Lc]; rfl
 have gq : Ab.Good w L.cq σ0.flat.H [] := by unfold Lp.cq; rw [Lc]; exact yv9 g0 hpq
 have hXge : ∀ k, L.X k -> w.heap.size <= k := fun k hk => by have := hL.Xge hk; rwa [Lw] at this
 have hXlt : ∀ k, L.X k -> k < w1.heap.size := fun k hk => by
  unfold Lp.X at hk;rw [Ll, Lms] at hk;exact hk.elim (fun e => by rw [e]; exact (kA.1 hl1).1) fun h => (kA.1 (hms k h).2.2).1
 have hl1' : w1.heap[l]? = some (.loop (L.rec' .ready none)) := by rw [hLe]; exact hl1
 have x01 : ExtP L.q w L.cq w1 L.cq := ⟨hos, htape, hout, hsz1, fun k h => .inl h, fun k hk _ => hkeep k hk, rfl, rfl, fun _ _ _ h => h, fun k vs e fr h => ⟨vs, fr, (hkeep k (kA.1 h).1).trans h, rfl⟩⟩
 obtain ⟨cb, hcb⟩ : ∃ cb : Cx, cb = L.cq.sans L.X := ⟨_, rfl⟩;obtain ⟨ci, hci⟩ : ∃ ci : Cx, ci = { m := [], T := [], ok := fun k e => c.ok k e /\ ¬ (cb.own k \/ L.X k), pn := 0 } := ⟨_, rfl⟩
 have hcbm : cb.m = c.m := by rw [hcb]; exact hcqm
 have hcim : ci.m = [] := by rw [hci]
 have gb1 : Ab.Good w1 cb σ0.flat.H [] := by
  rw [hcb];exact y4d (M := fun _ => False) gq ⟨fun _ _ h => h, fun k e _ => .inl id, fun k h => h.elim, fun k h => h.elim⟩ ⟨hos, htape, hout, hsz1, fun k hk _ => hkeep k hk⟩ (fun k hk => .inr (hXge k hk)) hXlt
 have hown : ∀ k, cb.own k -> k < w.heap.size := fun k hk => gq.mlt (by unfold Cx.own at hk; rw [hcbm, <- hcqm] at hk; exact hk)
 have two0 : Two c.ok L.X w1 cb σ0.flat.H ci [] := by
  refine ⟨gb1, ?_, ?_, by rw [hci], fun k e e' h he => g0.okm k e e' h he, fun k _ h => ?_, fun k hk hb => absurd (hown k hb) (kD.2 (hXge k hk)), fun k hk h => ?_, hXlt, fun k hk => kC g0.gl.sz (hXge k hk)⟩
  ·rw [hci];refine ⟨rfl, fun i j k h => by simp at h, fun b o h => by simp at h, rfl, fun i h => by simp at h, fun i h => by simp at h, fun i k j h => by simp at h, fun i i' k j j' h => by simp at h, fun k e hk => ⟨g0.okn k e (kC hsz1 hk), fun h => h.elim (fun h => absurd (hown k h) (kD.2 (kC hsz1 hk))) fun h => absurd (hXlt k h) (kD.2 hk)⟩,
    fun k e e' h he => ⟨g0.okm k e e' h.1 he, h.2⟩, fun i k j h => by simp at h, fun b k _ h => by simp at h, ⟨kC g0.gl.sz hsz1, fun k h => by simp at h, fun i k j h => by simp at h, gb1.gl.var⟩⟩
  ·rw [hcb];funext k e;simp only [Cx.sans, hcqo, Cx.own, hcim, List.not_mem_nil, false_or]
  ·unfold Cx.own at h; rw [hcim] at h; cases h
  ·unfold Cx.own at h; rw [hcim] at h; cases h
 have j0 : L.J (.inl h0) [] w1 cb σ0.flat.H := by
  refine ⟨by rw [Lh]; rfl, ?_, fun D hD => (hms D (by rw [<- Lms]; exact hD)).2.2, by simp only [vw, Option.isNone_none, if_true]; rw [Ll]; exact hl1', by simp only [zcq, <- hH]; rfl, fun o ho => hw0.H o (by rw [hH]; exact ho), rfl⟩
  have : ({ cb with ok := L.c.ok } : Cx) = L.cq := by rw [hcb, Lc, <- hcqo]; rfl
  rw [this, Lw]; exact x01
 have hcw : TV.wfs (ze6 C cp) := by
  have := zS hw0 g;rw [hfn] at this;simpa only [TV.wf] using this
 have hv0 : VRs w1 ci ((ze6 C cp).map TV.pv) (fun i => cv[i]?) := by
  have pu := (z86 _ hcw hcp).1;rw [qh] at pu;refine VRs.psees (q := 0) ?_ _ (xP 0 _ pu) (fun _ _ _ e => e) e3
  refine ⟨fun b k hb => absurd hb (Nat.not_lt_zero _), fun a n hf => ?_, fun a n i v hf hi hv => ?_, fun b k vs e fr hb => absurd hb (Nat.not_lt_zero _)⟩
  ·rcases hf with hf | ⟨k1, k2, k3, k4, k5⟩
   ·exact .inl hf
   ·rw [hci];exact .inr ⟨k1, kF k2 hsz1, by simp, fun i k h => by simp at h, k5, fun h => h.elim (fun h => k3 (by unfold Cx.own at h; rw [hcbm] at h; exact h)) fun h => absurd k2 (kD.2 (hXge _ h))⟩
  ·rcases hf with hf | ⟨k1, k2, k3, k4, k5⟩
   ·omega
   ·have : w1.cell? ⟨a.block, a.off + i, none⟩ = w.cell? ⟨a.block, a.off + i, none⟩ := jm (hkeep _ k2);rw [this]; exact hv
 have hcall : Calls P f (#[.func (.yield l) #[] #[]] ++ cv) w1 fun e w' => ∃ v, e = .returned v /\ ∃ cb' Hb' ci' Hi', Two c.ok L.X w' cb' Hb' ci' Hi' /\ ∃ s, L.J s tr w' cb' Hb' := by
  have := hseq.calls (Lp.host hL) cp tr rfl (by show F (zwi L.B L.h0) cp = some tr; rw [LB, Lh]; exact h1) hcw w1 cb σ0.flat.H ci cv (by show Two L.c.ok L.X w1 cb σ0.flat.H ci []; rw [Lc]; exact two0) (by rw [hci]) ⟨_, j0⟩ (by show L.w.heap.size <= _; rw [Lw]; exact hsz1) e2 hv0
  rw [<- Ll, <- Lc];exact this
 have hres : (resolve a.eval (rangeCall g l) 0).run P w1 = .ok { target := .fn (.func f) cv, args := #[.func (.yield l) #[] #[]] } w1 := by
  simp only [resolve, e1];simp [go_sem]
 have hinv : (invoke (.fn (.func f) cv) #[.func (.yield l) #[] #[]]).run P w1 = .ok (.enter f (#[.func (.yield l) #[] #[]] ++ cv)) w1 := by
  simp [invoke, go_sem, y5p hseq.can]
 have hdep : (Wd ro).depth.isSome = true -> 1 <= 0 := fun h => by simp [Wd, Fence.wide] at h
 refine ⟨l, ms.map zdo, w1, { target := .fn (.func f) cv, args := #[.func (.yield l) #[] #[]] }, w1, f, #[.func (.yield l) #[] #[]] ++ cv, w1, hent, ?_, ?_, ?_, ?_, ?_⟩
 ·exact hres
 ·exact fun _ _ => trivial
 ·exact hinv
 ·exact hdep
 ·refine ykj (hcall.mono ?_);rintro e w3 ⟨v, rfl, cb', Hb', ci', Hi', two', s, j⟩;have es := j.run;rw [LB, Lh, h2] at es;cases es;have j4 := j.l;rw [Ll] at j4;have hlm : some l ∉ cb'.m := by rw [<- Ll]; exact two'.xb L.l (.inl rfl)
  have hend := run_endLoop (P := P) j4 (by simp only [Lp.rec']; split <;> simp)
  refine ⟨_, _, hend, ?_⟩;obtain ⟨w4, hw4⟩ : ∃ w4, w3.putObj l (.loop { L.rec' (if (vw st).isNone then .ready else .done) (vw st) with state := .exhausted }) = w4 := ⟨_, rfl⟩
  rw [hw4];have hcb'T : cb'.T = [] := kE two'.b.tl;have gx : Ab.Good w4 { cb' with ok := c.ok } Hb' [] := by
   have := (noncell (o := .loop (L.rec' (if (vw st).isNone then .ready else .done) (vw st))) (.loop { L.rec' (if (vw st).isNone then .ready else .done) (vw st) with state := .exhausted }) two'.b (zt2 j4) hlm hgl).2
   rw [hw4] at this;exact (ylx (ok' := c.ok) this (fun k e h => by rw [two'.bok] at h; exact h.1) fun k e e' h he => g0.okm k e e' h he).1
  have jx := j.ext;rw [Lw, Lc] at jx;have x4 : ExtP L.q w L.cq w4 { cb' with ok := c.ok } := by rw [<- hw4]; exact y6e jx hll
  have gf := ynn (q := L.q) g0 hpq (by rw [show ({ c with pn := L.q } : Cx) = L.cq by unfold Lp.cq; rw [Lc]]; exact x4) gx
  have relf : RelT w4 { cb' with ok := c.ok, pn := c.pn } ⟨σ0.n, σ0.slots, zcq st, σ0.p⟩ { a with defers := ms.map zdo ++ a.defers } := by
   refine ⟨hr.1, ?_, ?_⟩
   ·rw [j.H] at gf; exact gf
   ·have := Lp.slots (H' := (zcq st).map TOb.flat) hL (c2 := { cb' with ok := c.ok, pn := c.pn }) (c' := { cb' with ok := c.ok }) hcb'T (by rw [Lw]; exact x4) rfl fun k e _ _ ho => by rw [Lc] at ho; exact ho
    rw [Ln, Lsl, Ltm] at this;exact this
  have xf : ExtP σ0.p w c w4 { cb' with ok := c.ok, pn := c.pn } := ⟨x4.os, x4.tape, x4.output, x4.size, fun k h => by rw [<- hcqm]; exact x4.new k h, fun k hk hm => x4.blocks k hk (by rw [hcqm]; exact hm), rfl, rfl, fun b k hb h => x4.pin b k (kF hb (by rw [Lq]; exact hp)) (by rw [hcqm]; exact h), x4.room⟩
  have mf : Mk w w4 { cb' with ok := c.ok, pn := c.pn } a.defers (ms.map zdo ++ a.defers) := ⟨ms, rfl, hnd, fun D hD => ⟨(hms D hD).1, by rw [<- hw4, World.putObj_heap_other (hms D hD).2.1]; exact j.ms D (by rw [Lms]; exact hD), two'.xb D (.inr (by rw [Lms]; exact hD))⟩⟩
  have wff : TS.wf ⟨σ0.n, σ0.slots, zcq st, σ0.p⟩ := ⟨hw0.slots, j.wf⟩;have j7 := j.lft;cases st with
  | inl h =>
   simp only [vw, Lp.rec'];exact hK .normal _ _ w4 _ ⟨rfl, rfl⟩ wff relf xf mf
  | inr y =>
   cases hj : (X.at' y).1 with
   | ret =>
    simp only [vw, hj, zj8, Lp.rec'];exact wpIn_ret (hK .ret _ _ w4 _ ⟨hj.symm, rfl⟩ wff relf xf mf)
   | exit id =>
    simp only [vw, hj, zj8, Lp.rec'];exact wpIn_exit (hK (.exit id) _ _ w4 _ ⟨hj.symm, rfl⟩ wff relf xf mf)
   | normal => simp [vw, hj, zj8] at j7
   | goto t => simp [vw, hj, zj8] at j7
   | panic ch => simp [vw, hj, zj8] at j7
   | outgrown => simp [vw, hj, zj8] at j7
theorem yrf (hV : EnvsOK P V) {A : List Pat} {ps : Array Tmp} {assign body : Code} {g1 g2 : HT} {Sh : Shp} {X : XS} {n : Nat} {sl : List (Nat × TV)} {h : LT Sh.codes} {x : LT (zc A)} {s : LT Sh.codes ⊕ X.T} (hok1 : HOK P assign g1) (hok2 : HOK P body g2) (hX : X.OK)
  (hsl : ∀ z, z ∈ sl -> z.2.wf) (hH : ∀ o, o ∈ (Sh.st h).H -> o.wf) (hx : TV.wfs (z7t A x)) (hh : zz4 P V A ps assign body g1 g2 Sh X n sl h x = some s) : ∀ o, o ∈ zcq s -> o.wf := by
 unfold zz4 at hh;have w0 : TS.wf ⟨n, sl, (Sh.st h).H, Sh.pn⟩ := ⟨hsl, hH⟩;obtain ⟨e, σ1, h1, h2⟩ := zse hV assign g1 hok1 (y9w _ _ _ w0 hx) hh;cases e with
 | normal =>
  simp only at h2;obtain ⟨e2, σ2, h3, h4⟩ := zse hV body g2 hok2 h1 h2;cases e2 with
  | normal =>
   simp only at h4;obtain ⟨h', k1, k2⟩ := za Sh _ σ2 _ s h3 h4;cases k1;exact k2.1.H
  | ret =>
   simp only at h4;obtain ⟨y, k1, k2, k3⟩ := hX.close _ _ σ2 _ s h3 h4;cases k1;exact k3.1.H
  | exit id =>
   simp only at h4;obtain ⟨y, k1, k2, k3⟩ := hX.close _ _ σ2 _ s h3 h4;cases k1;exact k3.1.H
  | goto t => cases h4
  | panic ch => cases h4
  | outgrown => cases h4
 | exit id => cases h2
 | goto t => cases h2
 | ret => cases h2
 | panic ch => cases h2
 | outgrown => cases h2
def zym {A C : List Pat} (S : XE) (Sh : Shp) (X : XS) (F : (List (LT (zc A)) -> Option Bool) -> LT (zc C) -> Option (List (LT (zc A)))) (cp : S.T -> LT (zc C)) (h0 : S.T -> LT Sh.codes) (B : S.T -> LT Sh.codes -> LT (zc A) -> Option (LT Sh.codes ⊕ X.T)) :
  {R : Type} -> TS -> (Exit -> TS -> Option R) -> Option R :=
 fun σ k => S.close σ fun s => ((F (zwi (B s) (h0 s)) (cp s)).bind fun tr => z6q (B s) (h0 s) tr).bind fun st =>
  Sum.elim (fun h => k .normal ⟨(S.st s).n, (S.st s).slots, (Sh.st h).H, (S.st s).p⟩) (fun y => X.open' y fun e τ => k e ⟨(S.st s).n, (S.st s).slots, τ.H, (S.st s).p⟩) st
theorem yl0 (hV : EnvsOK P V) {A C : List Pat} {f : FuncId} {F : (List (LT (zc A)) -> Option Bool) -> LT (zc C) -> Option (List (LT (zc A)))} (hseq : SeqOK P f A C F) {g : Operand} {ps : Array Tmp} {assign body : Code} {g1 g2 : HT} {S : XE} {Sh : Shp} {X : XS} {cp : S.T -> LT (zc C)} {h0 : S.T -> LT Sh.codes}
  (hok1 : HOK P assign g1) (hok2 : HOK P body g2) (hS : S.OK) (hX : X.OK) (hfn : ∀ s, (S.st s).eval g = .fn f (ze6 C (cp s))) (hcp : ∀ s, z3v (ze6 C (cp s)) = true) (hlow : ∀ s, zgu Sh.pn ((S.st s).slots.map (·.2)) = true)
  (hH : ∀ s, (S.st s).H = (Sh.st (h0 s)).H) (hp : ∀ s, Nat.ble (S.st s).p Sh.pn = true) (hlen : ∀ x, (z7t A x).length = ps.size) (hpu : ∀ x, z3v (z7t A x) = true)
  (B : S.T -> LT Sh.codes -> LT (zc A) -> Option (LT Sh.codes ⊕ X.T)) (hB : ∀ s h x, zz4 P V A ps assign body g1 g2 Sh X (S.st s).n (S.st s).slots h x = B s h x) : SoundD P (.rangeFunc g ps assign body) (zym S Sh X F cp h0 B) := by
 have open1 : ∀ {R : Type} (s : S.T) (st : LT Sh.codes ⊕ X.T) (k : Exit -> TS -> Option R) (r : R), Sum.elim (fun h => k .normal ⟨(S.st s).n, (S.st s).slots, (Sh.st h).H, (S.st s).p⟩) (fun y => X.open' y fun e τ => k e ⟨(S.st s).n, (S.st s).slots, τ.H, (S.st s).p⟩) st = some r ->
   ∀ e σ', yr4 (S.st s) Sh X st e σ' -> k e σ' = some r := by
  intro R s st k r hh e σ' hq;cases st with
  | inl h => obtain ⟨rfl, rfl⟩ := hq; exact hh
  | inr y =>
   obtain ⟨rfl, rfl⟩ := hq;simp only [Sum.elim_inr] at hh;rw [hX.open'] at hh;exact hh
 refine ⟨fun R σ k r hh => ?_, fun R σ k r hw hh => ?_⟩
 ·intro c a w Q' hr hw hK ro hro;simp only [zym] at hh;obtain ⟨s, h1, h2⟩ := hS R σ _ r hw hh;rw [kB] at h1;obtain ⟨st, h4, h6⟩ := h1;rw [kB] at h4;obtain ⟨tr, h3, h5⟩ := h4;have := yr6 hV hseq (g := g) (ps := ps) hok1 hok2 hX h2.1 (hfn s) (hcp s) (hlow s) (hH s) (Nat.le_of_ble_eq_true (hp s)) hlen hpu (hB s) h3 h5;exact TAW.wk h2 (this.mono fun e σ' hq => open1 s st k r h6 e σ' hq) c a w Q' hr hw hK ro hro
 ·simp only [zym] at hh;obtain ⟨s, h1, h2⟩ := hS R σ _ r hw hh;rw [kB] at h1;obtain ⟨st, h4, h6⟩ := h1;rw [kB] at h4;obtain ⟨tr, h3, h5⟩ := h4;have hcw : TV.wfs (ze6 C (cp s)) := by
   have := zS h2.1 g;rw [hfn s] at this;simpa only [TV.wf] using this
  have htr := hseq.wf _ _ _ h3 hcw;have key : ∀ (tr : List (LT (zc A))) (h : LT Sh.codes), z6r A tr -> (∀ o, o ∈ (Sh.st h).H -> o.wf) -> z6q (B s) h tr = some st -> ∀ o, o ∈ zcq st -> o.wf := by
   intro tr
   induction tr with
   | nil => intro h _ hh hr; simp only [z6q, Option.some.injEq] at hr; subst hr; exact hh
   | cons x tr ih =>
    intro h ht hh hr;simp only [z6q] at hr;rw [kB] at hr;obtain ⟨y, k1, k2⟩ := hr;rw [<- hB] at k1;have hy := yrf hV hok1 hok2 hX h2.1.slots hh (ht x (by simp)) k1
    cases y with
    | inl h' => exact ih h' (fun e he => ht e (by simp [he])) hy k2
    | inr y => cases tr <;> simp at k2; subst k2; exact hy
  have hwst := key tr (h0 s) htr (fun o ho => h2.1.H o (by rw [hH]; exact ho)) h5
  cases st with
  | inl h =>
   have w1 : TS.wf ⟨(S.st s).n, (S.st s).slots, (Sh.st h).H, (S.st s).p⟩ := ⟨h2.1.slots, hwst⟩;exact ⟨_, _, w1, h6⟩
  | inr y =>
   simp only [Sum.elim_inr] at h6;rw [hX.open'] at h6;have w1 : TS.wf ⟨(S.st s).n, (S.st s).slots, (X.at' y).2.H, (S.st s).p⟩ := ⟨h2.1.slots, hwst⟩;exact ⟨_, _, w1, h6⟩
end Go.Tm
namespace Go.Tm
def zk5 {E : Type} (dec : List E -> Option Bool) : List E -> List E -> Option (List E)
 | tr, [] => some tr
 | tr, x :: xs => (dec (tr ++ [x])).bind fun b => bif b then zk5 dec (tr ++ [x]) xs else some (tr ++ [x])
def zoi {T E Y : Type} (B : T -> E -> Option (T ⊕ Y)) : T -> List E -> Option (T ⊕ Y)
 | h, [] => some (.inl h)
 | h, x :: xs => (B h x).bind fun s => match s with
  | .inl h' => zoi B h' xs
  | .inr y => some (.inr y)
theorem y8j {T E Y : Type} {B : T -> E -> Option (T ⊕ Y)} : ∀ {tr : List E} {h h' : T} {x : E}, z6q B h tr = some (.inl h') -> z6q B h (tr ++ [x]) = B h' x
 | [], h, h', x, hh => by
  simp only [z6q, Option.some.injEq, Sum.inl.injEq] at hh;subst hh;simp only [kO, z6q];cases B h x with
  | none => rfl
  | some s => cases s <;> rfl
 | z :: tr, h, h', x, hh => by
  simp only [z6q, kR] at hh ⊢;rw [kB] at hh;obtain ⟨s, h1, h2⟩ := hh;rw [h1];cases s with
  | inl s => exact y8j h2
  | inr y => cases tr <;> simp at h2
theorem y8l {T E Y : Type} {B : T -> E -> Option (T ⊕ Y)} {h0 : T} : ∀ (xs tr : List E) (h : T), z6q B h0 tr = some (.inl h) -> (zk5 (zwi B h0) tr xs).bind (z6q B h0) = zoi B h xs
 | [], tr, h, hh => by simp only [zk5, kK, zoi]; exact hh
 | x :: xs, tr, h, hh => by
  have e := y8j (x := x) hh;simp only [zk5, zoi, zwi];rw [e];cases hb : B h x with
  | none => rfl
  | some s =>
   cases s with
   | inl h' =>
    simp only [kS, Sum.isLeft_inl, kK, cond_true];exact y8l xs (tr ++ [x]) h' (by rw [e, hb])
   | inr y =>
    simp only [kS, Sum.isLeft_inr, kK, cond_false];rw [e, hb]
theorem yos {T E Y : Type} (B : T -> E -> Option (T ⊕ Y)) (h0 : T) (xs : List E) : (zk5 (zwi B h0) [] xs).bind (z6q B h0) = zoi B h0 xs := y8l xs [] h0 rfl
theorem ytb {E : Type} (l : Nat) (dec : List E -> Option Bool) (tr : List E) : onY l dec l tr = dec tr := by simp [onY]
end Go.Tm
