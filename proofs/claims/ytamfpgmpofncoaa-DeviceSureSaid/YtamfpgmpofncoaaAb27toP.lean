import Derived.Test.YtamfpgmpofncoaaAb19to26
import Derived.Laws.IdiomStrings
import Derived.ControlIn
import Derived.CallsIn
import Derived.OrdersIn
import Derived.RangeFuncCalls
import Derived.Scope
open Go.Result renaming andThen_ok → kA, andThen → kv
open Go.Sem renaming run_bind → kB, run_pure → kL
open List renaming getElem?_eq_some_iff → kC, getElem?_append_left → kE, getElem?_append_right → kH, getElem?_set_ne → kI, mem_iff_getElem? → kK, getElem?_cons_zero → kS, getElem?_map → kU, getElem?_set_self → kY, eq_nil_of_length_eq_zero → kZ, replicate → k0, mem_of_getElem? → kb, length_eq_zero_iff → ki, getElem?_take → ko, map_cons → kq, all_eq_true → kr, mem_cons → kw, range → lA
open Nat renaming le_refl → kD, lt_of_lt_of_le → kF, mul_le_mul_right → kM, not_lt → kN, add_assoc → kP, add_comm → kQ, eq_of_beq_eq_true → kT, add_sub_cancel_left → kV, blt_eq → kW, blt → k8, le_trans → k9, add_mul → kc, beq → kh, le_add_right → kj, add_zero → km, beq_refl → kt, zero_add → ku, le_of_eq → kx, sub_self → ky, zero_mul → kz
open Array renaming getElem?_eq_some_iff → kG, getElem?_append_left → kO, size_append → kR
open Option renaming map_some → kJ
open Bool renaming and_eq_true → ka, or_eq_true → ke, false_eq_true → kg
set_option linter.unusedSimpArgs false
set_option linter.unusedVariables false
namespace Go.Ab
def AObj.ren (f : Nat -> Option Nat) : AObj -> AObj
 | .row cs e => .row (xK f cs) e
 | .raw o => .raw o
 | .gone => .gone
def xU (b : Nat) : Nat -> Option Nat := fun i => bif kh i b then none else some i
theorem zk0 {b i j : Nat} (h : xU b i = some j) : j = i /\ i ≠ b := by
 unfold xU at h;cases hb : kh i b with
 | true => rw [hb] at h; cases h
 | false =>
  rw [hb] at h; cases h;exact ⟨rfl, fun e => by rw [e, kt] at hb; cases hb⟩
def xH (c : Cx) (b : Nat) (o : Option Nat) : Cx := { c with m := c.m.set b none ++ [o] }
structure Swap (w : World) (c : Cx) (w' : World) (b : Nat) (o : Option Nat) : Prop where
 os : w'.os = w.os
 tape : w'.tape = w.tape
 output : w'.output = w.output
 size : w.heap.size <= w'.heap.size
 blocks : ∀ k : Nat, k < w.heap.size -> c.m[b]? ≠ some (some k) -> w'.heap[k]? = w.heap[k]?
 room : ∀ (k : Nat) (vs : Array Value) (e : TypeId) (fr : Nat × Nat), w.heap[k]? = some (Obj.cells vs e fr) -> ∃ (vs' : Array Value) (fr' : Nat × Nat), w'.heap[k]? = some (Obj.cells vs' e fr') /\ vs'.size = vs.size
 new : ∀ k, o = some k -> c.m[b]? = some (some k) \/ w.heap.size <= k
variable {c : Cx}
theorem zb8 {b i k : Nat} {o : Option Nat} (hb : b < c.m.length) (h : (xH c b o).m[i]? = some (some k)) : (i ≠ b /\ c.m[i]? = some (some k)) \/ (i = c.m.length /\ o = some k) := by
 simp only [xH] at h
 by_cases hi : i < c.m.length
 ·rw [kE (by simpa using hi)] at h
  by_cases hib : b = i
  ·subst hib; rw [kY hb] at h; cases h
  ·rw [kI hib] at h; exact .inl ⟨fun e => hib e.symm, h⟩
 ·rw [kH (by simp; omega)] at h
  simp only [List.length_set] at h;cases hj : i - c.m.length with
  | zero => rw [hj] at h; simp at h; exact .inr ⟨by omega, h⟩
  | succ n => rw [hj] at h; simp at h
theorem z6t {b i : Nat} {o : Option Nat} {x : Option Nat} (hi : i ≠ b) (h : c.m[i]? = some x) : (xH c b o).m[i]? = some x := by
 simp only [xH];rw [kE (by simpa using (kC.1 h).1), kI (fun e => hi e.symm)]; exact h
variable {b : Nat}
theorem zrg {o : Option Nat} : (xH c b o).m[c.m.length]? = some o := by simp [xH]
theorem zf7 {w w' : World} {b k : Nat} {o : Option Nat} (s : Swap w c w' b o) (hb : b < c.m.length) (h : some k ∈ (xH c b o).m) : some k ∈ c.m \/ w.heap.size <= k := by
 obtain ⟨i, hi⟩ := kK.1 h;rcases zb8 hb hi with ⟨_, h⟩ | ⟨_, h⟩
 ·exact .inl (kK.2 ⟨i, h⟩)
 ·rcases s.new k h with h | h
  ·exact .inl (kK.2 ⟨b, h⟩)
  ·exact .inr h
theorem zdu {w w' : World} {H : List AObj} (g : Good w c H []) {o : Option Nat} (s : Swap w c w' b o) (hb : b < c.m.length) : Mv (xU b) w c w' (xH c b o) where
 noT := noT g
 id := fun i j k hf hk => by
  obtain ⟨rfl, hne⟩ := zk0 hf;exact z6t hne hk
 foot := fun a n h => by
  rcases h with h | ⟨h1, h2, h3, h4, h5⟩
  ·exact .inl h
  ·refine .inr ⟨h1, kF h2 s.size, fun hm => ?_, h4, h5⟩
   rcases zf7 s hb hm with h | h
   ·exact h3 h
   ·omega
 cell := fun a n h i v hi hv => by
  rcases h with h | ⟨h1, h2, h3, h4, h5⟩
  ·omega
  ·rw [qy (a := ⟨a.block, a.off + i, none⟩) (s.blocks a.block h2 fun h => h3 (kK.2 ⟨b, h⟩))]; exact hv
 room := s.room
theorem zrf {w w' : World} {H : List AObj} (g : Good w c H []) {o : Option Nat} (s : Swap w c w' b o) (hb : b < H.length) (hpn : c.pn <= b) {n : AObj} (hn : ObjC w' (xH c b o) H.length n) :
    Good w' (xH c b o) ((H.set b .gone).map (AObj.ren (xU b)) ++ [n]) [] /\ ExtP c.pn w c w' (xH c b o) := by
  have hbm : b < c.m.length := by rw [g.len]; exact hb
  have mv := zdu g s hbm
  have hT := noT g
  refine ⟨{ len := by simp [xH, g.len], inj := ?_, obj := ?_, tl := by rw [show (xH c b o).T = c.T from rfl, hT]; rfl, tal := fun i h => by simp at h, tdead := fun i h => by simp at h,
            tok := fun i k j h => by simp only [xH, hT] at h; simp at h, tinj := fun i i' k j j' h => by simp only [xH, hT] at h; simp at h, okn := fun k e h => g.okn k e (k9 s.size h), okm := g.okm,
            okt := fun i k j h => by simp only [xH, hT] at h; simp at h, oko := ?_,
            gl := ⟨k9 g.gl.sz s.size, fun k h => (zf7 s hbm h).elim (g.gl.m k) (k9 g.gl.sz), fun i k j h => by simp only [xH, hT] at h; simp at h,
              Glob.stay (fun k hk => s.blocks k (kF hk g.gl.sz) fun h => kN.2 (g.gl.m k (kK.2 ⟨b, h⟩)) hk) g.gl.var⟩ }, ?_⟩
  · intro i j k h1 h2
    rcases zb8 hbm h1 with ⟨n1, h1⟩ | ⟨n1, h1⟩ <;> rcases zb8 hbm h2 with ⟨n2, h2⟩ | ⟨n2, h2⟩
    · exact g.inj i j k h1 h2
    · rcases s.new k h2 with h | h
      · exact absurd (g.inj i b k h1 h) n1
      · have := ObjC.lt g h1; omega
    · rcases s.new k h1 with h | h
      · exact absurd (g.inj j b k h2 h) n2
      · have := ObjC.lt g h2; omega
    · omega
  · intro i q hq
    by_cases hi : i < H.length
    · rw [kE (by simpa using hi), kU] at hq
      by_cases hib : b = i
      · subst hib
        rw [kY hb] at hq
        simp only [kJ, AObj.ren, Option.some.injEq] at hq
        subst hq
        show (xH c b o).m[b]? = some none
        simp only [xH]
        rw [kE (by simpa using hbm), kY hbm]
      · rw [kI hib] at hq
        cases ho : H[i]? with
        | none => rw [ho] at hq; cases hq
        | some q0 =>
          rw [ho] at hq
          simp only [kJ, Option.some.injEq] at hq
          subst hq
          have hne : i ≠ b := fun e => hib e.symm
          have hob := g.obj i q0 ho
          have hblk : ∀ k : Nat, c.m[i]? = some (some k) -> w'.heap[k]? = w.heap[k]? := fun k hk => s.blocks k (ObjC.lt g hk) fun h => hne (g.inj i b k hk h)
          cases q0 with
          | row cs e =>
            rcases hob with ⟨h1, h2⟩ | ⟨k, vs, h1, h2, h3, hl, h4⟩
            · exact .inl ⟨by rw [h1]; rfl, z6t hne h2⟩
            · exact .inr ⟨k, vs, z6t hne h1, h2.pass (hblk k h1), by rw [z19]; exact h3, z1r hl, VRs.move mv cs (fun _ _ _ e => e) h4⟩
          | raw ob =>
            obtain ⟨k, h1, h2⟩ := hob
            exact ⟨k, z6t hne h1, (hblk k h1).trans h2⟩
          | gone => exact z6t hne hob
    · rw [kH (by simpa using hi)] at hq
      simp only [List.length_map, List.length_set] at hq
      cases hj : i - H.length with
      | zero =>
        rw [hj] at hq; simp at hq; subst hq
        have : i = H.length := by omega
        rw [this]; exact hn
      | succ m => rw [hj] at hq; simp at hq
  · intro i k hi h e
    rcases zb8 hbm h with ⟨_, h⟩ | ⟨_, h⟩
    · exact g.oko i k hi h e
    · rcases s.new k h with h | h
      · exact g.oko b k hpn h e
      · exact g.okn k e h
  · exact ⟨s.os, s.tape, s.output, s.size, fun k hk => zf7 s hbm hk, fun k hk hm => s.blocks k hk fun h => hm (kK.2 ⟨b, h⟩), rfl, rfl, fun i k hi hk => z6t (fun e => by omega) hk, s.room⟩
structure AppRun (P : Program) (t t2 e : TypeId) (sz nb m : Nat) (us : Array Value) (yv : Value) (w : World) : Prop where
 keep : ∀ (b : Option Addr) len cap ty, m = 0 -> len <= cap -> (Builtin.append_ #[t, t2] ty #[.slice b len cap, yv]).run P w = .ok (.slice b len cap) w
 room : ∀ (a : Addr) len cap w' ty, len + m <= cap -> (storeCells (a.add (len * sz)) us.toList).run P w = .ok () w' -> (Builtin.append_ #[t, t2] ty #[.slice (some a) len cap, yv]).run P w = .ok (.slice (some a) (len + m) cap) w'
 grow : ∀ (b : Option Addr) len cap (os : Array Value) ty, (∀ n, (Builtin.firstCells sz len (.slice b len cap)).run P { w with drawn := n } = .ok os { w with drawn := n }) -> ¬ len + m <= cap -> (len + m) * nb <= 2 ^ 47 ->
  ∃ rest : Array Value, ∃ ncap, len + m <= ncap /\ rest.size = (ncap - (len + m)) * sz /\ (Builtin.append_ #[t, t2] ty #[.slice b len cap, yv]).run P w = .ok (.slice (some ⟨w.heap.size, 0, none⟩) (len + m) ncap) (Go.Ab.grow { w with drawn := w.drawn + 1 } (.cells (os ++ us ++ rest) e (0, 0)))
variable {P : Program} {w : World}
theorem zum {t t2 e : TypeId} {sz nb m : Nat} {us : Array Value} {yv : Value} (ht : P.underlying t = some (.slice e)) (he : ElemT P e sz nb) (ht2 : z1t P t2 = true) (hl : (Builtin.lenOf yv).run P w = .ok m w)
  (hc : ∀ n, (Builtin.firstCells sz m yv).run P { w with drawn := n } = .ok us { w with drawn := n }) (hsz : us.size = m * sz) : AppRun P t t2 e sz nb m us yv w where
 keep := fun b len cap ty hm hr => by
  subst hm;exact z0h ht he.size ht2 hl (hc w.drawn) (by rw [hsz]; simp) hr ty
 room := fun a len cap w' ty hr hst => zgj ht he.size ht2 hl (hc w.drawn) hr hst ty
 grow := fun b len cap os ty hold hr hb => z3u ht he ht2 hl hold hc hr hb ty
theorem ztg {t t2 e : TypeId} {sz nb m : Nat} {k kn : IntKind} {z : List PV} (ht : P.underlying t = some (.slice e)) (he : ElemT P e sz nb) (ht2 : P.underlying t2 = some (.int kn)) (hz : qK P e = some z) (hzn : z.length = sz) (hm : 0 < m) (hsz : sz ≠ 0) (hmb : m * nb <= 2 ^ 47) :
  ∃ us : Array Value, us.size = m * sz /\ (∀ c, VRs w c (k0 m z).flatten (fun i => us[i]?)) /\ AppRun P t t2 e sz nb m us (.int k m) w := by
 obtain ⟨zv, z1, z2, z3⟩ := jy (w := w) hz;have hnb := he.pos;have hm63 : (m : Int) <= 9223372036854775807 := by
  have : m <= m * nb := Nat.le_mul_of_pos_right m (Nat.pos_of_ne_zero hnb);omega
 have hw : IntKind.i64.wrap (m : Int) = m := by rw [show IntKind.i64.wrap (m : Int) = ((m : Int) + 9223372036854775808) % 18446744073709551616 - 9223372036854775808 by simp [IntKind.wrap, IntKind.bits, IntKind.signed]; split <;> omega]; omega
 have hzd : ∀ n, ∃ zv', (zeroValue e).run P { w with drawn := n } = .ok zv' { w with drawn := n } /\ zv'.cells = zv.cells := fun n => by
  have hcell : ∀ w1 : World, (zeroValue e).run P w1 = .ok zv w1 := fun w1 => by
   have h1 := z1;unfold zeroValue at h1 ⊢;simp only [kB] at h1 ⊢;unfold typeInfo at h1 ⊢;cases hi : P.info? e with
   | none => simp [hi, kB, kv] at h1 ⊢
   | some i =>
    cases hzz : i.zero with
    | none => simp [hi, hzz, kB, kv] at h1 ⊢
    | some q => simp [hi, hzz, kB, kv] at h1 ⊢; exact h1
  exact ⟨zv, hcell _, rfl⟩
 have hmz : ¬ m * sz = 0 := Nat.mul_ne_zero (by omega) hsz
 obtain ⟨us, hus⟩ : ∃ us, us = Builtin.zeroCells zv.cells m := ⟨_, rfl⟩;have husz : us.size = m * sz := by rw [hus]; simp [Builtin.zeroCells, z2, hzn]
 refine ⟨us, husz, fun c => zU fun i p hp => ?_, ⟨fun b len cap ty h0 _ => by omega, fun a len cap w' ty hr hst => ?_, fun b len cap os ty hold hr hb => ?_⟩⟩
 ·have hi : i < m * sz := by
   have := (kC.1 hp).1;simpa [hzn] using this
  have hget : (k0 m z).flatten[i]? = z[i % z.length]? := by
   have hz0 : z ≠ [] := fun h => hsz (by rw [<- hzn, h]; rfl)
   clear hp;have key : ∀ (n i : Nat), i < n * z.length -> (k0 n z).flatten[i]? = z[i % z.length]? := by
    intro n
    induction n with
    | zero => intro i h; omega
    | succ n ih =>
     intro i h;rw [List.replicate_succ, List.flatten_cons];have hl : 0 < z.length := List.length_pos_iff.2 hz0
     by_cases hlt : i < z.length
     ·rw [kE hlt, Nat.mod_eq_of_lt hlt]
     ·rw [kH (by omega), ih (i - z.length) (by rw [Nat.succ_mul] at h; omega), <- Nat.mod_eq_sub_mod (by omega)]
   exact key m i (by rw [hzn]; exact hi)
  rw [hget] at hp;obtain ⟨v, h1, h2⟩ := zo (z3 c) hp;refine ⟨v, ?_, h2⟩;rw [hus];have hcell : (Builtin.zeroCells zv.cells m)[i]? = some (zv.cells[i % zv.cells.size]!) := by
   simp only [Builtin.zeroCells];rw [Array.getElem?_map, Array.getElem?_range, if_pos (by rw [z2, hzn]; exact hi)]; rfl
  have hv' : zv.cells[i % zv.cells.size]? = some v := by rw [z2]; exact h1
  rw [hcell, getElem!_def, hv']
 ·obtain ⟨i0, hi0, hib⟩ := he.info w;unfold Builtin.append_;simp only [List.getElem?_toArray, kS, List.getElem?_cons_succ];have c1 : ¬ ((m : Int) < 0) := by omega
  have c2 : ¬ ((m : Int) * (i0.bytes : Int) > 2 ^ 48) := by
   rw [hib, <- Int.natCast_mul];omega
  simp only [kB, run_underlying ht, run_sizeOf he.size, kA, run_underlying ht2, kL, if_true, asInt, asIntOf, hw, if_neg c1, hi0, if_neg c2, Int.toNat_natCast, if_pos hr, Bool.not_true, kg, if_false, if_neg hmz, z1];rw [<- hus];simp only [hst, kA]
 ·obtain ⟨i0, hi0, hib⟩ := he.info w;obtain ⟨i1, hi1, hib1⟩ := he.info { w with drawn := w.drawn + 1 };obtain ⟨zv', zd1, zd2⟩ := hzd (w.drawn + 1);refine ⟨Builtin.zeroCells zv.cells ((Question.appendCap (len + m) cap e).cut (w.tape w.drawn (.appendCap (len + m) cap e)) - (len + m)),
   (Question.appendCap (len + m) cap e).cut (w.tape w.drawn (.appendCap (len + m) cap e)), kj _ _, ?_, ?_⟩
  ·simp [Builtin.zeroCells, z2, hzn]
  ·unfold Builtin.append_;simp only [List.getElem?_toArray, kS, List.getElem?_cons_succ];have c1 : ¬ ((m : Int) < 0) := by omega
   have c2 : ¬ ((m : Int) * (i0.bytes : Int) > 2 ^ 48) := by
    rw [hib, <- Int.natCast_mul];omega
   have hlm : len + m <= (len + m) * nb := Nat.le_mul_of_pos_right _ (Nat.pos_of_ne_zero hnb);have hb1 : ¬ (((len + m : Nat) : Int) > IntKind.i64.max /\ ((true : Bool) = true \/ i0.bytes = 0)) := by
    rintro ⟨h, _⟩;have : IntKind.i64.max = 9223372036854775807 := by decide
    rw [this] at h;omega
   have hb2 : ¬ Builtin.nextslicecap (len + m) cap * i0.bytes > 2 ^ 48 := by
    have := zg6 (len + m) cap (by omega)
    have h3 : Builtin.nextslicecap (len + m) cap * i0.bytes <= 2 * (len + m) * i0.bytes := kM _ this;rw [hib] at h3 ⊢;rw [Nat.mul_assoc] at h3;omega
   have hb1' : ¬ (((len + m : Nat) : Int) > IntKind.i64.max) := fun h => hb1 ⟨h, .inl rfl⟩
   simp only [kB, run_underlying ht, run_sizeOf he.size, kA, run_underlying ht2, kL, if_true, asInt, asIntOf, hw, if_neg c1, hi0, if_neg c2, Int.toNat_natCast, if_neg hr, true_or, and_true];rw [if_neg hb1'];simp only [kB, kL, kA, hi0, if_neg hb2, run_choose, Question.forced, kg, if_false, run_askRoom, hi1, hold, Bool.not_true, if_neg hmz, zd1, zd2,
    newRow, run_newObj]
   rw [<- hus];rfl
variable {o : Oper} {σ : AS} {a : Act}
theorem zgy {K : Act -> World -> Prop} {Q : Exit -> Act -> World -> Prop} {t t2 e : TypeId} {x y : Operand} {b len m sz nb : Nat} {cs news : List PV}
  (ho : o.op = .call { callee := .builtin .append, args := #[x, y], argTypes := #[t, t2] }) (ht : P.underlying t = some (.slice e)) (he : ElemT P e sz nb)
  (hx : σ.eval x = .sl b 0 len sz) (hb : σ.H[b]? = some (.row cs e)) (hcs : cs.length = len * sz) (hnl : news.length = m * sz) (hnlf : zd news) (hsr : ∃ us : Array Value, us.size = m * sz /\ VRs w c news (fun i => us[i]?) /\ AppRun P t t2 e sz nb m us (a.eval y) w) (hbd : (len + m) * nb <= 2 ^ 47) (hr : RelC w c σ a) (hts : σ.ts = []) (hpn : c.pn <= b)
  (hK : ∀ v w' c2, Good w' c2 ((σ.H.set b .gone).map (AObj.ren (xU b)) ++ [.row (xK (xU b) (cs ++ news)) e]) [] -> VR w' c2 (.sl σ.H.length 0 (len + m) sz) v -> ExtP c.pn w c w' c2 -> Mv (xU b) w c w' c2 -> K (a.put o.dst v) w') :
  o.wp P a w K Q := by
 have g : Good w c σ.H [] := hts ▸ hr.1;have hbl : b < σ.H.length := (kC.1 hb).1;have hbm : b < c.m.length := by rw [g.len]; exact hbl
 have hv := hr.2.eval x;rw [hx] at hv;simp only [VR] at hv;obtain ⟨us, husz, husv, ar⟩ := hsr;have hml : (xH c b none).m.length = σ.H.length + 1 := by simp [xH, g.len]
 have hlast : ∀ q : Option Nat, (xH c b q).m[σ.H.length]? = some q := fun q => by rw [<- g.len]; exact zrg
 have done : ∀ (v : Value) (w' : World) (q : Option Nat), (Builtin.append_ #[t, t2] o.type #[a.eval x, a.eval y]).run P w = .ok v w' -> Swap w c w' b q ->
   ObjC w' (xH c b q) σ.H.length (.row (xK (xU b) (cs ++ news)) e) -> VR w' (xH c b q) (.sl σ.H.length 0 (len + m) sz) v -> o.wp P a w K Q := by
  intro v w' q hrun s hobj hvr;obtain ⟨g2, x2⟩ := zrf g s hbl hpn hobj;refine je (v := v) (w' := w') (qO ho ?_) (hK v w' _ g2 hvr x2 (zdu g s hbm));simp only [List.map_toArray, kq, List.map_nil, builtin, kB, hrun, kA]; rfl
 have hsz : sz ≠ 0 \/ True := .inr trivial;have growing : ∀ (ad : Option Addr) (cap : Nat), a.eval x = .slice ad len cap -> (∃ os : Array Value, (∀ n, (Builtin.firstCells sz len (.slice ad len cap)).run P { w with drawn := n } = .ok os { w with drawn := n }) /\
   os.size = len * sz /\ VRs w c cs (fun i => os[i]?)) -> zd cs -> ¬ len + m <= cap -> o.wp P a w K Q := by
  intro ad cap hxe ⟨os, hos, hosz, hosv⟩ hlf hroom;obtain ⟨rest, ncap, hn1, hn2, hrun⟩ := ar.grow ad len cap os o.type hos hroom hbd;rw [<- hxe] at hrun;have s : Swap w c (grow { w with drawn := w.drawn + 1 } (.cells (os ++ us ++ rest) e (0, 0))) b (some w.heap.size) :=
   {os := rfl, tape := rfl, output := rfl, size := by simp [grow], blocks := fun k hk _ => z00 { w with drawn := w.drawn + 1 } _ k hk,
    room := fun k vs e' fr h => ⟨vs, fr, (z00 { w with drawn := w.drawn + 1 } _ k (kG.1 h).1).trans h, rfl⟩, new := fun k h => by cases h; exact .inr (kD _) }
  have mv := zdu g s hbm;have hblk : (grow { w with drawn := w.drawn + 1 } (.cells (os ++ us ++ rest) e (0, 0))).heap[w.heap.size]? = some (.cells (os ++ us ++ rest) e (0, 0)) := z2r { w with drawn := w.drawn + 1 } _;have hall : (os ++ us ++ rest).size = ncap * sz := by
   rw [kR, kR, hosz, husz, hn2, <- kc, <- kc];congr 1; omega
  have hcat : VRs w c (cs ++ news) (fun i => (os ++ us ++ rest)[i]?) := zU fun i p hp => by
   by_cases hi : i < cs.length
   ·rw [kE hi] at hp;obtain ⟨u, hu, hr'⟩ := zo hosv hp;refine ⟨u, ?_, hr'⟩;have hlt := (kG.1 hu).1;rw [kO (by rw [kR]; omega), kO hlt]; exact hu
   ·rw [kH (by omega)] at hp
    obtain ⟨u, hu, hr'⟩ := zo husv hp;refine ⟨u, ?_, hr'⟩;have hlt := (kG.1 hu).1;rw [kO (by rw [kR]; omega), Array.getElem?_append_right (by omega), hosz, <- hcs]; exact hu
  refine done _ _ (some w.heap.size) hrun s (.inr ⟨w.heap.size, _, hlast _, ⟨(0, 0), hblk, z18 _⟩, ?_, z1r (fun p hp => (List.mem_append.1 hp).elim (hlf p) (hnlf p)), VRs.move mv _ (fun _ _ _ e => e) hcat⟩) ?_
  ·rw [z19, List.length_append, hcs, hnl, <- kc, hall]; exact kM _ hn1
  ·simp only [VR];exact .inr ⟨w.heap.size, ncap, 0, hlast _, rfl, .inr rfl, hn1, _, e, (0, 0), hblk, by rw [hall]; omega⟩
 rcases hv with ⟨⟨ad, hxe⟩, hl0⟩ | ⟨k, cap, off', hk, hxe, h0, hcap, vs0, e0, fr0, h4, h5⟩
 ·subst hl0;have hc0 : cs = [] := ki.1 (by rw [hcs]; simp)
  subst hc0
  by_cases hm : m = 0
  ·subst hm;have hn0 : news = [] := ki.1 (by rw [hnl]; simp)
   subst hn0;have hrun := ar.keep ad 0 0 o.type rfl (kD 0);rw [<- hxe] at hrun;refine done _ w none hrun ⟨rfl, rfl, rfl, kD _, fun _ _ _ => rfl, fun k vs e fr h => ⟨vs, fr, h, rfl⟩, fun k h => by cases h⟩ (.inl ⟨rfl, hlast _⟩) ?_
   rw [hxe]; simp only [VR];exact .inl ⟨⟨_, rfl⟩, trivial⟩
  ·exact growing ad 0 hxe (by obtain ⟨us, g1, g2⟩ := zai (P := P) (w := w) sz ad; exact ⟨us, g1, by rw [g2]; simp, by simp only [VRs]⟩) (fun p hp => by cases hp) (by omega)
 ·have hoff : off' = 0 := h0.resolve_left (fun h => h.2 rfl)
  subst hoff;obtain ⟨vs, fr, h6, hf, h7, h8, h9⟩ := (g.obj b _ hb).row hk;rw [h6] at h4; cases h4
  by_cases hroom : len + m <= cap
  ·have hmul : (len + m) * sz <= cap * sz := kM _ hroom;rw [kc] at hmul;have hone : ∀ u, u ∈ us.toList -> u.oneCell' = true := fun u hu => by
    obtain ⟨i, hi⟩ := kK.1 hu;have hlt : i < news.length := by
     have := (kC.1 hi).1;simp at this; omega
    obtain ⟨u', hu', hr'⟩ := zo husv (List.getElem?_eq_getElem hlt);have : us[i]? = some u := by simpa using hi
    rw [this] at hu'; cases hu';exact zan (hnlf _ (List.getElem_mem hlt)) hr'
   obtain ⟨w', vs', f1, f2, f3, f4, f5, f6, f7, f8, f9⟩ := z3v (P := P) us.toList (off := len * sz) (i := 0) h6 hf (by simp [husz]; omega) hone
   have hrun := ar.room ⟨k, 0, none⟩ len cap w' o.type hroom (by rw [xz, ku]; exact f1)
   rw [<- hxe] at hrun;have s : Swap w c w' b (some k) :=
    {os := f7, tape := f8, output := f9, size := kx f6.symm, blocks := fun k' _ hne => f5 k' (fun e => hne (e ▸ hk)),
     room := fun k' vs2 e2 fr2 h => by
      by_cases hkk : k' = k
      ·subst hkk; rw [h6] at h; cases h; exact ⟨vs', _, f2, f3⟩
      ·exact ⟨vs2, fr2, (f5 k' hkk).trans h, rfl⟩
     new := fun k' h => by cases h; exact .inl hk }
   have mv := zdu g s hbm;have hcat : VRs w c (cs ++ news) (fun i => vs'[i]?) := zU fun i p hp => by
    show ∃ v, vs'[i]? = some v /\ _;rw [f4 i];simp only [km, Array.length_toList, husz]
    by_cases hi : i < cs.length
    ·rw [kE hi] at hp;rw [if_neg (by omega)]
     exact zo h9 hp
    ·rw [kH (by omega)] at hp
     have hlt := (kC.1 hp).1;rw [if_pos (by omega)]
     obtain ⟨u, hu, hr'⟩ := zo husv hp;exact ⟨u, by rw [<- hcs]; simpa using hu, hr'⟩
   refine done _ w' (some k) hrun s (.inr ⟨k, vs', hlast _, ⟨_, f2, by rw [f3]; exact hf⟩, ?_, z1r (fun p hp => (List.mem_append.1 hp).elim (h8 p) (hnlf p)), VRs.move mv _ (fun _ _ _ e => e) hcat⟩) ?_
   ·rw [z19, List.length_append, hcs, hnl, f3]; omega
   ·simp only [VR];exact .inr ⟨k, cap, 0, hlast _, rfl, .inr rfl, hroom, vs', _, _, f2, by rw [f3]; exact h5⟩
  ·refine growing (some ⟨k, 0, none⟩) cap hxe ?_ h8 hroom;obtain ⟨os, g1, g2, g3⟩ := z9x (P := P) (w := w) (c := c) (a := ⟨k, 0, none⟩) cs (zU fun i p hp => by
    rw [xz, vU h6, ku]; exact zo h9 hp)
   refine ⟨os, fun n => ?_, by rw [g2, hcs], g3⟩
   show (loadCells ⟨k, 0, none⟩ (len * sz)).run P _ = _;rw [<- hcs]; exact g1 n
theorem zpe {K : Act -> World -> Prop} {Q : Exit -> Act -> World -> Prop} {t t2 e : TypeId} {x y : Operand} {b len m sz nb : Nat} {cs news : List PV}
  (ho : o.op = .call { callee := .builtin .append, args := #[x, y], argTypes := #[t, t2] }) (ht : P.underlying t = some (.slice e)) (he : ElemT P e sz nb) (ht2 : z1t P t2 = true)
  (hx : σ.eval x = .sl b 0 len sz) (hb : σ.H[b]? = some (.row cs e)) (hcs : cs.length = len * sz) (hsrc : zj9 P σ y m sz news) (hbd : (len + m) * nb <= 2 ^ 47) (hr : RelC w c σ a) (hts : σ.ts = []) (hpn : c.pn <= b)
  (hK : ∀ v w' c2, Good w' c2 ((σ.H.set b .gone).map (AObj.ren (xU b)) ++ [.row (xK (xU b) (cs ++ news)) e]) [] -> VR w' c2 (.sl σ.H.length 0 (len + m) sz) v -> ExtP c.pn w c w' c2 -> Mv (xU b) w c w' c2 -> K (a.put o.dst v) w') :
  o.wp P a w K Q := by
 obtain ⟨hnl, hnlf, hsr⟩ := hsrc;obtain ⟨hlen, us, hus, husz, husv⟩ := hsr w c a hr;exact zgy ho ht he hx hb hcs hnl hnlf ⟨us, husz, husv, zum ht he ht2 hlen hus husz⟩ hbd hr hts hpn hK
def NewObj (P : Program) (o : Oper) (σ : AS) (cs : List PV) (e : TypeId) (pf : Nat -> PV) : Prop :=
 zd cs /\ ∀ w c (a : Act), RelC w c σ a -> ∃ (v : Value) (d : Nat),
  (∃ (vs : Array Value) (fr : Nat × Nat), (execOp a.eval o).run P w = .ok (.value v) (grow { w with drawn := d } (.cells vs e fr)) /\ nofz fr vs.size /\ cs.length <= vs.size /\ VRs w c cs (fun i => vs[i]?) /\
   ∀ (w' : World) (c' : Cx) (b : Nat), w'.heap[w.heap.size]? = some (.cells vs e fr) -> c'.m[b]? = some (some w.heap.size) -> VR w' c' (pf b) v) \/
  (cs = [] /\ (execOp a.eval o).run P w = .ok (.value v) { w with drawn := d } /\ ∀ (w' : World) (c' : Cx) (b : Nat), c'.m[b]? = some none -> VR w' c' (pf b) v)
theorem zt2 {H : List AObj} {ts : List Bool} (g : Good w c H ts) (e : TypeId) : Good w { c with m := c.m ++ [none] } (H ++ [.row [] e]) ts /\ Ext w c w { c with m := c.m ++ [none] } := by
 obtain ⟨g1, x1⟩ := zi6 g 1;refine ⟨{ g1 with len := by simpa using g1.len, obj := fun i o h => ?_ }, x1⟩
 by_cases hi : i < H.length
 ·rw [kE hi] at h;exact g1.obj i o (by rw [kE hi]; exact h)
 ·rw [kH (by omega)] at h
  cases hj : i - H.length with
  | zero =>
   rw [hj] at h;simp at h;subst h;exact .inl ⟨rfl, by
    have := g1.obj i .gone (by rw [kH (by omega), hj]; rfl)
    exact this⟩
  | succ n => rw [hj] at h; simp at h
theorem zt7 {cs : List PV} {e : TypeId} {pf : Nat -> PV} {N : AS -> Prop} (h : NewObj P o σ cs e pf)
  (hN : N { σ.put o.dst (pf σ.H.length) with H := σ.H ++ [.row cs e] }) : Step P o σ N := by
 intro c a w K Q hr hK;obtain ⟨hlf, h⟩ := h;have put : ∀ (w' : World) (c' : Cx) (v : Value), Good w' c' (σ.H ++ [.row cs e]) σ.ts -> Ext w c w' c' -> VR w' c' (pf σ.H.length) v -> RelC w' c' { σ.put o.dst (pf σ.H.length) with H := σ.H ++ [.row cs e] } (a.put o.dst v) := by
  intro w' c' v g x hv;have hs := (hr.2.ext x).put o.dst hv;cases hd : o.dst with
  | none => rw [hd] at hs; exact ⟨g, hs⟩
  | some d => rw [hd] at hs; exact ⟨g, hs⟩
 rcases h w c a hr with ⟨v, d, ⟨vs, fr, h1, h2, h3, h4, h5⟩ | ⟨rfl, h1, h2⟩⟩
 ·have hq := z1p hr.1 d;obtain ⟨g, x⟩ := zpk (e := e) (fr := fr) hq.1 h3 h2 hlf (VRs.ext hq.2 cs (fun _ _ _ e => e) h4)
  have x2 := hq.2.trans x;refine je h1 (hK _ _ _ _ hN (put _ _ _ g x2 (h5 _ _ _ (z2r { w with drawn := d } _) ?_)) x2 (Act.put_defers' _ _ _));rw [<- hr.1.len]; simp
 ·have hq := z1p hr.1 d;obtain ⟨g, x⟩ := zt2 hq.1 e;have x2 := hq.2.trans x;refine je h1 (hK _ _ _ _ hN (put _ _ _ g x2 (h2 _ _ _ ?_)) x2 (Act.put_defers' _ _ _));rw [<- hr.1.len]; simp
theorem zsh {t e : TypeId} {x y : Operand} {k k' : IntKind} {n : Int} {nb sz : Nat} {z : List PV} (ho : o.op = .makeSlice t x y) (ht : P.underlying t = some (.slice e))
  (he : ElemT P e sz nb) (hz : qK P e = some z) (hzn : z.length = sz) (hzl : zd z) (hsz : sz ≠ 0) (hx : σ.eval x = .val (.int k n)) (hy : σ.eval y = .val (.int k' n)) (h0 : 0 <= n) (h1 : nb * n <= 2 ^ 48) (h2 : n <= 9223372036854775807) :
  NewObj P o σ (k0 n.toNat z).flatten e (fun b => .sl b 0 n.toNat sz) := by
 have hlf : zd (k0 n.toNat z).flatten := fun p hp => by
  simp only [List.mem_flatten] at hp;obtain ⟨l, hl, hp⟩ := hp;rw [List.eq_of_mem_replicate hl] at hp;exact hzl p hp
 refine ⟨hlf, fun w c a hr => ?_⟩
 have ex := zm hr.2 hx;have ey := zm hr.2 hy;obtain ⟨zv, z1, z2, z3⟩ := jy (w := w) hz;obtain ⟨i0, hi0, hib⟩ := he.info w;have hw : IntKind.i64.wrap n = n := by rw [show IntKind.i64.wrap n = (n + 9223372036854775808) % 18446744073709551616 - 9223372036854775808 by simp [IntKind.wrap, IntKind.bits, IntKind.signed]; split <;> omega]; omega
 let cells : Array Value := (Array.range (n.toNat * sz)).map fun i => (if n.toNat * sz = 0 then #[] else zv.cells)[i % (if n.toNat * sz = 0 then #[] else zv.cells).size]!
 have hcs : cells.size = n.toNat * sz := by simp [cells]
 have hz0 : z ≠ [] := fun h => hsz (by rw [<- hzn, h]; rfl)
 have hvr : VRs w c (k0 n.toNat z).flatten (fun i => cells[i]?) := zU fun i p hp => by
  have hi : i < n.toNat * sz := by
   have := (kC.1 hp).1;rw [z2a, hzn] at this; exact this
  have hne : ¬ n.toNat * sz = 0 := by omega
  rw [zf3 hz0 _ _ (by rw [hzn]; exact hi)] at hp
  obtain ⟨v, hv, hr'⟩ := zo (z3 c) hp;have hlt : i % z.length < zv.cells.size := by rw [z2]; exact (kC.1 hp).1
  refine ⟨v, ?_, hr'⟩;have hcell : cells[i]? = some (zv.cells[i % zv.cells.size]!) := by
   simp only [cells, if_neg hne];rw [Array.getElem?_map, Array.getElem?_range, if_pos hi]; rfl
  have hv' : zv.cells[i % zv.cells.size]? = some v := by rw [z2]; exact hv
  rw [hcell, getElem!_def, hv']
 have hrun : (execOp a.eval o).run P w = .ok (.value (.slice (some ⟨w.heap.size, 0, none⟩) n.toNat n.toNat)) (grow w (.cells cells e (0, 0))) := by
  simp only [execOp, ho, Instr.makeSlice, kB, run_underlying ht, kA, asInt, asIntOf, ex, ey, kL, hi0, hw, hib];have hno' : (decide (n < 0) || decide ((nb : Int) * n > 2 ^ 48) || decide (n < 0) || decide (n > n)) = false := by
   simp; omega
  simp only [hno', kg, if_false]
  by_cases hn : n.toNat * sz = 0
  ·simp only [run_askRoom, run_sizeOf he.size, kB, kL, kA, if_pos hn, newRow, run_newObj, cells];rfl
  ·simp only [run_askRoom, run_sizeOf he.size, kB, kL, kA, if_neg hn, z1, newRow, run_newObj, cells];rfl
 refine ⟨_, w.drawn, .inl ⟨cells, (0, 0), hrun, z18 _, by rw [hcs, z2a, hzn]; exact kD _, hvr, fun w' c' b hb hm => ?_⟩⟩
 simp only [VR];exact .inr ⟨w.heap.size, n.toNat, 0, hm, rfl, .inr rfl, kD _, cells, e, (0, 0), hb, by rw [hcs]; omega⟩
variable {v : Value}
theorem zmn {m : Nat} {cs : List PV} {tl : Tail} (h : VR w c (.tr m cs tl) v) : ∃ ad cap, v = .slice ad m cap := by
 simp only [VR] at h;rcases h with ⟨h1, h2, _⟩ | ⟨ad, cap, h1, _⟩
 ·exact ⟨none, 0, by rw [h1, h2]⟩
 ·exact ⟨_, _, h1⟩
theorem zef {b off m sz : Nat} (h : VR w c (.sl b off m sz) v) : ∃ ad cap, v = .slice ad m cap := by
 simp only [VR] at h;rcases h with ⟨⟨ad, h1⟩, h2⟩ | ⟨k, cap, off', _, h1, _⟩
 ·exact ⟨ad, 0, by rw [h1, h2]⟩
 ·exact ⟨_, _, h1⟩
theorem zoj {t t2 e : TypeId} {x y : Operand} {m sz nb : Nat} {news : List PV}
  (ho : o.op = .call { callee := .builtin .append, args := #[x, y], argTypes := #[t, t2] }) (ht : P.underlying t = some (.slice e)) (he : ElemT P e sz nb) (ht2 : z1t P t2 = true)
  (hx : σ.eval x = .tr 0 [] .full) (hsrc : zj9 P σ y m sz news) (hb : m * nb <= 2 ^ 47) : NewObj P o σ news e (fun b => .sl b 0 m sz) := by
 obtain ⟨hnl, hnlf, hsr⟩ := hsrc;refine ⟨hnlf, fun w c a hr => ?_⟩
 obtain ⟨hlen, us, hus, husz, husv⟩ := hsr w c a hr;have hv := hr.2.eval x;rw [hx] at hv;have hsl : ∃ ad, a.eval x = .slice ad 0 0 := by
  simp only [VR] at hv;rcases hv with ⟨h1, _⟩ | ⟨ad, cap, h1, _, _, htl, _⟩
  ·exact ⟨none, h1⟩
  ·have : cap = 0 := htl;exact ⟨_, by rw [h1, this]⟩
 obtain ⟨ad, hxe⟩ := hsl;have run : ∀ {v w'}, (Builtin.append_ #[t, t2] o.type #[a.eval x, a.eval y]).run P w = .ok v w' -> (execOp a.eval o).run P w = .ok (.value v) w' := fun {v w'} hrun => qO ho (by
  simp only [List.map_toArray, kq, List.map_nil, builtin, kB, hrun, kA]; rfl)
 by_cases hm : m = 0
 ·subst hm;have hn0 : news = [] := kZ (by rw [hnl]; simp)
  subst hn0;have hrun := z0h (P := P) (w := w) (t := t) (t2 := t2) (b := ad) (len := 0) (cap := 0) ht he.size ht2 hlen (hus w.drawn) (by rw [husz]; simp) (kD _) o.type
  rw [<- hxe] at hrun;refine ⟨_, w.drawn, .inr ⟨rfl, run hrun, fun w' c' b _ => ?_⟩⟩
  rw [hxe]; simp only [VR]; exact .inl ⟨⟨_, rfl⟩, trivial⟩
 ·obtain ⟨us0, g1, g2⟩ := zai (P := P) (w := w) sz ad;obtain ⟨rest, ncap, hn1, hn2, hrun⟩ := z3u (P := P) (t := t) (t2 := t2) (b := ad) (len := 0) (cap := 0) ht he ht2 hlen g1 hus (by omega) (by rw [ku]; exact hb) o.type
  rw [<- hxe] at hrun;have hu0 : us0 = #[] := Array.eq_empty_of_size_eq_zero g2;subst hu0;rw [ku] at hrun hn1 hn2;have hall : (#[] ++ us ++ rest).size = ncap * sz := by
   rw [kR, kR, husz, hn2, Nat.sub_mul];have : m * sz <= ncap * sz := kM _ hn1;simp; omega
  refine ⟨_, w.drawn + 1, .inl ⟨_, (0, 0), run hrun, z18 _, ?_, zU fun i p hp => ?_, fun w' c' b hb' hm' => ?_⟩⟩
  ·rw [hnl, hall]; exact kM _ hn1
  ·obtain ⟨u, hu, hr'⟩ := zo husv hp;refine ⟨u, ?_, hr'⟩;have hlt := (kG.1 hu).1;show (#[] ++ us ++ rest)[i]? = some u;rw [Array.empty_append, kO hlt]; exact hu
  ·simp only [VR];exact .inr ⟨w.heap.size, ncap, 0, hm', rfl, .inr rfl, hn1, _, e, (0, 0), hb', by rw [hall]; omega⟩
variable {x : Operand}
theorem zqe {s t e : TypeId} {b : ByteArray} (ho : o.op = .convert s t x) (hs : P.underlying s = some .string) (ht : P.underlying t = some (.slice e)) (he : P.underlying e = some (.int .u8))
  (hx : σ.eval x = .val (.string b)) : NewObj P o σ (b.data.toList.map fun c => .val (.int .u8 c.toNat)) e (fun i => .sl i 0 b.size 1) := by
 refine ⟨fun p hp => ?_, fun w c a hr => ?_⟩
 ·simp at hp; obtain ⟨c, _, rfl⟩ := hp; rfl
 ·have ex := zm hr.2 hx;have hrun := run_bytes_of_string (P := P) w s t e b hs ht he;have hcap : b.size <= grownCap w b.size 0 e := by unfold grownCap; exact kj _ _
  have hsz : (bytesRow b (grownCap w b.size 0 e)).size = grownCap w b.size 0 e := by
   have : b.data.size = b.size := rfl;simp only [bytesRow, kR, Array.size_map, Array.size_replicate, this]; omega
  refine ⟨.slice (some ⟨w.heap.size, 0, none⟩) b.size (grownCap w b.size 0 e), w.drawn + 1, .inl ⟨bytesRow b (grownCap w b.size 0 e), ((bytesRow b (grownCap w b.size 0 e)).size, (bytesRow b (grownCap w b.size 0 e)).size + 1), ?_, .inr (kD _), ?_, zU fun i p hp => ?_, fun w' c' i hb hm => ?_⟩⟩
  ·simp only [execOp, ho, ex, kB, hrun, kA, kL]; rfl
  ·have : b.data.size = b.size := rfl;rw [hsz]; simp [this]; exact hcap
  ·rw [kU] at hp;cases hc : b.data.toList[i]? with
   | none => rw [hc] at hp; cases hp
   | some c =>
    rw [hc] at hp; simp at hp; subst hp;have hc' : b.data[i]? = some c := by simpa using hc
    have hlt := (kG.1 hc').1;refine ⟨.int .u8 c.toNat, ?_, yH rfl⟩;simp only [bytesRow];rw [kO (by simpa using hlt)]
    simp [hc']
  ·simp only [VR];exact .inr ⟨w.heap.size, grownCap w b.size 0 e, 0, hm, rfl, .inr rfl, hcap, _, e, _, hb, by rw [hsz]; omega⟩
def z88 : PV -> Bool
 | .ptr _ _ | .fz _ => true
 | _ => false
variable {p : PV}
theorem zqp (h : z88 p = true) (hv : VR w c p v) : ∃ a, v = .pointer (some a) := by
 cases p <;> first | (cases h; done) | skip
 ·simp only [VR] at hv; obtain ⟨k, _, rfl⟩ := hv; exact ⟨_, rfl⟩
 ·simp only [VR] at hv; obtain ⟨a, rfl, _⟩ := hv; exact ⟨_, rfl⟩
theorem zr5 {t e : TypeId} {a b : Option Addr} (ht : P.underlying t = some (.pointer e)) (h : a = none \/ b = none) : (Op.equal t (.pointer a) (.pointer b)).run P w = .ok (a.isNone && b.isNone) w := by
 show (Op.equalIn (9999 + 1) t _ _).run P w = _;unfold Op.equalIn;rw [kB, run_underlying ht];cases a <;> cases b <;> first | rfl | (rcases h with h | h <;> cases h)
theorem zn8 {t yt e : TypeId} {x y : Operand} {op : BinOp} {p q : PV} {r : Bool} (ho : o.op = .binOp op t x y yt) (hop : op = .eql \/ op = .neq) (ht : P.underlying t = some (.pointer e)) (hx : σ.eval x = p) (hy : σ.eval y = q)
  (hr : (z88 p = true /\ q = .val (.pointer none) /\ r = false) \/ (p = .val (.pointer none) /\ z88 q = true /\ r = false) \/ (p = .val (.pointer none) /\ q = .val (.pointer none) /\ r = true)) :
  QStep P o σ (.val (.bool (match op with | .neq => !r | _ => r))) :=
 zP fun w c act hrel => by
  have hvx := hrel.2.eval x;have hvy := hrel.2.eval y;rw [hx] at hvx; rw [hy] at hvy;have key : ∃ a b, act.eval x = .pointer a /\ act.eval y = .pointer b /\ (a = none \/ b = none) /\ (a.isNone && b.isNone) = r := by
   rcases hr with ⟨h1, rfl, rfl⟩ | ⟨rfl, h1, rfl⟩ | ⟨rfl, rfl, rfl⟩
   ·obtain ⟨a, ha⟩ := zqp h1 hvx;rw [qP] at hvy;exact ⟨some a, none, ha, hvy.1, .inr rfl, rfl⟩
   ·obtain ⟨a, ha⟩ := zqp h1 hvy;rw [qP] at hvx;exact ⟨none, some a, hvx.1, ha, .inl rfl, rfl⟩
   ·rw [qP] at hvx hvy;exact ⟨none, none, hvx.1, hvy.1, .inl rfl, rfl⟩
  obtain ⟨a, b, e1, e2, h1, h2⟩ := key;have he := zr5 (P := P) (w := w) ht h1;rw [h2] at he;refine ⟨.bool (match op with | .neq => !r | _ => r), ?_, yH rfl⟩
  rcases hop with rfl | rfl
  ·simp only [execOp, ho, e1, e2, kB, xw (P := P) (w := w) (op := .eql) (t := t) (x := x) (y := y) (a := .pointer a) (b := .pointer b) (by simp) (by simp), kA]
   rw [show binOp .eql t (.pointer a) (.pointer b) = (do pure (.bool (<- Op.equal t (.pointer a) (.pointer b)))) from rfl, kB, he]; rfl
  ·simp only [execOp, ho, e1, e2, kB, xw (P := P) (w := w) (op := .neq) (t := t) (x := x) (y := y) (a := .pointer a) (b := .pointer b) (by simp) (by simp), kA]
   rw [show binOp .neq t (.pointer a) (.pointer b) = (do pure (.bool (!(<- Op.equal t (.pointer a) (.pointer b))))) from rfl, kB, he]; rfl
theorem zfq : ∀ (l : List Int) (r : ByteArray), l.foldl (fun r n => r.push (UInt8.ofNat n.toNat)) r = ⟨r.data ++ (l.map fun n => UInt8.ofNat n.toNat).toArray⟩
 | [], r => by simp
 | n :: l, r => by
  simp only [List.foldl_cons];rw [zfq l];simp [ByteArray.push]
theorem zv9 {s t e : TypeId} {l : List Int} (ho : o.op = .convert s t x) (hs : P.underlying s = some (.slice e)) (he : P.underlying e = some (.int .u8)) (ht : P.underlying t = some .string)
  (hx : SrcN P σ x l.length 1 (l.map fun n => .val (.int .u8 n))) (hsl : ∀ w c (a : Act), RelC w c σ a -> ∃ ad cap, a.eval x = .slice ad l.length cap) :
  QStep P o σ (.val (.string ⟨(l.map fun n => UInt8.ofNat n.toNat).toArray⟩)) :=
 zP fun w c a hr => by
  obtain ⟨hn, _, h⟩ := hx;obtain ⟨_, h2⟩ := h w c a hr;obtain ⟨us, h3, h4, h5⟩ := h2 l.length (kD _);obtain ⟨ad, cap, hxe⟩ := hsl w c a hr;have h3 := h3 w.drawn;rw [hxe] at h3;refine ⟨.string ⟨(l.map fun n => UInt8.ofNat n.toNat).toArray⟩, ?_, yH rfl⟩
  have hconv : (convert s t (a.eval x)).run P w = .ok (.string ⟨(l.map fun n => UInt8.ofNat n.toNat).toArray⟩) w := by
   rw [hxe, run_convert_bytes_string w s t e ad _ cap hs he ht];cases ad with
   | none =>
    have hus : us = #[] := by
     have : (Builtin.firstCells 1 l.length (.slice none l.length cap)).run P w = .ok #[] w := rfl;rw [this] at h3; cases h3; rfl
    have hl0 : l = [] := by rw [hus] at h4; exact ki.1 (by simpa using h4.symm)
    subst hl0;rfl
   | some ad =>
    have hload : (loadCells ad l.length).run P w = .ok us w := by
     have : (Builtin.firstCells 1 l.length (.slice (some ad) l.length cap)).run P w = (loadCells ad (l.length * 1)).run P w := rfl;rw [this, Nat.mul_one] at h3; exact h3
    have hus : us = (l.map (Value.int .u8)).toArray := by
     apply Array.ext';apply List.ext_getElem?;intro i;rw [List.toList_toArray, kU, Array.getElem?_toList];cases hi : l[i]? with
     | none =>
      have : us[i]? = none := by
       rw [Array.getElem?_eq_none];have := List.getElem?_eq_none_iff.1 hi;omega
      rw [this]; rfl
     | some n =>
      rw [List.take_of_length_le (by simp)] at h5
      obtain ⟨v, hv, hr'⟩ := zo h5 (i := i) (p := .val (.int .u8 n)) (by rw [kU, hi]; rfl)
      rw [hv];rw [qP] at hr';rw [hr'.1]; rfl
    rw [run_bytesToString w ad l.length cap l (by rw [hload, hus]), zfq]
    have he0 : ByteArray.empty.data = #[] := rfl;rw [he0];simp
  simp only [execOp, ho, kB, hconv, kA, kL]
theorem z53 (hr : RelC w c σ a) {lo : Option Operand} {hi mx : Operand} {b : Bool} {len cap l h m : Nat} (hl : zH σ lo 0 l) (hh : zH σ (some hi) len h) (hm : zH σ (some mx) cap m) (h1 : l <= h) (h2 : h <= m) (h3 : m <= cap) :
  (Instr.sliceBounds b len cap (lo.map a.eval) (some (a.eval hi)) (some (a.eval mx))).run P w = .ok (l, h, m) w := by
 unfold Instr.sliceBounds;obtain ⟨k', i', e', h0', rfl⟩ := hh;obtain ⟨k2, i2, e2, h02, rfl⟩ := hm;have ev' := zm hr.2 e';have ev2 := zm hr.2 e2;cases lo with
 | none =>
  simp only [zH] at hl; subst hl;simp [ev', ev2, vn h02 h3, vn h0' h2]
 | some y =>
  obtain ⟨k, i, e, h0, rfl⟩ := hl;have ev := zm hr.2 e;simp [ev, ev', ev2, vn h02 h3, vn h0' h2, vn h0 h1]
theorem zov {t e : TypeId} {lo : Option Operand} {hi mx : Operand} {len sz l h : Nat} {cs : List PV} {tl : Tail} (ho : o.op = .slice t x lo (some hi) (some mx)) (ht : P.underlying t = some (.slice e)) (hs : ye P e = some sz)
  (hx : σ.eval x = .tr len cs tl) (hcs : cs.length = len * sz) (hl : zH σ lo 0 l) (hh : zH σ (some hi) len h) (hm : zH σ (some mx) len h) (h1 : l <= h) (h2 : h <= len) : QStep P o σ (.tr (h - l) ((cs.drop (l * sz)).take ((h - l) * sz)) .full) :=
 zP fun w c a hr => by
  have hv := hr.2.eval x;rw [hx] at hv;simp only [VR] at hv;rcases hv with ⟨hxe, hl0, hc0, hnt⟩ | ⟨ad, cap, hxe, hcap, hft, htail, hlf, hcells⟩
  ·subst hl0; subst hc0;have e1 : h = 0 := by omega
   have e2 : l = 0 := by omega
   subst e1; subst e2;refine ⟨.slice none 0 0, ?_, ?_⟩
   ·simp only [execOp, ho, hxe, Instr.sliceAt, Instr.slice, kB, run_underlying ht, kA, kJ, z53 hr hl hh hm (kD 0) (kD 0) (kD 0), run_sizeOf hs];rfl
   ·simp only [VR]; exact .inl ⟨by simp, by simp, by simp, rfl⟩
  ·have hm' : zH σ (some mx) cap h := hm;refine ⟨.slice (if h = l then some ad else (some ad).map (·.add (l * sz))) (h - l) (h - l), ?_, ?_⟩
   ·simp only [execOp, ho, hxe, Instr.sliceAt, Instr.slice, kB, run_underlying ht, kA, kJ, z53 hr hl hh hm' h1 (kD _) (show h <= cap by omega), run_sizeOf hs]
    rfl
   ·by_cases hcl : h = l
    ·simp only [VR];rw [if_pos hcl];refine .inr ⟨ad, h - l, rfl, kD _, .inl (by simp [hcl]), rfl, ?_, ?_⟩
     ·intro q hq; simp [hcl] at hq
     ·rw [hcl, ky, kz, List.take_zero]; simp only [VRs]
    ·rw [if_neg hcl];have hmul : l * sz + (h - l) * sz <= len * sz := by rw [<- kc]; exact kM _ (by omega)
     have hfz := z3f hr.1 hft hlf hcells (l * sz);simp only [VR] at hfz;obtain ⟨a', e1, f1, f2, f3⟩ := hfz;simp only [Value.pointer.injEq, Option.some.injEq] at e1;subst e1;simp only [VR, kJ];refine .inr ⟨ad.add (l * sz), h - l, rfl, kD _, ?_, rfl, fun q hq => f2 q (List.mem_of_mem_take hq), za7 f3 _⟩
     have := hft.le hr.1 (m := (h - l) * sz) (l * sz) (by omega)
     have hlen : ((cs.drop (l * sz)).take ((h - l) * sz)).length = (h - l) * sz := by simp; omega
     rw [hlen]; exact this
theorem zot {t e : TypeId} {lo : Option Operand} {hi mx : Operand} {b off len sz l h : Nat} (ho : o.op = .slice t x lo (some hi) (some mx)) (ht : P.underlying t = some (.slice e)) (hs : ye P e = some sz) (hz : sz ≠ 0)
  (hx : σ.eval x = .sl b off len sz) (hl : zH σ lo 0 l) (hh : zH σ (some hi) len h) (hm : zH σ (some mx) len h) (h1 : l <= h) (h2 : h <= len) : QStep P o σ (.sl b (off + l * sz) (h - l) sz) :=
 zP fun w c a hr => by
  have hv := hr.2.eval x;rw [hx] at hv;simp only [VR] at hv;rcases hv with ⟨⟨ad, hxe⟩, hl0⟩ | ⟨k, cap, off', hk, hxe, h0, hcap, vs, el, fr, h4, h5⟩
  ·subst hl0;have e1 : h = 0 := by omega
   have e2 : l = 0 := by omega
   subst e1; subst e2;refine ⟨.slice (if True then ad else Option.map (fun x => x.add (0 * sz)) ad) 0 0, ?_, ?_⟩
   ·simp only [execOp, ho, hxe, Instr.sliceAt, Instr.slice, kB, run_underlying ht, kA, kJ, z53 hr hl hh hm (kD 0) (kD 0) (kD 0), run_sizeOf hs];rfl
   ·simp only [VR]; exact .inl ⟨⟨_, rfl⟩, by simp⟩
  ·have hm' : zH σ (some mx) cap h := hm;refine ⟨.slice (if h = l then some ⟨k, off', none⟩ else (some (⟨k, off', none⟩ : Addr)).map (·.add (l * sz))) (h - l) (h - l), ?_, ?_⟩
   ·simp only [execOp, ho, hxe, Instr.sliceAt, Instr.slice, kB, run_underlying ht, kA, kJ, z53 hr hl hh hm' h1 (kD _) (show h <= cap by omega), run_sizeOf hs]
    rfl
   ·simp only [VR]
    by_cases hcl : h = l
    ·rw [if_pos hcl];refine .inr ⟨k, h - l, off', hk, rfl, ?_, kD _, vs, el, fr, h4, ?_⟩
     ·by_cases hlz : l = 0
      ·subst hlz;rcases h0 with ⟨h6, h7⟩ | h6
       ·exact .inl ⟨by omega, by omega⟩
       ·exact .inr (by omega)
      ·have : 0 < l * sz := Nat.mul_pos (by omega) (by omega)
       exact .inl ⟨by omega, by omega⟩
     ·rw [hcl, ky, kz]; omega
    ·rw [if_neg hcl];simp only [kJ, xz];have hm2 : l * sz + (h - l) * sz = h * sz := by rw [<- kc]; congr 1; omega
     have hm3 : h * sz <= cap * sz := kM _ (by omega)
     refine .inr ⟨k, h - l, off' + l * sz, hk, rfl, ?_, kD _, vs, el, fr, h4, by omega⟩
     rcases h0 with ⟨h6, h7⟩ | h6
     ·exact .inl ⟨by omega, by omega⟩
     ·exact .inr (by omega)
def z17 : List Nat -> Nat -> Bool
 | [], _ => false
 | a :: l, b => kh a b || z17 l b
theorem zex : ∀ {l : List Nat} {b : Nat}, z17 l b = true ↔ b ∈ l
 | [], b => by simp [z17]
 | a :: l, b => by
  simp only [z17, ke, zex (l := l), kw];exact ⟨fun h => h.elim (fun e => .inl (kT e).symm) .inr, fun h => h.elim (fun e => .inl (by rw [e]; exact kt _)) .inr⟩
theorem zu6 {t : TypeId} (ho : o.op = .box t x) (hx : σ.eval x = p) (hs : z7r p = true) (hl : zd (cellsOf p)) : NewObj P o σ (cellsOf p) t (fun b => .ptr b 0) := by
 refine ⟨hl, fun w c a hr => ?_⟩
 have hv := hr.2.eval x;rw [hx] at hv;obtain ⟨h1, h2, h3⟩ := zby hs hv;refine ⟨.pointer (some ⟨w.heap.size, 0, none⟩), w.drawn, .inl ⟨(a.eval x).cells, (0, 0), ?_, z18 _, kx h1.symm, h3, fun w' c' b _ hm => by simp only [VR]; exact ⟨w.heap.size, hm, rfl⟩⟩⟩
 simp only [execOp, ho, Instr.box, newVar, newRow, kB, run_newObj, kA, kL]; rfl
theorem zqd {t : TypeId} {z cs : List PV} (ho : o.op = .alloc t) (hz : qK P t = some z) (hn : z.length = cs.length) (hl : zd cs) (hc : ∀ w c (f : Nat -> Option Value), (∃ H ts, Good w c H ts) -> VRs w c z f -> VRs w c cs f) : NewObj P o σ cs t (fun b => .ptr b 0) := by
 refine ⟨hl, fun w c a hr => ?_⟩
 obtain ⟨zv, h1, h2, h3⟩ := jy (w := w) hz;refine ⟨.pointer (some ⟨w.heap.size, 0, none⟩), w.drawn, .inl ⟨zv.cells, (0, 0), ?_, z18 _, by rw [<- hn]; exact kx h2.symm, hc w c _ ⟨_, _, hr.1⟩ (h3 c), fun w' c' b _ hm => by simp only [VR]; exact ⟨w.heap.size, hm, rfl⟩⟩⟩
 simp only [execOp, ho, Instr.alloc, newVar, newRow, kB, h1, run_newObj, kA, kL]; rfl
theorem zuh {H : List AObj} {ts : List Bool} (g : Good w c H ts) (hb : H[b]? = some .gone) (e : TypeId) : Good w c (H.set b (.row [] e)) ts /\ c.m[b]? = some none := by
 have hbn : c.m[b]? = some none := g.obj b _ hb;refine ⟨{ g with len := by simpa using g.len, obj := fun i o h => ?_ }, hbn⟩
 by_cases hi : b = i
 ·subst hi;rw [kY (kC.1 hb).1] at h;cases h;exact .inl ⟨rfl, hbn⟩
 ·rw [kI hi] at h;exact g.obj i o h
def StoreStep (P : Program) (o : Oper) (σ : AS) (b : Nat) (cs : List PV) (e : TypeId) : Prop :=
 ∀ c a w (K : Act -> World -> Prop) Q, RelC w c σ a -> (∀ w', Good w' c (σ.H.set b (.row cs e)) σ.ts -> Ext w c w' c -> K (a.put o.dst undef) w') -> o.wp P a w K Q
theorem zt8 {t e : TypeId} {x y : Operand} {b off n : Nat} {cs : List PV} (ho : o.op = .store t x y)
  (hn : ye P t = some n) (hx : σ.eval x = .ptr b off) (hy : σ.eval y = p) (hs : z7r p = true) (hl : (cellsOf p).length = n) (hb : σ.H[b]? = some (.row cs e))
  (hlen : off + n <= cs.length) : StoreStep P o σ b (splice cs off (cellsOf p)) e := by
 intro c a w K Q hr hK;have hv := hr.2.eval y;rw [hy] at hv;obtain ⟨h1, h2, h3⟩ := zby hs hv;have hpx := hr.2.eval x;rw [hx] at hpx;simp only [VR] at hpx;obtain ⟨k, hk, ex⟩ := hpx;obtain ⟨w', hw', g, ext⟩ := vo (P := P) (a.eval y).cells.toList (cellsOf p) (off := off) (i := 0) hr.1 hb hk (by simpa using h1) (by rw [hl]; simpa using hlen) h2 (by simpa using h3)
 refine zte (w' := w') ?_ (hK w' (by simpa using g) ext)
 simp only [execOp, ho, Instr.storeAt, ex, Instr.sureAddr, kB, kL, kA, storeVar, run_sizeOf hn];rw [if_neg (by rw [h1, hl]; simp)]
 rw [hw']; rfl
namespace D
def setAll (us : List (Nat × List PV × TypeId)) (H : List AObj) : List AObj := us.foldl (fun H u => H.set u.1 (.row u.2.1 u.2.2)) H
def zph (P : Program) (o : Oper) (σ : AS) (p : PV) (us : List (Nat × List PV × TypeId)) : Prop :=
 ∀ c a w (K : Act -> World -> Prop) Q, RelC w c σ a -> (∀ v c' w', VR w' c' p v \/ o.dst = none -> Good w' c' (setAll us σ.H) σ.ts -> Ext w c w' c' -> K (a.put o.dst v) w') -> o.wp P a w K Q
theorem zgm : ∀ (us : List (Nat × List PV × TypeId)) (H : List AObj), (setAll us H).length = H.length
 | [], _ => rfl
 | u :: us, H => by
  show (setAll us (H.set u.1 _)).length = _;rw [zgm us]; simp
theorem zil : ∀ (us : List (Nat × List PV × TypeId)) {H : List AObj} {b : Nat}, b ∉ us.map (·.1) -> (setAll us H)[b]? = H[b]?
 | [], _, _, _ => rfl
 | u :: us, H, b, h => by
  simp only [kq, kw, not_or] at h;show (setAll us (H.set u.1 _))[b]? = _;rw [zil us h.2, kI (fun e => h.1 e.symm)]
theorem zb4 : ∀ (us : List (Nat × List PV × TypeId)) {H H' : List AObj} {b : Nat}, H[b]? = H'[b]? -> H.length = H'.length -> (setAll us H)[b]? = (setAll us H')[b]?
 | [], _, _, _, h, _ => h
 | u :: us, H, H', b, h, hl => by
  show (setAll us (H.set u.1 _))[b]? = (setAll us (H'.set u.1 _))[b]?;refine zb4 us ?_ (by simp [hl])
  by_cases hb : u.1 = b
  ·subst hb; simp only [List.getElem?_set, hl, if_true]
  ·rw [kI hb, kI hb]; exact h
inductive Item where
 | q (p : PV) (L : List Nat)
 | al (pf : Nat -> PV) (b : Nat) (cs : List PV) (e : TypeId) (L : List Nat)
 | ef (p : PV) (us : List (Nat × List PV × TypeId)) (L : List Nat)
def Item.pv : Item -> PV
 | .q p _ => p
 | .al pf b _ _ _ => pf b
 | .ef p _ _ => p
def Item.wr : Item -> List Nat
 | .q _ _ => []
 | .al _ b _ _ _ => [b]
 | .ef _ us _ => us.map (·.1)
def Item.rd : Item -> List Nat
 | .q _ L => L
 | .al _ b _ _ L => b :: L
 | .ef _ us L => us.map (·.1) ++ L
def Item.upd (H : List AObj) : Item -> List AObj
 | .q _ _ => H
 | .al _ b cs e _ => H.set b (.row cs e)
 | .ef _ us _ => setAll us H
theorem zvv {it : Item} (h : b ∈ it.wr) : b ∈ it.rd := by
 cases it with
 | q p L => cases h
 | al pf b' cs e L => simp only [Item.wr, List.mem_singleton] at h; subst h; simp [Item.rd]
 | ef p us L => exact List.mem_append_left _ h
theorem zhv (H : List AObj) (it : Item) : (it.upd H).length = H.length := by cases it <;> simp [Item.upd, zgm]
theorem zm0 {H : List AObj} {it : Item} (h : b ∉ it.wr) : (it.upd H)[b]? = H[b]? := by
 cases it with
 | q p L => rfl
 | al pf b' cs e L => exact kI (fun e => h (by rw [<- e]; simp [Item.wr]))
 | ef p us L => exact zil us h
theorem znc {H H' : List AObj} {it : Item} (h : H[b]? = H'[b]?) (hl : H.length = H'.length) : (it.upd H)[b]? = (it.upd H')[b]? := by
 cases it with
 | q p L => exact h
 | al pf b' cs e L => exact zb4 [(b', cs, e)] h hl
 | ef p us L => exact zb4 us h hl
def heapAt (f : Nat -> Bool) : List Item -> Nat -> List AObj -> List AObj
 | [], _, H => H
 | it :: r, j, H => heapAt f r (j + 1) (bif f j then it.upd H else H)
theorem zfs (f : Nat -> Bool) : ∀ (l : List Item) (j : Nat) (H : List AObj), (heapAt f l j H).length = H.length
 | [], _, _ => rfl
 | it :: r, j, H => by
  simp only [heapAt, zfs f r];cases f j <;> simp [zhv]
theorem z69 {f g : Nat -> Bool} {b : Nat} : ∀ (l : List Item) (j : Nat) {H H' : List AObj}, H[b]? = H'[b]? -> H.length = H'.length -> (∀ (k : Nat) it, l[k]? = some it -> b ∈ it.wr -> f (j + k) = g (j + k)) -> (heapAt f l j H)[b]? = (heapAt g l j H')[b]?
 | [], _, _, _, h, _, _ => h
 | it :: r, j, H, H', h, hl, hw => by
  simp only [heapAt];refine z69 r (j + 1) ?_ (by cases f j <;> cases g j <;> simp [zhv, hl]) fun k it' hk hb => by
   have := hw (k + 1) it' (by simpa using hk) hb
   rw [kP, kQ 1 k]; exact this
  by_cases hb : b ∈ it.wr
  ·have h0 := hw 0 it rfl hb;rw [km] at h0;rw [h0];cases g j with
   | false => exact h
   | true => exact znc h hl
  ·have e1 : ∀ (c : Bool) (X : List AObj), (bif c then it.upd X else X)[b]? = X[b]? := fun c X => by
    cases c with
    | false => rfl
    | true => exact zm0 hb
   rw [e1, e1]; exact h
theorem zft {f : Nat -> Bool} : ∀ (l : List Item) (j i : Nat) {it : Item} {H : List AObj}, l[i]? = some it -> f (j + i) = false -> (∀ (k : Nat) it' b, i < k -> l[k]? = some it' -> b ∈ it.wr -> b ∈ it'.wr -> f (j + k) = false) ->
  heapAt (fun k => f k || kh k (j + i)) l j H = it.upd (heapAt f l j H)
 | [], _, _, _, _, h, _, _ => by simp at h
 | it0 :: r, j, 0, it, H, h, hf, hlate => by
  simp only [kS, Option.some.injEq] at h;subst h;simp only [km] at hf;simp only [heapAt, km, hf, kt, Bool.or_true, cond_true, cond_false, Bool.false_or];apply List.ext_getElem?;intro b;have hrest : ∀ k : Nat, kh (j + 1 + k) j = false := fun k => by
   cases hb : kh (j + 1 + k) j with
   | false => rfl
   | true => have := kT hb; omega
  by_cases hb : b ∈ it0.wr
  ·-- nobody behind it writes there
   have e1 : ∀ (g : Nat -> Bool) (X : List AObj), (∀ (k : Nat) it', r[k]? = some it' -> b ∈ it'.wr -> g (j + 1 + k) = false) -> (heapAt g r (j + 1) X)[b]? = X[b]? := by
    intro g X hg;have := z69 (f := g) (g := fun _ => false) r (j + 1) (H := X) (H' := X) (b := b) rfl rfl (fun k it' hk hw => hg k it' hk hw)
    rw [this];have none : ∀ (l : List Item) (j : Nat) (X : List AObj), heapAt (fun _ => false) l j X = X := by
     intro l
     induction l with
     | nil => intro j X; rfl
     | cons a l ih => intro j X; simp only [heapAt, cond_false]; exact ih _ _
    rw [none]
   have hk0 : ∀ (k : Nat) it', r[k]? = some it' -> b ∈ it'.wr -> f (j + 1 + k) = false := fun k it' hk hw => by
    have := hlate (k + 1) it' b (by omega) (by simpa using hk) hb hw
    rw [kP, kQ 1 k]; exact this
   rw [e1 _ _ (fun k it' hk hw => by rw [hk0 k it' hk hw, hrest k]; rfl)]
   exact znc (e1 f H (fun k it' hk hw => hk0 k it' hk hw)).symm (zfs _ _ _ _).symm
  ·rw [zm0 hb];refine z69 r (j + 1) (zm0 hb) (zhv _ _) fun k it' hk hw => ?_
   rw [hrest k, Bool.or_false]
 | it0 :: r, j, i + 1, it, H, h, hf, hlate => by
  have hne : kh j (j + (i + 1)) = false := by
   cases hb : kh j (j + (i + 1)) with
   | false => rfl
   | true => have := kT hb; omega
  simp only [heapAt, hne, Bool.or_false];have := zft r (j + 1) i (it := it) (f := f) (H := bif f j then it0.upd H else H) (by simpa using h) (by rw [kP, kQ 1 i]; exact hf) (fun k it' b hk hit h1 h2 => by
   have := hlate (k + 1) it' b (by omega) (by simpa using hit) h1 h2
   rw [kP, kQ 1 k]; exact this)
  rw [kP, kQ 1 i] at this;exact this
def heapTo : List Item -> List AObj -> List AObj
 | [], H => H
 | it :: r, H => heapTo r (it.upd H)
theorem zi9 : ∀ (l : List Item) (j : Nat) (H : List AObj) (f : Nat -> Bool), (∀ k, k < l.length -> f (j + k) = true) -> heapAt f l j H = heapTo l H
 | [], _, _, _, _ => rfl
 | it :: r, j, H, f, hf => by
  have h0 := hf 0 (by simp)
  rw [km] at h0;simp only [heapAt, heapTo, h0, cond_true];exact zi9 r (j + 1) _ f fun k hk => by
   have := hf (k + 1) (by simpa using hk)
   rw [kP, kQ 1 k]; exact this
theorem heapTo_take : ∀ (l : List Item) (j m : Nat) (H : List AObj), heapTo (l.take m) H = heapAt (fun k => k8 k (j + m)) l j H
 | [], _, _, _ => by simp [heapTo, heapAt]
 | it :: r, j, 0, H => by
  simp only [List.take_zero, heapTo, heapAt];have e : k8 j (j + 0) = false := by
   cases hb : k8 j (j + 0) with
   | false => rfl
   | true => have := kW.mp hb; omega
  simp only [e, cond_false];have none : ∀ (l : List Item) (i : Nat), j < i -> heapAt (fun k => k8 k (j + 0)) l i H = H := by
   intro l
   induction l with
   | nil => intro i _; rfl
   | cons a l ih =>
    intro i hi;have e : k8 i (j + 0) = false := by
     cases hb : k8 i (j + 0) with
     | false => rfl
     | true => have := kW.mp hb; omega
    simp only [heapAt, e, cond_false];exact ih (i + 1) (by omega)
  exact (none r (j + 1) (by omega)).symm
 | it :: r, j, m + 1, H => by
  have e : k8 j (j + (m + 1)) = true := kW.mpr (by omega)
  simp only [List.take_succ_cons, heapTo, heapAt, e, cond_true];have := heapTo_take r (j + 1) m (it.upd H);rw [show j + 1 + m = j + (m + 1) by omega] at this
  exact this
def Does (P : Program) (ops : Array Oper) : List Oper -> List Item -> List AObj -> AS -> Prop
 | o :: os, it :: its, H, σ => (match it with
   | .q p L => ∃ g, ql ops (σ.keep (o.looksAt ops)) o = some g /\ (if g = true then ∀ H' : List AObj, (∀ b, b ∈ L -> H'[b]? = H[b]?) -> QStep P o { σ.keep (o.looksAt ops) with H := H' } p else p = .tup [])
   | .al pf b cs e L => H[b]? = some .gone /\ ql ops (σ.keep (o.looksAt ops)) o = some true /\ ∀ H' : List AObj, (∀ b, b ∈ L -> H'[b]? = H[b]?) -> NewObj P o { σ.keep (o.looksAt ops) with H := H' } cs e pf
   | .ef p us L => ql ops (σ.keep (o.looksAt ops)) o = some true /\ ∀ H' : List AObj, (∀ b, b ∈ us.map (·.1) ++ L -> H'[b]? = H[b]?) -> zph P o { σ.keep (o.looksAt ops) with H := H' } p us) /\
   Does P ops os its (it.upd H) (σ.put o.dst it.pv)
 | [], [], _, _ => True
 | _, _, _, _ => False
theorem zmv {P : Program} {ops : Array Oper} : ∀ {l : List Oper} {its : List Item} {H : List AObj} {σ : AS}, Does P ops l its H σ -> l.length = its.length /\
  ∀ (i : Nat) o it, l[i]? = some o -> its[i]? = some it -> (match it with
   | .q p L => ∃ g, ql ops ((pre l (its.map Item.pv) σ i).keep (o.looksAt ops)) o = some g /\ (if g = true then ∀ H' : List AObj, (∀ b, b ∈ L -> H'[b]? = (heapTo (its.take i) H)[b]?) -> QStep P o { (pre l (its.map Item.pv) σ i).keep (o.looksAt ops) with H := H' } p else p = .tup [])
   | .al pf b cs e L => (heapTo (its.take i) H)[b]? = some .gone /\ ql ops ((pre l (its.map Item.pv) σ i).keep (o.looksAt ops)) o = some true /\ ∀ H' : List AObj, (∀ b, b ∈ L -> H'[b]? = (heapTo (its.take i) H)[b]?) -> NewObj P o { (pre l (its.map Item.pv) σ i).keep (o.looksAt ops) with H := H' } cs e pf
   | .ef p us L => ql ops ((pre l (its.map Item.pv) σ i).keep (o.looksAt ops)) o = some true /\ ∀ H' : List AObj, (∀ b, b ∈ us.map (·.1) ++ L -> H'[b]? = (heapTo (its.take i) H)[b]?) -> zph P o { (pre l (its.map Item.pv) σ i).keep (o.looksAt ops) with H := H' } p us)
 | [], [], _, _, _ => ⟨rfl, fun i o it h => by simp at h⟩
 | o :: os, it :: its, H, σ, h => by
  obtain ⟨h1, h2⟩ := h;obtain ⟨hl, ih⟩ := zmv h2;refine ⟨by simp [hl], fun i o' it' ho hp => ?_⟩
  cases i with
  | zero =>
   simp at ho hp; subst ho; subst hp;cases it <;> exact h1
  | succ i =>
   have := ih i o' it' (by simpa using ho) (by simpa using hp)
   cases it' <;> simpa [pre, qd, heapTo] using this
 | [], _ :: _, _, _, h => h.elim
 | _ :: _, [], _, _, h => h.elim
def meets : List Nat -> List Nat -> Bool
 | [], _ => false
 | x :: l, m => z17 m x || meets l m
theorem zao : ∀ {l m : List Nat} {b : Nat}, b ∈ l -> b ∈ m -> meets l m = true
 | x :: l, m, b, h, g => by
  simp only [meets, ke];rcases kw.1 h with rfl | h
  ·exact .inl (zex.2 g)
  ·exact .inr (zao h g)
def z4t (a b : Item) : Bool := meets a.wr b.rd || meets b.wr a.rd
def confWith (ops : Array Oper) (it : Item) (j : Nat) : List Item -> Nat -> Bool
 | [], _ => true
 | jt :: r, k => (!(z4t it jt) || bef ops k j) && confWith ops it j r (k + 1)
def confOk (ops : Array Oper) : List Item -> Nat -> Bool
 | [], _ => true
 | it :: r, j => confWith ops it j r (j + 1) && confOk ops r (j + 1)
theorem zbe {ops : Array Oper} {it : Item} {j : Nat} : ∀ {l : List Item} {k : Nat}, confWith ops it j l k = true -> ∀ (i : Nat) jt, l[i]? = some jt -> z4t it jt = true -> bef ops (k + i) j = true
 | [], _, _, i, jt, h, _ => by simp at h
 | a :: r, k, hc, i, jt, h, hcl => by
  simp only [confWith, ka] at hc;cases i with
  | zero =>
   simp only [kS, Option.some.injEq] at h;subst h;have := hc.1;rw [hcl] at this;simpa using this
  | succ i =>
   have := zbe hc.2 i jt (by simpa using h) hcl
   rw [kP, kQ 1 i] at this; exact this
theorem z8o {ops : Array Oper} : ∀ {l : List Item} {j : Nat}, confOk ops l j = true -> ∀ (i k : Nat) it jt, i < k -> l[i]? = some it -> l[k]? = some jt -> z4t it jt = true -> bef ops (j + k) (j + i) = true
 | [], _, _, i, k, it, jt, _, h, _, _ => by simp at h
 | a :: r, j, hc, i, k, it, jt, hik, hi, hk, hcl => by
  simp only [confOk, ka] at hc;cases k with
  | zero => omega
  | succ k =>
   cases i with
   | zero =>
    simp only [kS, Option.some.injEq] at hi;subst hi;have := zbe hc.1 k jt (by simpa using hk) hcl
    rw [kP, kQ 1 k] at this; exact this
   | succ i =>
    have := z8o hc.2 i k it jt (by omega) (by simpa using hi) (by simpa using hk) hcl
    rw [kP, kQ 1 k, kP, kQ 1 i] at this; exact this
def drawOkAt (ops : Array Oper) (lo hi : Nat) : Bool :=
 z37 ops &&
 (lA ops.size).all fun j => k8 j lo || Nat.ble hi j ||
  match ops[j]? with
  | none => true
  | some oj => (oj.dst.all fun d => !(oj.looksAt ops).contains d) &&
   (lA j).all fun i => k8 i lo ||
    match ops[i]? with
    | none => true
    | some oi => (oi.dst.isNone || oi.dst != oj.dst) && (oi.apart ops oj || bef ops j i)
theorem ziy {ops : Array Oper} {lo hi : Nat} (h : drawOkAt ops lo hi = true) : z37 ops = true /\
  (∀ (j : Nat) o d, lo <= j -> j < hi -> ops[j]? = some o -> o.dst = some d -> d ∉ o.looksAt ops) /\
  (∀ (i j : Nat) oi oj, lo <= i -> i < j -> j < hi -> ops[i]? = some oi -> ops[j]? = some oj -> (∀ d, oi.dst = some d -> oj.dst ≠ some d) /\ (oi.apart ops oj = true \/ bef ops j i = true)) := by
 simp only [drawOkAt, ka] at h;obtain ⟨h1, h2⟩ := h;have hj : ∀ (j : Nat) o, ops[j]? = some o -> j < ops.size := fun j o ho => (kG.1 ho).1
 have key : ∀ (j : Nat) o, lo <= j -> j < hi -> ops[j]? = some o -> (o.dst.all fun d => !(o.looksAt ops).contains d) = true /\
   ((lA j).all fun i => k8 i lo || match ops[i]? with | none => true | some oi => (oi.dst.isNone || oi.dst != o.dst) && (oi.apart ops o || bef ops j i)) = true := by
  intro j o hl hh ho;have := kr.1 h2 j (by simp [hj j o ho])
  rw [ho] at this;simp only [ke, ka] at this;rcases this with (h | h) | h
  ·exact absurd (kW.mp h) (by omega)
  ·exact absurd (Nat.le_of_ble_eq_true h) (by omega)
  ·exact ⟨h.1, h.2⟩
 refine ⟨h1, fun j o d hl hh ho hd => ?_, fun i j oi oj hl hij hh hi hj' => ?_⟩
 ·obtain ⟨hb, _⟩ := key j o hl hh ho;rw [hd] at hb;simpa using hb
 ·obtain ⟨_, hc⟩ := key j oj (by omega) hh hj'
  have := kr.1 hc i (by simp [hij])
  rw [hi] at this;simp only [ke, ka] at this;rcases this with h | h
  ·exact absurd (kW.mp h) (by omega)
  ·refine ⟨fun d hd => ?_, h.2⟩
   rcases h.1 with h | h
   ·rw [hd] at h; cases h
   ·rw [hd] at h;intro e;rw [e] at h;simp at h
structure MidA (ops : Array Oper) (its : List Item) (σ : AS) (c : Cx) (lo hi : Nat) (listed : Array Bool) (a : Act) (w : World) : Prop where
 good : Good w c (heapAt (fun j => listed.getD j false) its lo σ.H) σ.ts
 size : a.tmps.size = σ.n
 sz : listed.size = ops.size
 old : ∀ t, t < σ.n -> (∀ (j : Nat) o, lo <= j -> listed.getD j false = true -> ops[j]? = some o -> o.dst ≠ some t) -> VR w c (σ.get t) (a.tmps.getD t undef)
 new : ∀ (j : Nat) o it t, lo <= j -> listed.getD j false = true -> ops[j]? = some o -> its[j - lo]? = some it -> o.dst = some t -> t < σ.n -> VR w c it.pv (a.tmps.getD t undef)
 closed : z97 ops listed
 ahead : ∀ j, j < lo -> j < ops.size -> listed.getD j false = true
 below : ∀ j, listed.getD j false = true -> j < hi
def behind (l : List Oper) (its : List Item) (σ : AS) : AS := { qd l (its.map Item.pv) σ with H := heapTo its σ.H }
theorem seg_draw {ops : Array Oper} {lo hi : Nat} {Q' : Exit -> Act -> World -> Prop} (its : List Item) (hok : drawOkAt ops lo hi = true) (hsep : zp3 ops lo hi = true) (hlh : lo <= hi) (hle : hi <= ops.size)
  (hdn : ∀ o, o ∈ seg ops lo hi -> o.dst.all (fun d => decide (d < σ.n)) = true) (hcf : confOk ops its lo = true) (hq : Does P ops (seg ops lo hi) its σ.H σ) :
  ∀ (n fuel : Nat) (listed : Array Bool) (c : Cx) (a : Act) (w : World), left ops listed = n -> n <= fuel -> MidA ops its σ c lo hi listed a w ->
   (∀ fuel listed' c' a' w', listed'.size = ops.size -> (∀ j, j < ops.size -> (listed'.getD j false = true ↔ j < hi)) -> z97 ops listed' -> left ops listed' <= fuel -> RelC w' c' (behind (seg ops lo hi) its σ) a' -> Ext w c w' c' -> a'.defers = a.defers ->
    wpAny P .any ops Q' fuel listed' a' w') -> wpAny P .any ops Q' fuel listed a w := by
 obtain ⟨hback, hdst, hpair⟩ := ziy hok;obtain ⟨hlen0, hat⟩ := zmv hq;have hlen : (seg ops lo hi).length = (its.map Item.pv).length := by rw [List.length_map]; exact hlen0
 have hsl : (seg ops lo hi).length = hi - lo := by simp [seg]; omega
 intro n
 induction n using Nat.strongRecOn with
 | _ n ih =>
  intro fuel listed c a w hn hf hmid hK
  by_cases hall : ∀ j, lo <= j -> j < hi -> listed.getD j false = true
  ·-- the stretch is done
   refine hK fuel listed c a w hmid.sz (fun j hj => ⟨fun h => hmid.below j h, fun h => ?_⟩) hmid.closed (by omega) ⟨?_, ?_⟩ (Ext.refl _ _) rfl
   ·by_cases hjl : j < lo
    ·exact hmid.ahead j hjl hj
    ·exact hall j (by omega) h
   ·obtain ⟨h1, h2, h3⟩ := z4k (seg ops lo hi) (its.map Item.pv) σ;simp only [behind, h3];rw [<- zi9 its lo σ.H (fun j => listed.getD j false) fun i hi' => hall (lo + i) (by omega) (by rw [<- hlen0, hsl] at hi'; omega)]
    exact hmid.good
   ·obtain ⟨h1, h2, h3⟩ := z4k (seg ops lo hi) (its.map Item.pv) σ;refine ⟨by simp only [behind, h1]; exact hmid.size, fun t p hl ht => ?_⟩
    simp only [behind] at hl ht;rw [h1] at ht;have hg : (qd (seg ops lo hi) (its.map Item.pv) σ).get t = p := by
     simp only [AS.get, h1, kW.mpr ht, cond_true, hl, Option.getD_some]
    have hts : t < a.tmps.size := by rw [hmid.size]; exact ht
    refine ⟨a.tmps[t], by simp [hts], ?_⟩
    have hgd : a.tmps.getD t undef = a.tmps[t] := by simp [Array.getD_eq_getD_getElem?, hts]
    rw [<- hgd];rcases zav (seg ops lo hi) (its.map Item.pv) σ t hlen ht with ⟨j, o, p', h4, h5, h6, h7⟩ | ⟨h4, h5⟩
    ·rw [<- hg, h7];have hjl : j < hi - lo := by rw [<- hsl]; exact (kC.1 h4).1
     have ho : ops[lo + j]? = some o := by
      rw [<- z6r (hi := hi) (kj lo j) (by omega), kV]; exact h4
     rw [kU] at h5;cases hit : its[j]? with
     | none => rw [hit] at h5; cases h5
     | some it =>
      rw [hit] at h5; simp only [kJ, Option.some.injEq] at h5; subst h5;exact hmid.new (lo + j) o it t (by omega) (hall _ (by omega) (by omega)) ho (by rw [kV]; exact hit) h6 ht
    ·rw [<- hg, h5];refine hmid.old t ht (fun j o hjl hD ho => h4 (j - lo) o ?_)
     rw [z6r hjl (hmid.below j hD)]; exact ho
  ·-- something is left
   have hex : ∃ j, lo <= j /\ j < hi /\ listed.getD j false = false := by
    apply Classical.byContradiction;intro hno;apply hall;intro j h1 h2;cases h : listed.getD j false with
    | true => rfl
    | false => exact absurd ⟨j, h1, h2, h⟩ hno
   obtain ⟨j0, hj0, hj1, hj2⟩ := hex;have hpos := zkw (ops := ops) (listed := listed) (i := j0) (by omega) hj2
   cases fuel with
   | zero => omega
   | succ fuel =>
    refine ⟨fun hr => ?_, fun i hi' => ?_⟩
    ·-- some one is ready
     exfalso;have : ∀ j, j <= j0 -> listed.getD j false = true := by
      intro j
      induction j using Nat.strongRecOn with
      | _ j ihj =>
       intro hj;cases hl : listed.getD j false with
       | true => rfl
       | false =>
        have hjs : j < ops.size := by omega
        have : j ∈ Region.ready .any ops listed := by
         rw [z5e hmid.sz];refine ⟨hl, ops[j], by simp [hjs], fun e he hb => ?_⟩
         have hlt := z4d hback (o := ops[j]) (Array.getElem?_eq_getElem hjs) (Array.mem_toList_iff.2 he) hb;exact ihj e.on hlt (by omega)
        rw [hr] at this; cases this
     have := this j0 (kD _);rw [hj2] at this; cases this
    ·rw [z5e hmid.sz] at hi';obtain ⟨hnD, o, ho, hedges⟩ := hi';have hil : i < ops.size := (kG.1 ho).1;have hlo : lo <= i := by
      apply Classical.byContradiction;intro h;have := hmid.ahead i (by omega) hil
      rw [hnD] at this; cases this
     have hhi : i < hi := by
      apply Classical.byContradiction;intro h;have hb := zp4 hsep (i := j0) (j := i) (by omega) hil hj0 hj1
      have := z60 hback hmid.sz hmid.closed ho hedges hb (by omega)
      rw [hj2] at this; cases this
     have hp : ∃ it, its[i - lo]? = some it := by
      have : i - lo < its.length := by rw [<- hlen0, hsl]; omega
      exact ⟨its[i - lo], by simp [this]⟩
     obtain ⟨it, hit⟩ := hp;have hati := hat (i - lo) o it (by rw [z6r hlo hhi]; exact ho) hit
     have hmemo : o ∈ seg ops lo hi := kb (i := i - lo) (by rw [z6r hlo hhi]; exact ho)
     have hdlt : ∀ d, o.dst = some d -> d < σ.n := fun d hdd => by
      have := hdn o hmemo;rw [hdd] at this; simpa using this
     have hslo : SlotsR w c ((pre (seg ops lo hi) (its.map Item.pv) σ (i - lo)).keep (o.looksAt ops)) a.tmps := by
      obtain ⟨h1, h2, h3⟩ := z4k ((seg ops lo hi).take (i - lo)) ((its.map Item.pv).take (i - lo)) σ;refine ⟨by simp only [AS.keep, pre, h1]; exact hmid.size, fun t q hl ht => ?_⟩
      simp only [AS.keep, pre, h1] at ht;have hq' := zcm _ _ _ _ hl;have hmem : t ∈ o.looksAt ops := by
       simp only [AS.keep] at hl;clear hq' hat hq hK hmid hati hedges;generalize o.looksAt ops = L at hl
       induction L with
       | nil => simp [look] at hl
       | cons s L ihL =>
        simp only [kq, look] at hl;cases hb : kh s t with
        | true => rw [kT hb]; simp
        | false => rw [hb] at hl; simp [ihL (by simpa using hl)]
      have hts : t < a.tmps.size := by rw [hmid.size]; exact ht
      refine ⟨a.tmps[t], by simp [hts], ?_⟩
      have hgd : a.tmps.getD t undef = a.tmps[t] := by simp [Array.getD_eq_getD_getElem?, hts]
      rw [<- hgd, <- hq'];have hlen' : ((seg ops lo hi).take (i - lo)).length = ((its.map Item.pv).take (i - lo)).length := by simp only [List.length_take, hlen]
      rcases zav ((seg ops lo hi).take (i - lo)) ((its.map Item.pv).take (i - lo)) σ t hlen' ht with ⟨j, oj, pj, h4, h5, h6, h7⟩ | ⟨h4, h5⟩
      ·have hji : j < i - lo := by
        have := (kC.1 h4).1; simp at this; omega
       have hoj : ops[lo + j]? = some oj := by
        rw [ko, if_pos hji] at h4;rw [<- z6r (hi := hi) (kj lo j) (by omega), kV]; exact h4
       rw [ko, if_pos hji, kU] at h5;cases hitj : its[j]? with
       | none => rw [hitj] at h5; cases h5
       | some itj =>
        rw [hitj] at h5; simp only [kJ, Option.some.injEq] at h5; subst h5;have : bef ops i (lo + j) = true := by
         rcases (hpair (lo + j) i oj o (by omega) (by omega) hhi hoj ho).2 with hap | hb
         ·exact absurd hmem ((Oper.apart_spec hap).1 t h6)
         ·exact hb
        have hDj := z60 hback hmid.sz hmid.closed ho hedges this (by omega)
        rw [show (pre (seg ops lo hi) (its.map Item.pv) σ (i - lo)).get t = itj.pv from h7]
        exact hmid.new (lo + j) oj itj t (by omega) hDj hoj (by rw [kV]; exact hitj) h6 ht
      ·rw [show (pre (seg ops lo hi) (its.map Item.pv) σ (i - lo)).get t = σ.get t from h5]
       refine hmid.old t ht (fun j oj hjl hDj hoj he => ?_)
       have hjh := hmid.below j hDj
       by_cases hji : j < i
       ·exact h4 (j - lo) oj (by rw [ko, if_pos (by omega), z6r hjl hjh]; exact hoj) he
       ·rcases Nat.lt_or_ge i j with hij | hij
        ·rcases (hpair i j o oj hlo hij hjh ho hoj).2 with hap | hb
         ·exact absurd hmem ((Oper.apart_spec hap).2.2 t he)
         ·have := zae hback (D := fun j => listed.getD j false = true) hmid.closed (fun j hj => z3a hmid.sz hj) j i hDj hb
          rw [hnD] at this; cases this
        ·have : j = i := by omega
         subst this;rw [hnD] at hDj; cases hDj
     have hsi : i < listed.size := by rw [hmid.sz]; exact hil
     have hget : ∀ j, (listed.setIfInBounds i true).getD j false = true ↔ listed.getD j false = true \/ j = i := fun j => z5s hsi
     have hfun : (fun j => (listed.setIfInBounds i true).getD j false) = fun j => listed.getD j false || kh j i := by
      funext j;rw [Bool.eq_iff_iff, hget, ke];exact ⟨fun h => h.imp id (fun e => by rw [e]; exact kt _), fun h => h.imp id kT⟩
     have hli : lo + (i - lo) = i := by omega
     have hahead : ∀ (k : Nat) jt, its[k]? = some jt -> k < i - lo -> z4t jt it = true -> listed.getD (lo + k) false = true := fun k jt hk hki hcl => by
      have hb := z8o hcf k (i - lo) jt it hki hk hit hcl;rw [hli] at hb;exact z60 hback hmid.sz hmid.closed ho hedges hb (by omega)
     have hbehind : ∀ (k : Nat) jt, its[k]? = some jt -> i - lo < k -> z4t it jt = true -> listed.getD (lo + k) false = false := fun k jt hk hki hcl => by
      have hb := z8o hcf (i - lo) k it jt hki hit hk hcl;rw [hli] at hb;cases hD : listed.getD (lo + k) false with
      | false => rfl
      | true =>
       have := zae hback (D := fun j => listed.getD j false = true) hmid.closed (fun j hj => z3a hmid.sz hj) (lo + k) i hD hb
       rw [hnD] at this; cases this
     have hsame : ∀ b, b ∈ it.rd -> (heapAt (fun j => listed.getD j false) its lo σ.H)[b]? = (heapTo (its.take (i - lo)) σ.H)[b]? := fun b hb => by
      rw [heapTo_take its lo];refine z69 its lo rfl rfl fun k jt hk hw => ?_
      have hcl1 : z4t jt it = true := by
       simp only [z4t, zao hw hb, Bool.true_or]
      have hcl2 : z4t it jt = true := by
       simp only [z4t, zao hw hb, Bool.or_true]
      rcases Nat.lt_trichotomy k (i - lo) with h | h | h
      ·have hk := hahead k jt hk h hcl1;show listed.getD (lo + k) false = _;rw [hk];exact (kW.mpr (by omega)).symm
      ·subst h;simp only [hli, hnD];cases hb2 : k8 i i with
       | false => rfl
       | true => have := kW.mp hb2; omega
      ·have hk := hbehind k jt hk h hcl2;show listed.getD (lo + k) false = _;rw [hk];cases hb2 : k8 (lo + k) (lo + (i - lo)) with
       | false => rfl
       | true => have := kW.mp hb2; omega
     have hheap : heapAt (fun j => (listed.setIfInBounds i true).getD j false) its lo σ.H = it.upd (heapAt (fun j => listed.getD j false) its lo σ.H) := by
      rw [hfun];have := zft (f := fun j => listed.getD j false) its lo (i - lo) (H := σ.H) hit (by simp only [hli]; exact hnD) (fun k jt b hk hjt h1 h2 => hbehind k jt hjt hk (by
       simp only [z4t, zao h1 (zvv h2), Bool.true_or]))
      rw [hli] at this;exact this
     have hput : ∀ (v : Value) t, t < σ.n -> (a.put o.dst v).tmps.getD t undef = if o.dst = some t then v else a.tmps.getD t undef := fun v t ht => by
      cases hdd : o.dst with
      | none => simp [Act.put]
      | some d =>
       have hds : d < a.tmps.size := by rw [hmid.size]; exact hdlt d hdd
       rw [zs9 _ _ _ _ hds]
       by_cases e : d = t
       ·subst e; simp
       ·rw [if_neg e, if_neg (fun h => e (Option.some.inj h))]
     have hpsz : ∀ v : Value, (a.put o.dst v).tmps.size = σ.n := fun v => by
      cases hdd : o.dst with
      | none => exact hmid.size
      | some d => simp only [Act.put, Array.size_setIfInBounds]; exact hmid.size
     have hnext : ∀ v c2 w2, VR w2 c2 it.pv v \/ o.dst = none -> Good w2 c2 (it.upd (heapAt (fun j => listed.getD j false) its lo σ.H)) σ.ts -> Ext w c w2 c2 ->
       wpAny P .any ops Q' fuel (listed.setIfInBounds i true) (a.put o.dst v) w2 := by
      intro v c2 w2 hv hg2 hx2;have hlt := zkx (ops := ops) hil hmid.sz hnD;refine ih (left ops (listed.setIfInBounds i true)) (by omega) fuel _ c2 _ _ rfl (by omega) ?_ (fun fuel' listed' c' a' w' s1 s2 s3 s4 s5 s6 s7 => hK fuel' listed' c' a' w' s1 s2 s3 s4 s5 (hx2.trans s6) (s7.trans (Act.put_defers' _ _ _)))
      refine ⟨by rw [hheap]; exact hg2, hpsz v, by simp [hmid.sz], ?_, ?_, ?_, ?_, ?_⟩
      ·intro t ht hno;rw [hput v t ht, if_neg (hno i o hlo ((hget i).2 (.inr rfl)) ho)];exact (hmid.old t ht (fun j oj hjl hDj => hno j oj hjl ((hget j).2 (.inl hDj)))).ext hx2
      ·intro j oj itj t hjl hDj hoj hpj hjt ht;rw [hput v t ht]
       by_cases hji : j = i
       ·subst hji;rw [ho] at hoj; cases hoj;rw [if_pos hjt];rw [hit] at hpj; cases hpj;exact hv.resolve_right (fun h => by rw [h] at hjt; cases hjt)
       ·have hDj' := ((hget j).1 hDj).resolve_right hji;have hjh := hmid.below j hDj';have hne : o.dst ≠ some t := by
         intro e;rcases Nat.lt_or_ge j i with h | h
         ·exact (hpair j i oj o hjl h hhi hoj ho).1 t hjt e
         ·exact (hpair i j o oj hlo (by omega) hjh ho hoj).1 t e hjt
        rw [if_neg hne];exact (hmid.new j oj itj t hjl hDj' hoj hpj hjt ht).ext hx2
      ·intro j oj e hDj hoj he hb;rcases (hget j).1 hDj with h | h
       ·exact (hget _).2 (.inl (hmid.closed j oj e h hoj he hb))
       ·subst h;rw [ho] at hoj; cases hoj;exact (hget _).2 (.inl (hedges e (by simpa using he) hb))
      ·intro j hjl hjs;exact (hget j).2 (.inl (hmid.ahead j hjl hjs))
      ·intro j hDj;rcases (hget j).1 hDj with h | h
       ·exact hmid.below j h
       ·subst h; exact hhi
     obtain ⟨h1, h2, h3⟩ := z4k ((seg ops lo hi).take (i - lo)) ((its.map Item.pv).take (i - lo)) σ;have hrel : RelC w c { (pre (seg ops lo hi) (its.map Item.pv) σ (i - lo)).keep (o.looksAt ops) with H := heapAt (fun j => listed.getD j false) its lo σ.H } a :=
      ⟨by have := hmid.good; simp only [AS.keep, pre, h3]; exact this, hslo⟩
     unfold wpOp;rw [ho];simp only;cases it with
     | q p L =>
      obtain ⟨g, hg, hstep⟩ := hati;rw [yZ hslo hg];cases g with
      | true =>
       simp only [if_true] at hstep ⊢;refine .inl (hstep _ (fun b hb => hsame b hb) c a w _ Q' hrel fun v w2 hv hg2 hx2 => hnext v c w2 (.inl hv) ?_ hx2)
       have hg2 := hg2;simp only [AS.keep, pre, h3] at hg2;exact hg2
      | false =>
       simp only [kg, if_false] at hstep ⊢;subst hstep;exact hnext undef c w (.inl z6v) hmid.good (Ext.refl _ _)
     | al pf b cs e L =>
      obtain ⟨hbn, hg, hnew⟩ := hati;rw [yZ hslo hg];simp only [if_true];have hgone : (heapAt (fun j => listed.getD j false) its lo σ.H)[b]? = some .gone := by
       rw [hsame b (by simp [Item.rd])]; exact hbn
      obtain ⟨hlf, hnew⟩ := hnew _ (fun b' hb' => hsame b' (by simp [Item.rd, hb']))
      refine .inl ?_;rcases hnew w c a hrel with ⟨v, d, ⟨vs, fr, k1, k2, k3, k4, k5⟩ | ⟨rfl, k1, k2⟩⟩
      ·have hq2 := z1p hmid.good d;obtain ⟨g2, x2, hs2⟩ := zro hq2.1 hgone (e := e) (fr := fr) k3 k2 hlf (VRs.ext hq2.2 cs (fun _ _ _ e => e) k4)
       exact je k1 (hnext _ _ _ (.inl (k5 _ _ b (z2r { w with drawn := d } _) hs2)) g2 (hq2.2.trans x2))
      ·have hq2 := z1p hmid.good d;obtain ⟨g2, hn2⟩ := zuh hq2.1 hgone e;exact je k1 (hnext _ _ _ (.inl (k2 _ _ b hn2)) g2 hq2.2)
     | ef p us L =>
      obtain ⟨hg, hstep⟩ := hati;rw [yZ hslo hg];simp only [if_true];refine .inl (hstep _ (fun b hb => hsame b (by simpa only [Item.rd] using hb)) c a w _ Q' hrel fun v c2 w2 hv hg2 hx2 => hnext v c2 w2 hv ?_ hx2)
      have hg2 := hg2;simp only [AS.keep, pre, h3] at hg2;exact hg2
end D
theorem zmm {t e : TypeId} {a : Option Addr} {n m : Nat} (ht : P.underlying t = some (.slice e)) : (Op.equal t (.slice a n m) (.slice none 0 0)).run P w = .ok a.isNone w := by
 show (Op.equalIn (9999 + 1) t _ _).run P w = _;unfold Op.equalIn;rw [kB, run_underlying ht];cases a <;> rfl
theorem zt5 {n : Nat} (h : (∃ cs t, p = .tr n cs t) \/ ∃ b off sz, p = .sl b off n sz) (hv : VR w c p v) : ∃ a k m, v = .slice a k m /\ (n ≠ 0 -> a.isNone = false) := by
 rcases h with ⟨cs, t, rfl⟩ | ⟨b, off, sz, rfl⟩
 ·simp only [VR] at hv;rcases hv with ⟨rfl, h2, _⟩ | ⟨a, cap, rfl, _⟩
  ·exact ⟨none, 0, 0, rfl, fun h => absurd h2 h⟩
  ·exact ⟨some a, n, cap, rfl, fun _ => rfl⟩
 ·simp only [VR] at hv;rcases hv with ⟨⟨a, rfl⟩, h2⟩ | ⟨k, cap, off', _, rfl, _⟩
  ·exact ⟨a, 0, 0, rfl, fun h => absurd h2 h⟩
  ·exact ⟨_, n, cap, rfl, fun _ => rfl⟩
theorem zpa {t yt e : TypeId} {op : BinOp} {ng : Bool} {n : Nat} (ho : o.op = .binOp op t x (.const (.slice none 0 0)) yt) (hop : (op = .eql /\ ng = false) \/ (op = .neq /\ ng = true)) (ht : P.underlying t = some (.slice e)) (hx : σ.eval x = p)
  (hp : (∃ cs t, p = .tr n cs t) \/ ∃ b off sz, p = .sl b off n sz) {c : Cx} {a : Act} {w : World} {K : Act -> World -> Prop} {Q : Exit -> Act -> World -> Prop} (hr : RelC w c σ a)
  (hK : ∀ b : Bool, (n ≠ 0 -> b = false) -> K (a.put o.dst (.bool (bif ng then !b else b))) w) : o.wp P a w K Q := by
 have hv := hr.2.eval x;rw [hx] at hv;obtain ⟨ad, k, m, e1, h1⟩ := zt5 hp hv;have ey : a.eval (.const (.slice none 0 0)) = .slice none 0 0 := rfl;have he := zmm (P := P) (w := w) (a := ad) (n := k) (m := m) ht;refine je (w' := w) (v := .bool (bif ng then !ad.isNone else ad.isNone)) ?_ (hK ad.isNone h1)
 rcases hop with ⟨rfl, rfl⟩ | ⟨rfl, rfl⟩
 ·simp only [execOp, ho, e1, ey, kB, xw (P := P) (w := w) (op := .eql) (t := t) (x := x) (y := .const (.slice none 0 0)) (a := .slice ad k m) (b := .slice none 0 0) (by simp) (by simp), kA]
  rw [show binOp .eql t (.slice ad k m) (.slice none 0 0) = (do pure (.bool (<- Op.equal t (.slice ad k m) (.slice none 0 0)))) from rfl, kB, he]; rfl
 ·simp only [execOp, ho, e1, ey, kB, xw (P := P) (w := w) (op := .neq) (t := t) (x := x) (y := .const (.slice none 0 0)) (a := .slice ad k m) (b := .slice none 0 0) (by simp) (by simp), kA]
  rw [show binOp .neq t (.slice ad k m) (.slice none 0 0) = (do pure (.bool (!(<- Op.equal t (.slice ad k m) (.slice none 0 0))))) from rfl, kB, he]; rfl
theorem zor {t e el : TypeId} {lo hi : Option Operand} {b off n sz l h : Nat} {cs : List PV} (ho : o.op = .slice t x lo hi none) (ha : P.underlying t = some (.array n e))
  (hs : ye P e = some sz) (hx : σ.eval x = .ptr b off) (hb : σ.H[b]? = some (.row cs el)) (hlen : off + n * sz <= cs.length)
  (hl : zH σ lo 0 l) (hh : zH σ hi n h) (h1 : l <= h) (h2 : h <= n) : QStep P o σ (.sl b (off + l * sz) (h - l) sz) :=
 zP fun w c a hr => by
  have hv := hr.2.eval x;rw [hx] at hv;simp only [VR] at hv;obtain ⟨k, hk, hxe⟩ := hv;obtain ⟨vs, fr, h4, h5, h6, h7, h8⟩ := (hr.1.obj b _ hb).row hk;refine ⟨.slice (some (if n = l then ⟨k, off, none⟩ else (⟨k, off, none⟩ : Addr).add (l * sz))) (h - l) (n - l), ?_, ?_⟩
  ·simp only [execOp, ho, hxe, Instr.sliceAt, Instr.sureAddr, kB, kA, Option.map_none, kL, run_underlying ha, z04 hr hl hh h1 h2, run_sizeOf hs]
  ·simp only [VR]
   by_cases hn : n = l
   ·rw [if_pos hn];refine .inr ⟨k, n - l, off, hk, rfl, ?_, by omega, vs, el, fr, h4, ?_⟩
    ·by_cases hz : l * sz = 0
     ·exact .inr (by omega)
     ·exact .inl ⟨by omega, by omega⟩
    ·rw [hn, ky, kz]; omega
   ·rw [if_neg hn, xz];refine .inr ⟨k, n - l, off + l * sz, hk, rfl, .inr rfl, by omega, vs, el, fr, h4, ?_⟩
    have : l * sz + (n - l) * sz = n * sz := by rw [<- kc]; congr 1; omega
    omega
def Wd (r : Option Nat) : Fence := { Fence.wide with round := r }
theorem zne (r : Option Nat) (n : Nat) : (Wd r).room n := fun _ h => by simp [Wd, Fence.wide] at h
theorem jr (r : Option Nat) (P : Program) (m : Machine) : m.fenced P (Wd r) := fenced_wide P m
theorem ztc {r : Option Nat} {f : FuncId} {args : Array Value} {R : Ending -> World -> Prop} (h : Calls P f args w R) : CallsIn (Wd r) 0 P f args w R := (callsIn_wide (n := 0)).2 h
theorem zuq {r : Option Nat} {row : String} {args : Array Value} {R : Value -> World -> Prop} (h : Rows P row args w R) : RowsIn (Wd r) 0 P row args w R := fun c cs _ => by
 obtain ⟨v, w', r1, s⟩ := h c cs;exact ⟨v, w', r1, (StepsIn.of_steps s).mono fun m _ => fenced_wide P m⟩
theorem zhi {r : Option Nat} {K : Act -> World -> Prop} {Q : Exit -> Act -> World -> Prop} (hd : ∀ c, o.op ≠ .defer c) (h : o.wp P a w K Q) : o.wpIn (Wd r) 0 P a w K Q := by
 refine ⟨fun _ _ => trivial, ?_⟩
 rw [Oper.semAt_eq _ _ _ hd];unfold Oper.wp at h;generalize (execOp a.eval o).run P w = res at h ⊢;unfold Oper.upon at h;split at h
 ·exact h
 ·exact h
 ·exact h
 ·exact ⟨fun h => by simp [Wd, Fence.wide] at h, ztc h⟩
 ·exact ⟨fun h => by simp [Wd, Fence.wide] at h, zuq h⟩
 ·exact h
 ·exact h.elim
theorem zqg {Q : Exit -> Act -> World -> Prop} : ¬ LetsOut (fun e a w => e = .normal /\ Q e a w) := fun ⟨_, _, h⟩ => by cases h.1
def z8m (l : List Oper) : Bool := l.all fun o => match o.op with
 | .defer _ => false
 | _ => true
theorem zh6 {ops : Array Oper} (h : z8m ops.toList = true) {i : Nat} (ho : ops[i]? = some o) : ∀ c, o.op ≠ .defer c := fun c e => by
 have hm : o ∈ ops.toList := by
  rw [Array.mem_toList_iff];exact Array.mem_of_getElem? ho
 have := kr.1 h o hm;rw [e] at this;cases this
theorem zgc {r : Option Nat} {P : Program} {ops : Array Oper} {Q : Exit -> Act -> World -> Prop} (hc : z8m ops.toList = true) (hQ : ¬ LetsOut Q) : ∀ (l : List Nat) (a : Act) (w : World), wpOps P ops Q l a w -> wpOpsIn (Wd r) 0 P ops Q l a w
 | [], _, _, h => h
 | i :: rest, a, w, h => by
  simp only [wpOps] at h;simp only [wpOpsIn];cases ho : ops[i]? with
  | none =>
   rw [ho] at h;exact zgc hc hQ rest a w h
  | some o =>
   rw [ho] at h;dsimp only at h ⊢;split at h
   ·rename_i hw;rw [if_pos hw];rcases h with h | h
    ·exact Oper.wpIn_mono (fun a w => zgc hc hQ rest a w) (zhi (zh6 hc ho) h)
    ·exact absurd h.2 hQ
   ·rename_i hw;rw [if_neg hw];exact ⟨fun _ _ => trivial, zgc hc hQ rest _ w h⟩
theorem zfc {r : Option Nat} {P : Program} {md : Region.Mode} {ops : Array Oper} {Q : Exit -> Act -> World -> Prop} (hc : z8m ops.toList = true) (hQ : ¬ LetsOut Q) : ∀ (fuel : Nat) (listed : Array Bool) (a : Act) (w : World), wpAny P md ops Q fuel listed a w -> wpAnyIn (Wd r) 0 P md ops Q fuel listed a w
 | 0, _, _, _, h => h
 | fuel + 1, listed, a, w, h => by
  refine ⟨h.1, fun i hi => ?_⟩
  have h2 := h.2 i hi;unfold wpOp at h2;unfold wpOpIn;cases ho : ops[i]? with
  | none =>
   rw [ho] at h2;exact zfc hc hQ fuel _ a w h2
  | some o =>
   rw [ho] at h2;dsimp only at h2 ⊢;split at h2
   ·rename_i hw;rw [if_pos hw];rcases h2 with h2 | h2
    ·exact Oper.wpIn_mono (fun a w => zfc hc hQ fuel _ a w) (zhi (zh6 hc ho) h2)
    ·exact absurd h2.2 hQ
   ·rename_i hw;rw [if_neg hw];exact ⟨fun _ _ => trivial, zfc hc hQ fuel _ _ w h2⟩
section
variable {P : Program} {b : Frame} {a : Act} {k : List Go.Item} {cs : List Frame} {w : World} {Q : Exit -> Act -> World -> Prop}
theorem z0d {c : Code} : step P (lone (b.atR a (.code (.scope c) :: k)) cs w) = .next (lone (b.atR a (.code c :: .inScope c :: k)) cs w) :=
 step_lone_go (by simp [stepG, stepG.exec, Frame.atR])
theorem zj8 {c : Code} : step P (lone (b.atR a (.inScope c :: k)) cs w) = .next (lone (b.atR a k) cs w) :=
 step_lone_go (by simp [stepG, stepG.exec, Frame.atR])
theorem zpd {r : Option Nat} {c : Code} (h : c.wpIn (Wd r) 0 P (Exit.noGoto Q) a w) : (Code.scope c).wpIn (Wd r) 0 P Q a w := by
 intro b k cs hro hb hr;obtain ⟨e, a₁, w₁, hq, harr⟩ := h b (.inScope c :: k) cs hro hb hr;cases e with
 | normal =>
  have h1 : StepsIn (Machine.fenced P (Wd r)) P (lone (b.atR a (.code c :: .inScope c :: k)) cs w) (lone (b.atR a₁ (.inScope c :: k)) cs w₁) := harr;have h2 : StepsIn (Machine.fenced P (Wd r)) P (lone (b.atR a₁ (.inScope c :: k)) cs w₁) (lone (b.atR a₁ k) cs w₁) := .one (jr r P _) zj8;exact ⟨.normal, a₁, w₁, hq, .of_steps (.one (jr r P _) z0d) (h1.trans h2)⟩
 | exit id =>
  refine ⟨.exit id, a₁, w₁, hq, fun k' hk => .head (jr r P _) z0d (harr.1 k' (by simp [exitTo, hk])), fun hs hk => ?_⟩
  obtain ⟨k1, h1, h2⟩ := harr.2 hs (by simp [exitTo, hk])
  exact ⟨k1, h1, .head (jr r P _) z0d h2⟩
 | goto l => exact hq.elim
 | ret => exact ⟨.ret, a₁, w₁, hq, .of_steps (.one (jr r P _) z0d) (show ArrivesIn _ P _ b k cs .ret a₁ w₁ from harr)⟩
 | panic ch => exact ⟨.panic ch, a₁, w₁, hq, .of_steps (.one (jr r P _) z0d) (show ArrivesIn _ P _ b k cs (.panic ch) a₁ w₁ from harr)⟩
 | outgrown => exact ⟨.outgrown, a₁, w₁, hq, .of_steps (.one (jr r P _) z0d) (show ArrivesIn _ P _ b k cs .outgrown a₁ w₁ from harr)⟩
end
structure Foreign (M : Nat -> Prop) (w w' : World) : Prop where
 os : w'.os = w.os
 tape : w'.tape = w.tape
 output : w'.output = w.output
 size : w.heap.size <= w'.heap.size
 keep : ∀ k, k < w.heap.size -> ¬ M k -> w'.heap[k]? = w.heap[k]?
theorem Foreign.refl (M : Nat -> Prop) (w : World) : Foreign M w w := ⟨rfl, rfl, rfl, kD _, fun _ _ _ => rfl⟩
def Grows (w : World) (M M' : Nat -> Prop) : Prop := ∀ k, M' k -> M k \/ w.heap.size <= k
theorem Foreign.trans {M M' : Nat -> Prop} {w w' w2 : World} (h : Foreign M w w') (hg : Grows w M M') (h2 : Foreign M' w' w2) : Foreign M w w2 where
 os := h2.os.trans h.os
 tape := h2.tape.trans h.tape
 output := h2.output.trans h.output
 size := k9 h.size h2.size
 keep := fun k hk hm => (h2.keep k (kF hk h.size) fun h' => (hg k h').elim hm fun h' => absurd hk (kN.2 h')).trans (h.keep k hk hm)
theorem Grows.trans {w w' : World} {M M' M2 : Nat -> Prop} (h : Grows w M M') (hs : w.heap.size <= w'.heap.size) (h2 : Grows w' M' M2) : Grows w M M2 := fun k hk =>
 (h2 k hk).elim (h k) fun h' => .inr (k9 hs h')
structure Apart (M : Nat -> Prop) (w : World) (c : Cx) : Prop where
 m : ∀ k : Nat, some k ∈ c.m -> ¬ M k
 ok : ∀ k e, c.ok k e -> ¬ M k \/ w.heap.size <= k
 lt : ∀ k, M k -> k < w.heap.size
 gb : ∀ k, M k -> gb <= k
def Cx.sans (c : Cx) (M : Nat -> Prop) : Cx := { c with ok := fun k e => c.ok k e /\ ¬ M k }
structure Sees (w : World) (c : Cx) (w' : World) (c' : Cx) : Prop where
 m : ∀ b k : Nat, c.m[b]? = some (some k) -> c'.m[b]? = some (some k)
 T : c.T = []
 foot : ∀ a n, Foot w c a n -> Foot w' c' a n
 cell : ∀ (a : Addr) n i v, Foot w c a n -> i < n -> w.cell? ⟨a.block, a.off + i, none⟩ = some v -> w'.cell? ⟨a.block, a.off + i, none⟩ = some v
 room : ∀ (b k : Nat) vs e fr, c.m[b]? = some (some k) -> w.heap[k]? = some (Obj.cells vs e fr) -> ∃ (vs' : Array Value) (fr' : Nat × Nat), w'.heap[k]? = some (Obj.cells vs' e fr') /\ vs'.size = vs.size
mutual
theorem VR.sees {w w' : World} {c c' : Cx} (x : Sees w c w' c') : ∀ (p : PV) {v : Value}, VR w c p v -> VR w' c' p v
 | .val _, _, h => by simp only [VR] at h ⊢; exact h
 | .ptr b off, _, h => by
  simp only [VR] at h ⊢;obtain ⟨k, h1, h2⟩ := h;exact ⟨k, x.m _ _ h1, h2⟩
 | .fz cs, _, h => by
  simp only [VR] at h ⊢;obtain ⟨a, h1, h2, hl, h3⟩ := h;exact ⟨a, h1, x.foot _ _ h2, hl, VRs.sees x cs (fun i hi v hv => x.cell a _ i v h2 hi hv) h3⟩
 | .sl b off len sz, _, h => by
  simp only [VR] at h ⊢;rcases h with h | ⟨k, cap, off', h1, h2, h0, h3, vs, e, fr, h4, h5⟩
  ·exact .inl h
  ·obtain ⟨vs', fr', h6, h7⟩ := x.room b k vs e fr h1 h4;exact .inr ⟨k, cap, off', x.m _ _ h1, h2, h0, h3, vs', e, fr', h6, by omega⟩
 | .tr len cs t, _, h => by
  simp only [VR] at h ⊢;rcases h with h | ⟨a, cap, h1, hc, h2, h4, hl, h3⟩
  ·exact .inl h
  ·refine .inr ⟨a, cap, h1, hc, x.foot _ _ h2, ?_, hl, VRs.sees x cs (fun i hi v hv => x.cell a _ i v h2 hi hv) h3⟩
   cases t with
   | no => trivial
   | full => exact h4
   | tok i sz => have := h4.1; rw [x.T] at this; simp at this
 | .fn f caps, _, h => by
  simp only [VR] at h ⊢;obtain ⟨cv, h1, h2, h3⟩ := h;exact ⟨cv, h1, h2, VRs.sees x caps (fun _ _ _ e => e) h3⟩
 | .agg cs, _, h => by
  simp only [VR] at h ⊢;obtain ⟨cv, h1, h2, hl, h3⟩ := h;exact ⟨cv, h1, h2, hl, VRs.sees x cs (fun _ _ _ e => e) h3⟩
 | .tup cs, _, h => by
  simp only [VR] at h ⊢;obtain ⟨cv, h1, h2, h3⟩ := h;exact ⟨cv, h1, h2, VRs.sees x cs (fun _ _ _ e => e) h3⟩
 | .ifc t p, _, h => by
  simp only [VR] at h ⊢;obtain ⟨v, h1, h2⟩ := h;exact ⟨v, h1, VR.sees x p h2⟩
 | .mp b, _, h => by
  simp only [VR] at h ⊢;obtain ⟨k, h1, h2⟩ := h;exact ⟨k, x.m _ _ h1, h2⟩
 | .one, _, h => by simp only [VR] at h ⊢; exact h
 | .dead, _, _ => by simp only [VR]
theorem VRs.sees {w w' : World} {c c' : Cx} (x : Sees w c w' c') : ∀ (ps : List PV) {f g : Nat -> Option Value},
  (∀ i, i < ps.length -> ∀ v, f i = some v -> g i = some v) -> VRs w c ps f -> VRs w' c' ps g
 | [], _, _, _, _ => by simp only [VRs]
 | p :: ps, f, g, hfg, h => by
  simp only [VRs] at h ⊢;obtain ⟨⟨v, h1, h2⟩, h3⟩ := h;exact ⟨⟨v, hfg 0 (by simp) v h1, VR.sees x p h2⟩, VRs.sees x ps (fun i hi u hu => hfg (i + 1) (by simp; omega) u hu) h3⟩
end
theorem zca {M M' : Nat -> Prop} {w w' : World} {H : List AObj} (g : Good w c H []) (ap : Apart M w c) (f : Foreign M w w') (hg : Grows w M M') : Sees w c w' (c.sans M') where
 m := fun b k h => h
 T := by
  have := g.tl;exact kZ this
 foot := fun a n h => by
  rcases h with h | ⟨h1, h2, h3, h4, h5⟩
  ·exact .inl h
  ·have hM : ¬ M a.block := (ap.ok _ _ h5).elim id fun h' => absurd h2 (kN.2 h')
   exact .inr ⟨h1, kF h2 f.size, h3, h4, h5, fun h' => (hg _ h').elim hM fun h'' => absurd h2 (kN.2 h'')⟩
 cell := fun a n i v h hi hv => by
  rcases h with h | ⟨h1, h2, h3, h4, h5⟩
  ·omega
  ·have hM : ¬ M a.block := (ap.ok _ _ h5).elim id fun h' => absurd h2 (kN.2 h')
   have : w'.cell? ⟨a.block, a.off + i, none⟩ = w.cell? ⟨a.block, a.off + i, none⟩ := qy (f.keep _ h2 hM);rw [this]; exact hv
 room := fun b k vs e fr h hh => ⟨vs, fr, (f.keep k (ObjC.lt g h) (ap.m k (kb h))).trans hh, rfl⟩
theorem zkm {M M' : Nat -> Prop} {w w' : World} {H : List AObj} (g : Good w c H []) (ap : Apart M w c) (f : Foreign M w w') (hg : Grows w M M') (hlt : ∀ k, M' k -> k < w'.heap.size) :
  Good w' (c.sans M') H [] := by
 have x := zca g ap f hg;have hk : ∀ b k : Nat, c.m[b]? = some (some k) -> w'.heap[k]? = w.heap[k]? := fun b k h => f.keep k (ObjC.lt g h) (ap.m k (kb h))
 have hnM' : ∀ b k : Nat, c.m[b]? = some (some k) -> ¬ M' k := fun b k h h' => (hg k h').elim (ap.m k (kb h)) fun h'' => absurd (ObjC.lt g h) (kN.2 h'')
 refine ⟨g.len, g.inj, fun b o h => ?_, g.tl, g.tal, g.tdead, fun i k j h => by rw [show (c.sans M').T = c.T from rfl, x.T] at h; simp at h, g.tinj, fun k e h => ⟨g.okn k e (k9 f.size h), fun h' => absurd (hlt k h') (kN.2 h)⟩,
  fun k e e' h he => ⟨g.okm k e e' h.1 he, h.2⟩, fun i k j h => by rw [show (c.sans M').T = c.T from rfl, x.T] at h; simp at h, fun b k hb h e => ⟨g.oko b k hb h e, hnM' b k h⟩, ⟨k9 g.gl.sz f.size, g.gl.m, g.gl.T, Glob.stay (fun k hk => f.keep k (kF hk g.gl.sz) fun h' => kN.2 (ap.gb k h') hk) g.gl.var⟩⟩
 exact (g.obj b o h).see id (fun k h1 => ⟨h1, hk b k h1⟩) fun cs _ => VRs.sees x cs fun _ _ _ e => e
def Cx.own (c : Cx) (k : Nat) : Prop := some k ∈ c.m
theorem ze7 {p : Nat} {w w' : World} {c c' : Cx} (x : ExtP p w c w' c') : Foreign c.own w w' /\ Grows w c.own c'.own :=
 ⟨⟨x.os, x.tape, x.output, x.size, fun k hk hm => x.blocks k hk hm⟩, fun k hk => x.new k hk⟩
theorem zu1 {H : List AObj} {ok' : Nat -> Nat -> Prop} (g : Good w c H []) (h : ∀ k e, c.ok k e -> ok' k e) (hm : ∀ k e e', ok' k e -> e' <= e -> ok' k e') : Good w { c with ok := ok' } H [] /\ Sees w c w { c with ok := ok' } := by
 have hT : c.T = [] := kZ g.tl;have x : Sees w c w { c with ok := ok' } := ⟨fun _ _ h => h, hT, fun a n hf => hf.elim .inl fun ⟨h1, h2, h3, h4, h5⟩ => .inr ⟨h1, h2, h3, h4, h _ _ h5⟩, fun _ _ _ _ _ _ h => h, fun b k vs e fr _ hh => ⟨vs, fr, hh, rfl⟩⟩
 refine ⟨⟨g.len, g.inj, fun b o ho => ?_, g.tl, g.tal, g.tdead, g.tok, g.tinj, fun k e hk => h _ _ (g.okn k e hk), hm, fun i k j hi => by rw [show ({ c with ok := ok' } : Cx).T = c.T from rfl, hT] at hi; simp at hi, fun b k hb hk e => h _ _ (g.oko b k hb hk e), ⟨g.gl.sz, g.gl.m, g.gl.T, g.gl.var⟩⟩, x⟩
 exact (g.obj b o ho).see id (fun k h1 => ⟨h1, rfl⟩) fun cs _ => VRs.sees x cs fun _ _ _ e => e
theorem Sees.trans {w w' w2 : World} {c c' c2 : Cx} (x : Sees w c w' c') (y : Sees w' c' w2 c2) : Sees w c w2 c2 where
 m := fun b k h => y.m _ _ (x.m _ _ h)
 T := x.T
 foot := fun a n h => y.foot _ _ (x.foot _ _ h)
 cell := fun a n i v h hi hv => y.cell a n i v (x.foot _ _ h) hi (x.cell a n i v h hi hv)
 room := fun b k vs e fr h hh => by
  obtain ⟨vs1, fr1, h1, h2⟩ := x.room b k vs e fr h hh;obtain ⟨vs2, fr2, h3, h4⟩ := y.room b k vs1 e fr1 (x.m _ _ h) h1;exact ⟨vs2, fr2, h3, h4.trans h2⟩
theorem z8y {M M' : Nat -> Prop} {K0 : Nat -> Nat -> Prop} {w w' : World} {H : List AObj} (g : Good w c H []) (hok : c.ok = fun k e => K0 k e /\ ¬ M k) (hK : ∀ k e e', K0 k e -> e' <= e -> K0 k e')
  (hm : ∀ k, c.own k -> ¬ M k) (hlt : ∀ k, M k -> k < w.heap.size) (hgb : ∀ k, M k -> gb <= k) (f : Foreign M w w') (hg : Grows w M M') (hlt' : ∀ k, M' k -> k < w'.heap.size) :
  Good w' { c with ok := fun k e => K0 k e /\ ¬ M' k } H [] /\ Sees w c w' { c with ok := fun k e => K0 k e /\ ¬ M' k } := by
 have ap : Apart M w c := ⟨hm, fun k e h => by rw [hok] at h; exact .inl h.2, hlt, hgb⟩
 have g1 := zkm g ap f hg hlt';have x1 := zca g ap f hg;have h := zu1 (ok' := fun k e => K0 k e /\ ¬ M' k) g1 (fun k e h => by
  have h1 : c.ok k e := h.1;rw [hok] at h1;exact ⟨h1.1, h.2⟩) (fun k e e' h he => ⟨hK k e e' h.1 he, h.2⟩)
 exact ⟨h.1, x1.trans h.2⟩
structure Two (K0 : Nat -> Nat -> Prop) (X : Nat -> Prop) (w : World) (cb : Cx) (Hb : List AObj) (ci : Cx) (Hi : List AObj) : Prop where
 b : Good w cb Hb []
 i : Good w ci Hi []
 bok : cb.ok = fun k e => K0 k e /\ ¬ (ci.own k \/ X k)
 iok : ci.ok = fun k e => K0 k e /\ ¬ (cb.own k \/ X k)
 mono : ∀ k e e', K0 k e -> e' <= e -> K0 k e'
 apart : ∀ k, cb.own k -> ¬ ci.own k
 xb : ∀ k, X k -> ¬ cb.own k
 xi : ∀ k, X k -> ¬ ci.own k
 xlt : ∀ k, X k -> k < w.heap.size
 xgb : ∀ k, X k -> gb <= k
theorem Two.own_b {K0 : Nat -> Nat -> Prop} {X : Nat -> Prop} {cb ci : Cx} {Hb Hi : List AObj} (h : Two K0 X w cb Hb ci Hi) {k : Nat} (hk : cb.own k) : k < w.heap.size /\ gb <= k := ⟨h.b.mlt hk, h.b.gl.m k hk⟩
theorem Two.own_i {K0 : Nat -> Nat -> Prop} {X : Nat -> Prop} {cb ci : Cx} {Hb Hi : List AObj} (h : Two K0 X w cb Hb ci Hi) {k : Nat} (hk : ci.own k) : k < w.heap.size /\ gb <= k := ⟨h.i.mlt hk, h.i.gl.m k hk⟩
theorem Two.body {K0 : Nat -> Nat -> Prop} {X : Nat -> Prop} {p : Nat} {w w' : World} {cb ci cb' : Cx} {Hb Hi Hb' : List AObj} (h : Two K0 X w cb Hb ci Hi) (x : ExtP p w cb w' cb') (g : Good w' cb' Hb' []) :
  Two K0 X w' cb' Hb' { ci with ok := fun k e => K0 k e /\ ¬ (cb'.own k \/ X k) } Hi /\ Sees w ci w' { ci with ok := fun k e => K0 k e /\ ¬ (cb'.own k \/ X k) } /\ ∀ k, X k -> w'.heap[k]? = w.heap[k]? := by
 obtain ⟨f, hg⟩ := ze7 x;have f' : Foreign (fun k => cb.own k \/ X k) w w' := ⟨f.os, f.tape, f.output, f.size, fun k hk hm => f.keep k hk fun h' => hm (.inl h')⟩
 have hg' : Grows w (fun k => cb.own k \/ X k) (fun k => cb'.own k \/ X k) := fun k hk => hk.elim (fun h' => (hg k h').elim (fun h2 => .inl (.inl h2)) .inr) fun h' => .inl (.inr h')
 obtain ⟨g2, x2⟩ := z8y (M' := fun k => cb'.own k \/ X k) h.i h.iok h.mono (fun k hk => fun h' => h'.elim (fun h2 => h.apart k h2 hk) fun h2 => h.xi k h2 hk) (fun k hk => hk.elim (fun h' => (h.own_b h').1) (h.xlt k)) (fun k hk => hk.elim (fun h' => (h.own_b h').2) (h.xgb k)) f' hg'
  (fun k hk => hk.elim (fun h' => g.mlt h') fun h' => kF (h.xlt k h') f.size)
 refine ⟨⟨g, g2, by rw [x.ok]; exact h.bok, rfl, h.mono, fun k hk hi => ?_, fun k hk hb => ?_, h.xi, fun k hk => kF (h.xlt k hk) f.size, h.xgb⟩, x2, fun k hk => f.keep k (h.xlt k hk) (h.xb k hk)⟩
 ·rcases hg k hk with h1 | h1
  ·exact h.apart k h1 hi
  ·exact absurd (h.own_i hi).1 (kN.2 h1)
 ·rcases hg k hb with h1 | h1
  ·exact h.xb k hk h1
  ·exact absurd (h.xlt k hk) (kN.2 h1)
theorem Two.round {K0 : Nat -> Nat -> Prop} {X : Nat -> Prop} {w w' : World} {cb ci cb' : Cx} {Hb Hi Hb' : List AObj} (h : Two K0 X w cb Hb ci Hi) (f' : Foreign (fun k => cb.own k \/ X k) w w') (hg : Grows w cb.own cb'.own) (hok : cb'.ok = cb.ok) (g : Good w' cb' Hb' []) :
  Two K0 X w' cb' Hb' { ci with ok := fun k e => K0 k e /\ ¬ (cb'.own k \/ X k) } Hi /\ Sees w ci w' { ci with ok := fun k e => K0 k e /\ ¬ (cb'.own k \/ X k) } := by
 have hg' : Grows w (fun k => cb.own k \/ X k) (fun k => cb'.own k \/ X k) := fun k hk => hk.elim (fun h' => (hg k h').elim (fun h2 => .inl (.inl h2)) .inr) fun h' => .inl (.inr h')
 obtain ⟨g2, x2⟩ := z8y (M' := fun k => cb'.own k \/ X k) h.i h.iok h.mono (fun k hk => fun h' => h'.elim (fun h2 => h.apart k h2 hk) fun h2 => h.xi k h2 hk) (fun k hk => hk.elim (fun h' => (h.own_b h').1) (h.xlt k)) (fun k hk => hk.elim (fun h' => (h.own_b h').2) (h.xgb k)) f' hg'
  (fun k hk => hk.elim (fun h' => g.mlt h') fun h' => kF (h.xlt k h') f'.size)
 refine ⟨⟨g, g2, by rw [hok]; exact h.bok, rfl, h.mono, fun k hk hi => ?_, fun k hk hb => ?_, h.xi, fun k hk => kF (h.xlt k hk) f'.size, h.xgb⟩, x2⟩
 ·rcases hg k hk with h1 | h1
  ·exact h.apart k h1 hi
  ·exact absurd (h.own_i hi).1 (kN.2 h1)
 ·rcases hg k hb with h1 | h1
  ·exact h.xb k hk h1
  ·exact absurd (h.xlt k hk) (kN.2 h1)
theorem Two.iter {K0 : Nat -> Nat -> Prop} {X : Nat -> Prop} {p : Nat} {w w' : World} {cb ci ci' : Cx} {Hb Hi Hi' : List AObj} (h : Two K0 X w cb Hb ci Hi) (x : ExtP p w ci w' ci') (g : Good w' ci' Hi' []) :
  Two K0 X w' { cb with ok := fun k e => K0 k e /\ ¬ (ci'.own k \/ X k) } Hb ci' Hi' /\ Sees w cb w' { cb with ok := fun k e => K0 k e /\ ¬ (ci'.own k \/ X k) } /\ ∀ k, X k -> w'.heap[k]? = w.heap[k]? := by
 obtain ⟨f, hg⟩ := ze7 x;have f' : Foreign (fun k => ci.own k \/ X k) w w' := ⟨f.os, f.tape, f.output, f.size, fun k hk hm => f.keep k hk fun h' => hm (.inl h')⟩
 have hg' : Grows w (fun k => ci.own k \/ X k) (fun k => ci'.own k \/ X k) := fun k hk => hk.elim (fun h' => (hg k h').elim (fun h2 => .inl (.inl h2)) .inr) fun h' => .inl (.inr h')
 obtain ⟨g2, x2⟩ := z8y (M' := fun k => ci'.own k \/ X k) h.b h.bok h.mono (fun k hk => fun h' => h'.elim (fun h2 => h.apart k hk h2) fun h2 => h.xb k h2 hk) (fun k hk => hk.elim (fun h' => (h.own_i h').1) (h.xlt k)) (fun k hk => hk.elim (fun h' => (h.own_i h').2) (h.xgb k)) f' hg'
  (fun k hk => hk.elim (fun h' => g.mlt h') fun h' => kF (h.xlt k h') f.size)
 refine ⟨⟨g2, g, rfl, by rw [x.ok]; exact h.iok, h.mono, fun k hk hi => ?_, h.xb, fun k hk hi => ?_, fun k hk => kF (h.xlt k hk) f.size, h.xgb⟩, x2, fun k hk => f.keep k (h.xlt k hk) (h.xi k hk)⟩
 ·rcases hg k hi with h1 | h1
  ·exact h.apart k hk h1
  ·exact absurd (h.own_b hk).1 (kN.2 h1)
 ·rcases hg k hi with h1 | h1
  ·exact h.xi k hk h1
  ·exact absurd (h.xlt k hk) (kN.2 h1)
end Go.Ab
