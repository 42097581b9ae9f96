import Derived.Test.YtpfjfldagldgnaaTm19to26
import Derived.Test.YtpfjfldagldgnaaTm27to34
import Derived.Test.YtpfjfldagldgnaaProg
import Derived.Shelf.Spec.SlicesGrow
open List renaming length → kA, replicate → kC, eq_nil_of_length_eq_zero → kE, length_drop → kF
open Nat renaming beq → kB, le_refl → kI, ble → kJ
open Option renaming bind_some → kD
open Int renaming tdiv → kG, tmod → kH
set_option maxRecDepth 100000
set_option linter.unusedVariables false
noncomputable section
set_option linter.unusedSimpArgs false
namespace Go.Proofs.Ytpfjfldagldgnaa
open Go.Tm Go.Ab
def ybd : Env := ⟨[], [], []⟩
theorem y72 : EnvsOK Try.prog ybd := ⟨zj _, zg _, zf _⟩
def zpk : Shp := ⟨1, 0, [(0, .tu [.d (.int .i64), .d (.int .i64), .d (.int .i64)])], []⟩
def zv8 : XS := .one .ret zpk.xe
theorem y4g : zv8.OK := XS.one_ok (za zpk)
def zgr (b : List Int) : Option ((Int × Int × Int)) :=
 (yn b 0).bind fun x =>
 bif ltI x 255 then
 (yn b 0).bind fun x2 =>
 some (W64 (x2), 1, 0)
 else
 zk (kA b) (
 bif ltI (kA b : Nat) 3 then
 some (0, 0, 8)
 else
 (yn b 1).bind fun x3 =>
 (yn b 2).bind fun x4 =>
 bif ltI (zh0 .or .i64 (shI .shl .i64 (W64 (x3)) 8) (W64 (x4))) 255 then
 some (0, 0, 7)
 else
 some ((zh0 .or .i64 (shI .shl .i64 (W64 (x3)) 8) (W64 (x4)), 3, 0)))
def zv7 : Sig := ⟨75, [.d (.sl (.int .u8))], [], 0, zv8⟩
def zsh (x : (List Int)) : Option ((Int × Int × Int)) := zgr x
theorem y9e : FnOK Try.prog zv7 zsh :=
 zx y72 (h := .no) Try.func75 (ze [] (by kernel_rfl) trivial) (by kernel_rfl) y4g (fun x => by kernel_rfl)
def y36 : Env := ⟨[(zD zv7 zsh)], [], []⟩
theorem zhy : EnvsOK Try.prog y36 := ⟨zd (zh y9e) (zj _), zg _, zf _⟩
def z5n : Shp := ⟨48, 0, [(3, .d (.sl (.int .u8))), (4, .d (.int .i64)), (5, .d (.int .i64)), (6, .d (.int .i64))], []⟩
def z24 : XS := .one .normal (XE.yl 0 z5n.xe)
theorem zg2 : z24.OK := XS.one_ok (XE.yl_ok 0 (za z5n))
def zbc : Shp := ⟨48, 0, [], []⟩
def zbd : Shp := ⟨48, 0, [], []⟩
def vG : XS := .or (.exit 0) zbc.xe (.one .ret zbd.xe)
theorem zou : vG.OK := XS.or_ok (za zbc) (XS.one_ok (za zbd))
def vF : Shp := ⟨48, 0, [(3, .d (.sl (.int .u8)))], []⟩
abbrev z6g := List ((List Int) × Int) × Nat × (List Int)
abbrev zf2 := List ((List Int) × Int) × ((Unit) ⊕ (Unit))
def vH (dec : Nat -> List ((List Int) × Int) -> Option Bool) (tr : List ((List Int) × Int)) (l : Nat) (rest : List Int) : Option (z6g ⊕ zf2) :=
 zk (kA rest) (
 bif ltI 0 (kA rest : Nat) then
 (zgr rest).bind fun r =>
 (show Option (List ((List Int) × Int) × ((Nat × (List Int) × Int × Int × Int))) from
 bif eqI r.2.2 0 then
 zk (kA rest) (
 bif ltI (W64 ((kA rest : Nat) - r.2.1)) r.1 then
 some (tr, (l, rest, r.1, r.2.1, 8))
 else
 some (tr, (l, rest, r.1, r.2.1, r.2.2)))
 else
 some (tr, (l, rest, r.1, r.2.1, r.2.2))).bind fun j =>
 bif neI j.2.2.2.2.2 0 then
 (dec j.2.1 (j.1 ++ [([], j.2.2.2.2.2)])).bind fun b =>
 some (.inr ((j.1 ++ [([], j.2.2.2.2.2)]), .inr ()))
 else
 bif zV j.2.2.2.2.1 (W64 (j.2.2.2.2.1 + j.2.2.2.1)) (kA j.2.2.1) then
 qL (kA ([] : List Int)) (kA (zA j.2.2.1 j.2.2.2.2.1 (W64 (j.2.2.2.2.1 + j.2.2.2.1)))) 1 fun _ =>
 (dec j.2.1 (j.1 ++ [(([] : List Int) ++ (zA j.2.2.1 j.2.2.2.2.1 (W64 (j.2.2.2.2.1 + j.2.2.2.1))), 0)])).bind fun b2 =>
 bif !b2 then
 some (.inr ((j.1 ++ [(([] : List Int) ++ (zA j.2.2.1 j.2.2.2.2.1 (W64 (j.2.2.2.2.1 + j.2.2.2.1))), 0)]), .inr ()))
 else
 bif zV (W64 (j.2.2.2.2.1 + j.2.2.2.1)) (kA j.2.2.1 : Nat) (kA j.2.2.1) then
 some (.inl ((j.1 ++ [(([] : List Int) ++ (zA j.2.2.1 j.2.2.2.2.1 (W64 (j.2.2.2.2.1 + j.2.2.2.1))), 0)]), (j.2.1, zA j.2.2.1 (W64 (j.2.2.2.2.1 + j.2.2.2.1)) (kA j.2.2.1 : Nat))))
 else none
 else none
 else
 some (.inr (tr, .inl ())))
def jf (dec : Nat -> List ((List Int) × Int) -> Option Bool) (s : z6g) : Option (z6g ⊕ zf2) := vH dec s.1 s.2.1 s.2.2
theorem zqr (dec : Nat -> List ((List Int) × Int) -> Option Bool) : SoundY Try.prog [.d (.sl (.int .u8)), .d (.int .i64)] dec (.loop (zN (zw Try.f74) [1, 0, 0])) (zyh (XE.yl 0 vF.xe) vG (zb (jf dec))) :=
 ykv (A := [.d (.sl (.int .u8)), .d (.int .i64)]) (S := (XE.yl 0 vF.xe)) (X := vG) zhy (g := (.two (.pl .no) (.two (.pl .no) (.join (fun _ => z24) (.pl .no) (.two (.two (.pl .no) (.two (.two .no (.pl .no)) (.pl .no))) (.two (.two .no (.pl .no)) (.pl .no))))))) (yly [.xs (fun _ => z24)] (by kernel_rfl) ⟨(qB zg2), trivial⟩) (XE.yl_ok 0 (za vF)) zou (jf dec) (fun s => by kernel_rfl)
def zfk (dec : Nat -> List ((List Int) × Int) -> Option Bool) (l : Nat) (t1 : List Int) : Option (List ((List Int) × Int)) :=
 (zb (jf dec) ([], (l, t1))).bind fun o =>
 Sum.elim (fun y =>
 some o.1) (fun y2 =>
 some o.1) o.2
def y35 (dec : Nat -> List ((List Int) × Int) -> Option Bool) (l : Nat) (x : (List Int)) : Option (List ((List Int) × Int)) := zfk dec l x
theorem zy1 {G : (List ((List Int) × Int) -> Option Bool) -> ((List Int)) -> Option (List ((List Int) × Int))} (hG : ∀ dec l x tr, G dec x = some tr -> y35 (onY l dec) l x = some tr) : SeqOK Try.prog 74 [.d (.sl (.int .u8)), .d (.int .i64)] [.rf (.d (.sl (.int .u8)))] G :=
 yxh (A := [.d (.sl (.int .u8)), .d (.int .i64)]) (C := [.rf (.d (.sl (.int .u8)))]) zhy (g := fun dec => (.two (.pl .no) (.over (zyh (XE.yl 0 vF.xe) vG (zb (jf dec)))))) Try.func74 (by kernel_rfl) (fun dec => yly [.den (.loop (zN (zw Try.f74) [1, 0, 0])) (zyh (XE.yl 0 vF.xe) vG (zb (jf dec)))] (by kernel_rfl) ⟨(zqr dec), trivial⟩) (by kernel_rfl) (fun dec l x => by kernel_rfl) hG
def okB (l : List Int) : Bool := l.all (fun b => decide (0 <= b /\ b <= 255)) && decide (l.length <= 1099511627776)
theorem zrm {l : List Int} : okB l = true ↔ (∀ b, b ∈ l -> 0 <= b /\ b <= 255) /\ l.length <= 1099511627776 := by
 simp [okB, List.all_eq_true]
def zF : List Int -> Int × Int × Int
 | [] => (0, 0, 0)
 | b :: l => if b < 255 then (b, 1, 0) else match l with
  | x :: y :: _ => if x * 256 + y < 255 then (0, 0, 7) else (x * 256 + y, 3, 0)
  | _ => (0, 0, 8)
theorem ytd {x y : Int} (hx : 0 <= x /\ x <= 255) (hy : 0 <= y /\ y <= 255) : zh0 .or .i64 (shI .shl .i64 (W64 x) 8) (W64 y) = x * 256 + y := by
 rw [zo (by omega), zo (by omega)]
 obtain ⟨a, rfl⟩ : ∃ a : Nat, x = a := ⟨x.toNat, by omega⟩
 obtain ⟨b, rfl⟩ : ∃ b : Nat, y = b := ⟨y.toNat, by omega⟩
 have e1 : shI .shl .i64 (a : Int) 8 = ((a * 256 : Nat) : Int) := by
  simp only [shI];rw [show min (8 : Int).toNat IntKind.i64.bits = 8 by rfl]
  rw [zaz .i64 (by constructor <;> simp [IntKind.min, IntKind.max, IntKind.bits, IntKind.signed] <;> omega)]
  omega
 rw [e1];simp only [zh0];have e2 : (BitVec.ofInt IntKind.i64.bits ((a * 256 : Nat) : Int) ||| BitVec.ofInt IntKind.i64.bits (b : Int)).toNat = a * 256 + b := by
  rw [BitVec.toNat_or, BitVec.ofInt_natCast, BitVec.ofInt_natCast, BitVec.toNat_ofNat, BitVec.toNat_ofNat];rw [show IntKind.i64.bits = 64 by rfl, Nat.mod_eq_of_lt (by omega), Nat.mod_eq_of_lt (by omega)]
  have := Nat.shiftLeft_add_eq_or_of_lt (show b < 2 ^ 8 by omega) a
  rw [Nat.shiftLeft_eq, show (2 : Nat) ^ 8 = 256 from rfl] at this
  omega
 rw [e2, zaz .i64 (by constructor <;> simp [IntKind.min, IntKind.max, IntKind.bits, IntKind.signed] <;> omega)]
 omega
theorem y1h {R : Type} {n : Nat} (k : Option R) (h : n <= 9223372036854775807) : zk n k = k := by
 unfold zk;rw [Nat.ble_eq_true_of_le h]; rfl
theorem yin {α : Type} (a : α) (l : List α) : yn (a :: l) 0 = some a := by simp [yn, leI]
theorem yq5 {α : Type} (a b : α) (l : List α) : yn (a :: b :: l) 1 = some b := by simp [yn, leI]
theorem ywz {α : Type} (a b c : α) (l : List α) : yn (a :: b :: c :: l) 2 = some c := by simp [yn, leI]
theorem yvd {l : List Int} (h : okB l = true) (hl : l ≠ []) : zgr l = some (zF l) := by
 obtain ⟨hb, hlen⟩ := zrm.1 h;cases l with
 | nil => exact absurd rfl hl
 | cons b l =>
  have hb0 := hb b (by simp)
  unfold zgr zF;rw [yin];simp only [kD]
  by_cases h1 : b < 255
  ·rw [zY h1, cond_true, if_pos h1, zo (by omega)]
  ·rw [zP h1, cond_false, if_neg h1, y1h _ (by omega)]
   match l, hb, hlen with
   | [], _, _ => rw [zY (by simp)]; rfl
   | [x], _, _ => rw [zY (by simp)]; rfl
   | x :: y :: l, hb, _ =>
    have hx := hb x (by simp)
    have hy := hb y (by simp)
    rw [zP (by simp; omega), cond_false, yq5, ywz]
    simp only [kD];rw [ytd hx hy]
    by_cases h2 : x * 256 + y < 255
    ·rw [zY h2, cond_true, if_pos h2]
    ·rw [zP h2, cond_false, if_neg h2]
def zec (l : List Int) : Int := if (zF l).2.2 = 0 /\ (l.length : Int) - (zF l).2.1 < (zF l).1 then 8 else (zF l).2.2
def ze9 : Nat -> List Int -> List (List Int × Int)
 | 0, _ => []
 | n + 1, l => if l = [] then [] else if zec l ≠ 0 then [([], zec l)] else
   ((l.drop (zF l).2.1.toNat).take (zF l).1.toNat, 0) :: ze9 n (l.drop ((zF l).2.1 + (zF l).1).toNat)
def zhw (l : List Int) : List (List Int × Int) := ze9 l.length l
theorem y9d {l : List Int} (h : okB l = true) (hl : l ≠ []) (he : zec l = 0) : 0 <= (zF l).1 /\ 1 <= (zF l).2.1 /\ (zF l).2.1 <= 3 /\ (zF l).1 <= 70000 /\ (zF l).2.1 + (zF l).1 <= l.length /\ (zF l).2.2 = 0 := by
 obtain ⟨hb, hlen⟩ := zrm.1 h;cases l with
 | nil => exact absurd rfl hl
 | cons b l =>
  have hb0 := hb b (by simp)
  unfold zec at he;unfold zF at he ⊢
  by_cases h1 : b < 255
  ·simp only [if_pos h1] at he ⊢;split at he
   ·cases he
   ·rename_i h2;have h3 : ¬ (((b :: l).length : Int) - 1 < b) := fun h => h2 ⟨trivial, h⟩
    exact ⟨by omega, by omega, by omega, by omega, by omega, trivial⟩
  ·simp only [if_neg h1] at he ⊢;rcases l with _ | ⟨x, _ | ⟨y, l⟩⟩
   ·simp at he
   ·simp at he
   ·have hx := hb x (by simp)
    have hy := hb y (by simp)
    by_cases h2 : x * 256 + y < 255
    ·simp [if_pos h2] at he
    ·simp only [if_neg h2] at he ⊢;split at he
     ·cases he
     ·rename_i h3;have h4 : ¬ (((b :: x :: y :: l).length : Int) - 3 < x * 256 + y) := fun h => h3 ⟨trivial, h⟩
      exact ⟨by omega, by omega, by omega, by omega, by omega, trivial⟩
theorem ynq (l : List Int) : 0 <= (zF l).2.1 /\ (zF l).2.1 <= 3 := by
 cases l with
 | nil => simp [zF]
 | cons b l =>
  by_cases h : b < 255
  ·simp [zF, h]
  ·rcases l with _ | ⟨x, _ | ⟨y, l⟩⟩
   ·simp [zF, h]
   ·simp [zF, h]
   ·by_cases h2 : x * 256 + y < 255
    ·simp [zF, h, h2]
    ·simp [zF, h, h2]
theorem y9s {l : List Int} (h : okB l = true) (n : Nat) : okB (l.drop n) = true := by
 obtain ⟨hb, hlen⟩ := zrm.1 h;exact zrm.2 ⟨fun b hm => hb b (List.mem_of_mem_drop hm), by rw [kF]; omega⟩
theorem zxw : ∀ (n m : Nat) (l : List Int), okB l = true -> l.length <= n -> l.length <= m -> ze9 n l = ze9 m l
 | 0, 0, _, _, _, _ => rfl
 | 0, m + 1, l, _, h, _ => by
  have : l = [] := kE (by omega)
  simp [ze9, this]
 | n + 1, 0, l, _, _, h => by
  have : l = [] := kE (by omega)
  simp [ze9, this]
 | n + 1, m + 1, l, h, h1, h2 => by
  simp only [ze9]
  by_cases hl : l = []
  ·simp [hl]
  ·rw [if_neg hl, if_neg hl]
   by_cases he : zec l = 0
   ·obtain ⟨k1, k2, k3, k4, k5, k6⟩ := y9d h hl he;rw [if_neg (by simp [he]), if_neg (by simp [he])]
    rw [zxw n m _ (y9s h _) (by rw [kF]; omega) (by rw [kF]; omega)]
   ·rw [if_pos he, if_pos he]
theorem yb4 {l : List Int} (h : okB l = true) : zhw l = if l = [] then [] else if zec l ≠ 0 then [([], zec l)] else
   ((l.drop (zF l).2.1.toNat).take (zF l).1.toNat, 0) :: zhw (l.drop ((zF l).2.1 + (zF l).1).toNat) := by
 by_cases hl : l = []
 ·simp [hl, zhw, ze9]
 ·have e : l.length = (l.length - 1) + 1 := by
   have := List.length_pos_iff.2 hl; omega
  unfold zhw;rw [e];simp only [ze9]
  by_cases he : zec l = 0
  ·obtain ⟨k1, k2, k3, k4, k5, k6⟩ := y9d h hl he;rw [if_neg hl, if_neg hl, if_neg (by simp [he]), if_neg (by simp [he])]
   rw [zxw (l.length - 1) (l.drop ((zF l).2.1 + (zF l).1).toNat).length _ (y9s h _) (by rw [kF]; omega) (kI _)]
  ·rw [if_neg hl, if_neg hl, if_pos he, if_pos he]
def z89 (dec : List (List Int × Int) -> Option Bool) (x : List Int) : Option (List (List Int × Int)) := bif okB x then zk5 dec [] (zhw x) else none
theorem yws {R : Type} {n m nb : Nat} (k : Unit -> Option R) (h : (n + m) * nb <= 140737488355328) : qL n m nb k = k () := by
 unfold qL;rw [Nat.ble_eq_true_of_le h]; rfl
theorem ykw (dec : Nat -> List (List Int × Int) -> Option Bool) (l : Nat) : ∀ (n : Nat) (rest : List Int) (tr : List (List Int × Int)) (out : List (List Int × Int)), rest.length <= n -> okB rest = true -> zk5 (dec l) tr (zhw rest) = some out ->
  (zb (jf dec) (tr, l, rest)).map (·.1) = some out := by
 intro n
 induction n with
 | zero =>
  intro rest tr out hn hb hs;have hr : rest = [] := kE (by omega)
  subst hr;rw [show zhw [] = [] from rfl] at hs
  cases hs;rw [zL];show Option.map _ ((vH dec tr l []).bind _) = _;unfold vH;rw [y1h _ (by simp)]
  simp [ltI]
 | succ n ih =>
  intro rest tr out hn hb hs;have hlen := (zrm.1 hb).2;rw [yb4 hb] at hs;rw [zL];show Option.map _ ((vH dec tr l rest).bind _) = _;unfold vH;rw [y1h _ (by omega)]
  by_cases hr : rest = []
  ·subst hr;simp only [if_true] at hs;cases hs;simp [ltI]
  ·have hpos := List.length_pos_iff.2 hr;rw [zY (by omega), cond_true, yvd hb hr]
   simp only [kD];rw [if_neg hr] at hs;have he : ((bif eqI (zF rest).2.2 0 then
     zk (kA rest) (
     bif ltI (W64 ((kA rest : Nat) - (zF rest).2.1)) (zF rest).1 then
     some (tr, (l, rest, (zF rest).1, (zF rest).2.1, 8))
     else
     some (tr, (l, rest, (zF rest).1, (zF rest).2.1, (zF rest).2.2)))
     else
     some (tr, (l, rest, (zF rest).1, (zF rest).2.1, (zF rest).2.2))) : Option (List ((List Int) × Int) × ((Nat × (List Int) × Int × Int × Int)))) = some (tr, (l, rest, (zF rest).1, (zF rest).2.1, zec rest)) := by
    have hfrom := ynq rest;rw [y1h _ (by omega), zo (by omega)]
    unfold zec
    by_cases h1 : (zF rest).2.2 = 0
    ·rw [ql h1, cond_true]
     by_cases h2 : (rest.length : Int) - (zF rest).2.1 < (zF rest).1
     ·rw [zY h2, cond_true, if_pos ⟨h1, h2⟩]
     ·rw [zP h2, cond_false, if_neg (fun h => h2 h.2)]
    ·rw [z00 h1, cond_false, if_neg (fun h => h1 h.1)]
   rw [he];simp only [kD]
   by_cases h0 : zec rest = 0
   ·obtain ⟨k1, k2, k3, k4, k5, k6⟩ := y9d hb hr h0;rw [xj h0, cond_false];rw [if_neg (by simp [h0])] at hs
    have w1 : W64 ((zF rest).2.1 + (zF rest).1) = (zF rest).2.1 + (zF rest).1 := zo (by omega)
    rw [w1];have s1 : zV (zF rest).2.1 ((zF rest).2.1 + (zF rest).1) (kA rest) = true := by
     simp only [zV, z3g (show (0 : Int) <= (zF rest).2.1 by omega), z3g (show (zF rest).2.1 <= (zF rest).2.1 + (zF rest).1 by omega), z3g (show (zF rest).2.1 + (zF rest).1 <= ((kA rest : Nat) : Int) by omega), Bool.and_self]
    have s2 : zV ((zF rest).2.1 + (zF rest).1) ((kA rest : Nat) : Int) (kA rest) = true := by
     simp only [zV, z3g (show (0 : Int) <= (zF rest).2.1 + (zF rest).1 by omega), z3g (show (zF rest).2.1 + (zF rest).1 <= ((kA rest : Nat) : Int) by omega), z3g (Int.le_refl ((kA rest : Nat) : Int)), Bool.and_self]
    rw [s1, cond_true];have e1 : zA rest (zF rest).2.1 ((zF rest).2.1 + (zF rest).1) = (rest.drop (zF rest).2.1.toNat).take (zF rest).1.toNat := by
     simp only [zA];congr 1;omega
    have e2 : zA rest ((zF rest).2.1 + (zF rest).1) ((kA rest : Nat) : Int) = rest.drop ((zF rest).2.1 + (zF rest).1).toNat := by
     simp only [zA];rw [List.take_of_length_le];rw [kF]; omega
    rw [e1, e2, yws _ (by simp [List.length_take, kF]; omega)]
    simp only [List.nil_append];simp only [zk5] at hs;rw [Option.bind_eq_some_iff] at hs;obtain ⟨b, hd, hs⟩ := hs;rw [hd];simp only [kD];cases b with
    | false =>
     simp only [Bool.not_false, cond_true, kD, Sum.elim_inr, Option.map_some];simp only [cond_false] at hs;exact hs
    | true =>
     simp only [Bool.not_true, cond_false];rw [s2, cond_true];simp only [kD, Sum.elim_inl];simp only [cond_true] at hs;exact ih _ _ _ (by rw [kF]; omega) (y9s hb _) hs
   ·rw [qX h0, cond_true];rw [if_pos h0] at hs;simp only [zk5] at hs;rw [Option.bind_eq_some_iff] at hs;obtain ⟨b, hd, hs⟩ := hs;rw [hd];simp only [kD, Sum.elim_inr, Option.map_some];cases b <;> simpa using hs
theorem yor : SeqOK Try.prog 74 [.d (.sl (.int .u8)), .d (.int .i64)] [.rf (.d (.sl (.int .u8)))] z89 := zy1 fun dec l x tr h => by
 unfold z89 at h;cases hb : okB x with
 | false => rw [hb] at h; cases h
 | true =>
  rw [hb, cond_true] at h;have := ykw (onY l dec) l x.length x [] tr (kI _) hb (by
   rw [show onY l dec l = dec from funext fun t => ytb l dec t]; exact h)
  show zfk (onY l dec) l x = some tr;unfold zfk;rw [Option.map_eq_some_iff] at this;obtain ⟨o, h1, h2⟩ := this;rw [h1];simp only [kD];obtain ⟨o1, o2⟩ := o;cases o2 <;> simpa using h2
end Go.Proofs.Ytpfjfldagldgnaa
set_option linter.unusedSimpArgs false
namespace Go.Proofs.Ytpfjfldagldgnaa
open Go.Shelf Go.Proofs Go.RowKit Go.Lib Go.Ab Go.Tm
def yvb : Go.Shelf.Ren := ⟨fun | 4 => 60 | n => n, fun | 22 => 34 | 25 => 5 | n => n, fun n => n⟩
theorem yiu : Lays8.n4 Try.prog yvb where
 mixed := by kernel_rfl
 f4 := ⟨"slices.Grow[[]byte,byte]", by decide, Try.func60.trans (congrArg some (by kernel_rfl))⟩
 t0 := Try.underlying0
 a0 := Try.isAgg0
 z0 := Try.sizeOf0
 v0 := Try.zeroValue0
 t3 := Try.underlying3
 a3 := Try.isAgg3
 z3 := Try.sizeOf3
 v3 := Try.zeroValue3
 t4 := Try.underlying4
 a4 := Try.isAgg4
 z4 := Try.sizeOf4
 v4 := Try.zeroValue4
 t9 := Try.underlying9
 a9 := Try.isAgg9
 z9 := Try.sizeOf9
 v9 := Try.zeroValue9
 t20 := Try.underlying20
 a20 := Try.isAgg20
 z20 := Try.sizeOf20
 v20 := Try.zeroValue20
 t22 := Try.underlying34
 a22 := Try.isAgg34
 z22 := Try.sizeOf34
 v22 := Try.zeroValue34
theorem yxp : (Try.prog.info? 5).map (fun i => (i.zero, i.size, i.bytes)) = some (some (.int .u8 0), 1, 1) := by kernel_rfl
def y0d (n : Int) : Option (List Int) := bif leI 0 n && leI n 70368744177664 then some [] else none
def y0e : Sig := ⟨60, [.c .nil, .d (.int .i64)], [], 0, .one .ret (Shp.xe ⟨1, 0, [(0, .wn 0 (.int .u8))], [.row 5 (.int .u8)]⟩)⟩
def zx0 (x : Int) : Option (List Int) := y0d x
theorem ydp (n : Int) (h0 : 0 <= n) (h1 : n <= 70368744177664) : ypa Try.prog 60 0 [.tr 0 [] .full, .val (.int .i64 n)] [] fun p H' => p = .sl 0 0 0 1 /\ H' = [.row [] 5] := by
 intro w c vs g hp hs hv;have hs2 : vs.size = 2 := hs;simp only [VRs] at hv;obtain ⟨⟨v1, e1, hv1⟩, ⟨v2, e2, hv2⟩, _⟩ := hv;obtain ⟨rfl, _⟩ : v2 = .int .i64 n /\ plain (.int .i64 n) = true := by simpa only [VR] using hv2
 obtain ⟨base, rfl⟩ : ∃ base, v1 = .slice base 0 0 := by
  simp only [VR] at hv1;rcases hv1 with ⟨rfl, _⟩ | ⟨a, cap, rfl, _, _, h, _⟩
  ·exact ⟨none, rfl⟩
  ·have hc : cap = 0 := h;subst hc;exact ⟨some a, rfl⟩
 have hvs : vs = #[.slice base 0 0, .int .i64 n] := by
  apply Array.ext (by simp [hs2])
  intro i hi hi';have g1 := (Array.getElem?_eq_some_iff.1 e1).2;have g2 := (Array.getElem?_eq_some_iff.1 e2).2
  match i, hi with
  | 0, _ => simpa using g1
  | 1, _ => simpa using g2
  | n + 2, hi => omega
 rw [hvs];have hm0 : c.m = [] := kE g.len;have at0 : ∀ o : Option Nat, (c.m ++ [o])[0]? = some o := fun o => by rw [hm0]; rfl
 have mk : ∀ (w' : World) (hb : Go.RowKit.Below w.heap.size w w') (o : Option Nat), Ext w c w' { c with m := c.m ++ [o] } -> ExtP 0 w c w' { c with m := c.m ++ [o] } := fun w' hb o x =>
  ⟨hb.os, hb.tape, hb.output, hb.size, x.new, fun k hk _ => hb.block k hk, rfl, rfl, fun b k _ h => x.ids b k h, x.room⟩
 obtain ⟨m, rfl⟩ : ∃ m : Nat, n = m := ⟨n.toNat, by omega⟩
 obtain ⟨i0, hi, hz0, hz1, hz2⟩ := info_parts yxp
 by_cases hm : m = 0
 ·subst hm;refine (Any8.slices_Grow_room yiu base 0 0 0 w (kI _) (by omega) (by omega) (by omega)).mono ?_
  rintro e w' ⟨rfl, rfl⟩;obtain ⟨g', x⟩ := yf5 g (Go.RowKit.Below.refl _ w') none (fun k h => by cases h) (.row [] 5) (.inl ⟨rfl, at0 none⟩)
  refine ⟨_, _, _, _, rfl, ⟨rfl, rfl⟩, g', ?_, mk w' (Go.RowKit.Below.refl _ w') none x⟩;simp only [VR];exact .inl ⟨⟨base, rfl⟩, trivial⟩
 ·refine (Any8.slices_Grow_grow yiu i0 (.int .u8 0) hi hz0 (by rw [hz1]; decide) base 0 0 m [] w (kI _) (by omega) (by rw [hz2]; omega) (by omega) (by simp) (fun _ => rfl) (fun a _ j v h => by simp at h)).mono ?_
  rintro e w' ⟨rfl, rfl⟩;have hb : Go.RowKit.Below w.heap.size w (w.drew.alloc (.cells ((([] : List Value).toArray ++ Builtin.zeroCells (Value.int .u8 0).cells (0 + m - 0) ++ Builtin.zeroCells (Value.int .u8 0).cells (grownCap w (0 + m) 0 5 - (0 + m)))) 5)) := ⟨rfl, rfl, rfl, by simp, fun k hk => Go.RowKit.Below.heap_alloc w.drew _ k hk⟩
  have hnew : (w.drew.alloc (.cells ((([] : List Value).toArray ++ Builtin.zeroCells (Value.int .u8 0).cells (0 + m - 0) ++ Builtin.zeroCells (Value.int .u8 0).cells (grownCap w (0 + m) 0 5 - (0 + m)))) 5)).heap[w.heap.size]? = some (.cells ((([] : List Value).toArray ++ Builtin.zeroCells (Value.int .u8 0).cells (0 + m - 0) ++ Builtin.zeroCells (Value.int .u8 0).cells (grownCap w (0 + m) 0 5 - (0 + m)))) 5) := World.alloc_heap_new w.drew _;obtain ⟨g', x⟩ := yf5 g hb (some w.heap.size) (fun k h => by cases h; exact kI _) (.row [] 5) (.inr ⟨w.heap.size, _, (0, 0), at0 _, hnew, z9n _, Nat.zero_le _, (fun p hp => by cases hp), by simp only [VRs]⟩)
  refine ⟨_, _, _, _, rfl, ⟨rfl, rfl⟩, g', ?_, mk _ hb _ x⟩;simp only [VR];refine .inr ⟨w.heap.size, _, 0, at0 _, rfl, .inr rfl, Nat.zero_le _, _, 5, (0, 0), hnew, ?_⟩;show 0 + grownCap w (0 + m) 0 5 * 1 <= _;simp [Builtin.zeroCells, Value.cells];omega
theorem y81 : FnOK Try.prog y0e zx0 where
 can := by kernel_rfl
 ret := fun x y hy _ hw => by
  have hy' : (bif leI 0 x && leI x 70368744177664 then some ([] : List Int) else none) = some y := hy
  cases hb : leI 0 x && leI x 70368744177664 with
  | false => rw [hb] at hy'; cases hy'
  | true =>
   rw [hb] at hy';cases hy';refine ⟨?_, fun o ho => ?_⟩
   ·show TV.wf (.os 0 _ _ _ _ _);simp only [TV.wf]
   ·have ho' : o ∈ [TOb.ob 5 (.row (.int .u8) [])] := ho;rw [List.mem_singleton.1 ho'];intro z hz;cases hz
 calls := fun x y hy _ hw => by
  have hy' : (bif leI 0 x && leI x 70368744177664 then some ([] : List Int) else none) = some y := hy
  cases hb : leI 0 x && leI x 70368744177664 with
  | false => rw [hb] at hy'; cases hy'
  | true =>
   rw [hb] at hy';cases hy';simp only [leI, Bool.and_eq_true, decide_eq_true_eq] at hb;exact ydp x hb.1 hb.2
 open' := fun R y k => rfl
end Go.Proofs.Ytpfjfldagldgnaa
namespace Go.Proofs.Ytpfjfldagldgnaa
open Go.Tm Go.Ab
abbrev T0 := Int × (List Int)
abbrev T1 := (List Int) × Int × Int
abbrev T2 := Int × Int × Int
abbrev T3 := (List (List Int)) × (List T0) × Int × T1 × Int × Bool
abbrev T4 := Int × (List (List Int)) × Int × T1
abbrev T6 := Int × (List Int)
abbrev T7 := (List (List Int)) × (List T6) × Int × T1 × Int × Bool
abbrev T8 := T7 × Int × Int × (List Int) × Int × Bool
def r0 : Rt := .one (.st (.cons .leaf (.cons .leaf (.cons .leaf (.cons (.st (.cons .leaf (.cons .leaf (.one .leaf)))) (.cons .leaf (.one .leaf)))))))
def c1 : U := (.arr 256 (.int .u8))
def c2 : U := (.sl (.st (.cons (.int .i64) (.one (.arr 256 (.int .u8))))))
def c3 : U := (.st (.cons (.sl (.int .i64)) (.cons (.int .i64) (.one (.int .i64)))))
def c4 : U := (.st (.cons (.int .u64) (.cons (.int .i64) (.one (.int .i64)))))
def c5 : U := (.sl (.sl (.int .u8)))
def r6 : Rt := .one (.st (.cons .leaf (.cons (.st (.cons .leaf (.cons .leaf (.one .leaf)))) (.cons .leaf (.cons .leaf (.one .leaf))))))
def r7 : Rt := .one (.st (.cons .leaf (.cons .leaf (.one .leaf))))
def c8 : U := (.st (.cons (.sl (.arr 256 (.int .u8))) (.cons (.sl (.st (.cons (.int .i64) (.one (.arr 256 (.int .u8)))))) (.cons (.int .i64) (.cons (.st (.cons (.sl (.int .i64)) (.cons (.int .i64) (.one (.int .i64))))) (.cons (.int .i64) (.one .bool)))))))
def c9 : U := (.st (.cons (.int .i64) (.one (.arr 256 (.int .u8)))))
def r10 : Rt := .one (.st (.cons .leaf (.one (.arr 256 .leaf))))
def c11 : U := (.sl (.st (.cons (.int .i64) (.cons (.sl (.sl (.int .u8))) (.cons (.int .i64) (.one (.st (.cons (.sl (.int .i64)) (.cons (.int .i64) (.one (.int .i64)))))))))))
def r12 : Rt := .one (.st (.cons .leaf (.cons .leaf (.cons .leaf (.one (.st (.cons .leaf (.cons .leaf (.one .leaf)))))))))
def c13 : U := (.st (.cons (.int .i64) (.cons (.sl (.sl (.int .u8))) (.cons (.int .i64) (.one (.st (.cons (.sl (.int .i64)) (.cons (.int .i64) (.one (.int .i64))))))))))
def c15 : U := (.st (.cons (.int .i64) (.one .str)))
def c16 : U := (.st (.cons (.sl .str) (.cons (.sl (.st (.cons (.int .i64) (.one .str)))) (.cons (.int .i64) (.cons (.st (.cons (.sl (.int .i64)) (.cons (.int .i64) (.one (.int .i64))))) (.cons (.int .i64) (.one .bool)))))))
def r17 : Rt := .one (.st (.cons .leaf (.one .leaf)))
def c18 : U := (.st (.cons (.st (.cons (.sl .str) (.cons (.sl (.st (.cons (.int .i64) (.one .str)))) (.cons (.int .i64) (.cons (.st (.cons (.sl (.int .i64)) (.cons (.int .i64) (.one (.int .i64))))) (.cons (.int .i64) (.one .bool))))))) (.cons (.int .u64) (.cons (.int .i64) (.cons .str (.cons (.int .i64) (.one .bool)))))))
def r19 : Rt := .one (.st (.cons (.st (.cons .leaf (.cons .leaf (.cons .leaf (.cons (.st (.cons .leaf (.cons .leaf (.one .leaf)))) (.cons .leaf (.one .leaf))))))) (.cons .leaf (.cons .leaf (.cons .leaf (.cons .leaf (.one .leaf)))))))
def r20 : Rt := .one (.st (.cons .leaf (.cons .leaf (.one (.st (.cons (.st (.cons .leaf (.cons .leaf (.cons .leaf (.cons (.st (.cons .leaf (.cons .leaf (.one .leaf)))) (.cons .leaf (.one .leaf))))))) (.cons .leaf (.cons .leaf (.cons .leaf (.cons .leaf (.one .leaf)))))))))))
def y9g : Env := ⟨[], [], []⟩
theorem znm : EnvsOK Try.prog y9g := ⟨zj _, zg _, zf _⟩
def z8v : Shp := ⟨19, 0, [(3, .d (.int .u64))], []⟩
def jp : XS := .one (.exit 0) z8v.xe
theorem zkg : jp.OK := XS.one_ok (za z8v)
def jn : Shp := ⟨19, 0, [(3, .d (.int .u64)), (6, .d (.sl (.int .u8))), (7, .d (.int .i64)), (8, .d (.int .i64))], []⟩
abbrev z4l := Int × (List Int) × Int × Int
abbrev zao := (Int)
def jq (n : Int) (t6 : List Int) (t7 : Int) (t8 : Int) : Option (z4l ⊕ zao) :=
 bif ltI t8 t7 then
 (yn t6 t8).bind fun x =>
 some (.inl (zh0 .or .u64 (shI .shl .u64 n 8) (xJ (x)), t6, t7, W64 (t8 + 1)))
 else
 some (.inr n)
def qg (s : z4l) : Option (z4l ⊕ zao) := jq s.1 s.2.1 s.2.2.1 s.2.2.2
theorem zlv : SoundD Try.prog (.loop (zN (zw Try.f52) [1, 1, 0, 1, 0, 0])) (zl jn.xe jp (zb qg)) :=
 zG (S := jn.xe) (X := jp) znm (h := .no) (ze [] (by kernel_rfl) trivial) (za jn) zkg qg (fun s => by kernel_rfl)
def znl : Shp := ⟨1, 0, [(0, .d (.int .u64))], []⟩
def zsp : XS := .one .ret znl.xe
theorem y39 : zsp.OK := XS.one_ok (za znl)
def z30 (b : List Int) : Option ((Int)) :=
 zk (kA b) (
 (zb qg (0, b, (kA b : Nat), 0)).bind fun o =>
 some o)
def zso : Sig := ⟨52, [.d (.sl (.int .u8))], [], 0, zsp⟩
def zpm (x : (List Int)) : Option ((Int)) := z30 x
theorem y74 : FnOK Try.prog zso zpm :=
 zx znm (h := (.two .no (.two .no (.two (.two .no (.over (zl jn.xe jp (zb qg)))) .no)))) Try.func52 (ze [.den (.loop (zN (zw Try.f52) [1, 1, 0, 1, 0, 0])) (zl jn.xe jp (zb qg))] (by kernel_rfl) ⟨zlv, trivial⟩) (by kernel_rfl) y39 (fun x => by kernel_rfl)
def ybe : Env := ⟨[(zD zso zpm)], [], []⟩
theorem y77 : EnvsOK Try.prog ybe := ⟨zd (zh y74) (zj _), zg _, zf _⟩
def zpo : Shp := ⟨1, 0, [(0, .d c4)], []⟩
def zvb : XS := .one .ret zpo.xe
theorem y4i : zvb.OK := XS.one_ok (za zpo)
def zgt (b : List Int) (room : Int) : Option ((T2)) :=
 bif zV 8 16 (kA b) then
 (z30 (zA b 8 16)).bind fun r =>
 bif zV 16 24 (kA b) then
 (z30 (zA b 16 24)).bind fun r2 =>
 bif zV 24 32 (kA b) then
 (z30 (zA b 24 32)).bind fun r3 =>
 bif zV 0 8 (kA b) then
 bif !(eqS (zA b 0 8) ([119, 97, 114, 100, 115, 104, 105, 112] : List Int)) then
 some (0, 0, 0)
 else
 bif zV 32 40 (kA b) then
 bif !(eqS (zA b 32 40) ([119, 97, 114, 100, 115, 104, 105, 112] : List Int)) then
 some (0, 0, 0)
 else
 bif zV 16 32 (kA b) then
 bif zV 40 56 (kA b) then
 bif !(eqS (zA b 16 32) (zA b 40 56)) then
 some (0, 0, 0)
 else
 bif zV 56 64 (kA b) then
 (z30 (zA b 56 64)).bind fun r4 =>
 bif neI r4 r then
 some (0, 0, 0)
 else
 bif ltI r 1 then
 some (0, 0, 0)
 else
 bif ltI 4611686018427387904 r then
 some (0, 0, 0)
 else
 bif ltI 1 r2 then
 some (0, 0, 0)
 else
 bif ltI (xJ (room)) r3 then
 some (0, 0, 0)
 else
 some (r, W64 (r2), W64 (r3))
 else none
 else none
 else none
 else none
 else none
 else none
 else none
 else none
def zva : Sig := ⟨32, [.d (.sl (.int .u8)), .d (.int .i64)], [], 0, zvb⟩
def zst (x : (List Int) × Int) : Option ((T2)) := zgt x.1 x.2
theorem y9i : FnOK Try.prog zva zst :=
 zx y77 (h := .no) Try.func32 (ze [] (by kernel_rfl) trivial) (by kernel_rfl) y4i (fun x => by kernel_rfl)
def ygc : Env := ⟨[], [], []⟩
theorem zuy : EnvsOK Try.prog ygc := ⟨zj _, zg _, zf _⟩
def z4s : Shp := ⟨27, 0, [(0, .d (.int .u64)), (3, .wn 0 (.int .u8)), (4, .d (.int .i64)), (5, .d (.int .u8)), (21, .d .bool)], [.row 5 (.int .u8)]⟩
def z0u : XS := .one .normal z4s.xe
theorem ze7 : z0u.OK := XS.one_ok (za z4s)
def zb6 : Shp := ⟨27, 0, [(3, .wn 0 (.int .u8))], [.row 5 (.int .u8)]⟩
def vC : XS := .one (.exit 0) zb6.xe
theorem zom : vC.OK := XS.one_ok (za zb6)
def vB : Shp := ⟨27, 0, [(0, .d (.int .u64)), (3, .wn 0 (.int .u8)), (4, .d (.int .i64))], [.row 5 (.int .u8)]⟩
abbrev z6a := Int × Int × (List Int)
abbrev zer := ((List Int))
def vD (n : Int) (shift : Int) (b : List Int) : Option (z6a ⊕ zer) :=
 bif leI 0 shift then
 bif ltI shift 0 then none else
 (show Option ((Int × Int × Int × Bool × (List Int))) from
 bif neI (WU8 (shI .shr .u64 n shift)) 0 then
 bif kB (kA b) (kA b) then
 some (n, shift, WU8 (shI .shr .u64 n shift), true, b)
 else none
 else
 zk (kA b) (
 bif kB (kA b) (kA b) then
 some (n, shift, WU8 (shI .shr .u64 n shift), ltI 0 (kA b : Nat), b)
 else none)).bind fun j =>
 bif j.2.2.2.1 then
 bif kB (kA j.2.2.2.2) (kA j.2.2.2.2) then
 qL (kA j.2.2.2.2) (kA ([j.2.2.1] : List Int)) 1 fun _ =>
 bif kB (kA (j.2.2.2.2 ++ ([j.2.2.1] : List Int))) (kA (j.2.2.2.2 ++ ([j.2.2.1] : List Int))) then
 some (.inl (j.1, W64 (j.2.1 - 8), j.2.2.2.2 ++ ([j.2.2.1] : List Int)))
 else none
 else none
 else
 bif kB (kA j.2.2.2.2) (kA j.2.2.2.2) then
 some (.inl (j.1, W64 (j.2.1 - 8), j.2.2.2.2))
 else none
 else
 bif kB (kA b) (kA b) then
 some (.inr b)
 else none
def jd (s : z6a) : Option (z6a ⊕ zer) := vD s.1 s.2.1 s.2.2
theorem zqd : SoundD Try.prog (.loop (zN (zw Try.f82) [1, 1, 0, 1, 0, 0])) (zl vB.xe vC (zb jd)) :=
 zG (S := vB.xe) (X := vC) zuy (h := (.two .no (.two (.two .no (.join (fun _ => z0u) .no .no)) .no))) (ze [.xs (fun _ => z0u)] (by kernel_rfl) ⟨(qB ze7), trivial⟩) (za vB) zom jd (fun s => by kernel_rfl)
def zux : Shp := ⟨1, 0, [(0, .wn 0 (.int .u8))], [.row 5 (.int .u8)]⟩
def y1t : XS := .one .ret zux.xe
theorem y93 : y1t.OK := XS.one_ok (za zux)
def zmq (n : Int) : Option (((List Int))) :=
 bif kB (kA ([] : List Int)) (kA ([] : List Int)) then
 (zb jd (n, 56, ([] : List Int))).bind fun o =>
 bif kB (kA o) (kA o) then
 some o
 else none
 else none
def y1s : Sig := ⟨82, [.d (.int .u64)], [], 0, y1t⟩
def zxn (x : Int) : Option (((List Int))) := zmq x
theorem yde : FnOK Try.prog y1s zxn :=
 zx zuy (h := (.two .no (.two (.reg [0] []) (.two (.two .no (.over (zl vB.xe vC (zb jd)))) .no)))) Try.func82 (ze [.den (.loop (zN (zw Try.f82) [1, 1, 0, 1, 0, 0])) (zl vB.xe vC (zb jd))] (by kernel_rfl) ⟨zqd, trivial⟩) (by kernel_rfl) y93 (fun x => by kernel_rfl)
def y73 : Env := ⟨[], [(xz y1s zxn)], []⟩
theorem y38 : EnvsOK Try.prog y73 := ⟨zj _, zy (zR yde) (zg _), zf _⟩
def zkk : Shp := ⟨1, 0, [(0, .wn 0 (.int .u8))], [.row 5 (.int .u8)]⟩
def zpl : XS := .one .ret zkk.xe
theorem y02 : zpl.OK := XS.one_ok (za zkk)
def z4e (n : Int) : Option (((List Int))) :=
 (zmq n).bind fun r =>
 zk (kA r) (
 y0h (W64 (8 - (kA r : Nat))) 1 (
 bif kB ((W64 (8 - (kA r : Nat))).toNat) (kA (kC ((W64 (8 - (kA r : Nat))).toNat) (0 : Int))) then
 yf r 0 (kA r) fun w =>
 qL (kA (kC ((W64 (8 - (kA r : Nat))).toNat) (0 : Int))) (kA w) 1 fun _ =>
 bif kB (kA ((kC ((W64 (8 - (kA r : Nat))).toNat) (0 : Int)) ++ w)) (kA ((kC ((W64 (8 - (kA r : Nat))).toNat) (0 : Int)) ++ w)) then
 some ((kC ((W64 (8 - (kA r : Nat))).toNat) (0 : Int)) ++ w)
 else none
 else none))
def zfm : Sig := ⟨73, [.d (.int .u64)], [], 0, zpl⟩
def zd6 (x : Int) : Option (((List Int))) := z4e x
theorem znk : FnOK Try.prog zfm zd6 :=
 zx y38 (h := .no) Try.func73 (ze [] (by kernel_rfl) trivial) (by kernel_rfl) y02 (fun x => by kernel_rfl)
def ycr : Env := ⟨[], [(xz y0e zx0)], []⟩
theorem zfu : EnvsOK Try.prog ycr := ⟨zj _, zy (zR y81) (zg _), zf _⟩
def z9u : Shp := ⟨36, 0, [(0, .d c5), (3, .d (.int .i64))], []⟩
def jX : XS := .one (.exit 0) z9u.xe
theorem zmk : jX.OK := XS.one_ok (za z9u)
def jW : Shp := ⟨36, 0, [(0, .d c5), (3, .d (.int .i64)), (9, .d c5), (10, .d (.int .i64)), (11, .d (.int .i64))], []⟩
abbrev z5a := (List (List Int)) × Int × (List (List Int)) × Int × Int
abbrev zby := ((List (List Int)) × Int)
def jY (slices : List (List Int)) (size : Int) (t9 : List (List Int)) (t10 : Int) (t11 : Int) : Option (z5a ⊕ zby) :=
 bif ltI t11 t10 then
 (yn t9 t11).bind fun x =>
 zk (kA x) (
 bif ltI (W64 (size + (kA x : Nat))) 0 then
 none
 else
 some (.inl (slices, W64 (size + (kA x : Nat)), t9, t10, W64 (t11 + 1))))
 else
 some (.inr (slices, size))
def xC (s : z5a) : Option (z5a ⊕ zby) := jY s.1 s.2.1 s.2.2.1 s.2.2.2.1 s.2.2.2.2
theorem zog : SoundD Try.prog (.loop (zN (zw Try.f38) [1, 1, 0, 1, 0, 0])) (zl jW.xe jX (zb xC)) :=
 zG (S := jW.xe) (X := jX) zfu (h := .no) (ze [] (by kernel_rfl) trivial) (za jW) zmk xC (fun s => by kernel_rfl)
def z68 : Shp := ⟨36, 0, [(6, .wn 0 (.int .u8))], [.row 5 (.int .u8)]⟩
def qE : XS := .one (.exit 2) z68.xe
theorem zhn : qE.OK := XS.one_ok (za z68)
def qD : Shp := ⟨36, 0, [(6, .wn 0 (.int .u8)), (25, .d c5), (26, .d (.int .i64)), (27, .d (.int .i64))], [.row 5 (.int .u8)]⟩
abbrev z2l := (List (List Int)) × Int × Int × (List Int)
abbrev z8i := ((List Int))
def qF (t25 : List (List Int)) (t26 : Int) (t27 : Int) (newslice : List Int) : Option (z2l ⊕ z8i) :=
 bif ltI t27 t26 then
 (yn t25 t27).bind fun x =>
 bif kB (kA newslice) (kA newslice) then
 qL (kA newslice) (kA x) 1 fun _ =>
 bif kB (kA (newslice ++ x)) (kA (newslice ++ x)) then
 some (.inl (t25, t26, W64 (t27 + 1), newslice ++ x))
 else none
 else none
 else
 bif kB (kA newslice) (kA newslice) then
 some (.inr newslice)
 else none
def yK (s : z2l) : Option (z2l ⊕ z8i) := qF s.1 s.2.1 s.2.2.1 s.2.2.2
theorem zit : SoundD Try.prog (.loop (zN (zw Try.f38) [1, 1, 1, 1, 0, 1, 0, 0])) (zl qD.xe qE (zb yK)) :=
 zG (S := qD.xe) (X := qE) zfu (h := .no) (ze [] (by kernel_rfl) trivial) (za qD) zhn yK (fun s => by kernel_rfl)
def zq7 : Shp := ⟨1, 0, [(0, .wn 0 (.int .u8))], [.row 5 (.int .u8)]⟩
def zw9 : XS := .one .ret zq7.xe
theorem y5t : zw9.OK := XS.one_ok (za zq7)
def zav (slices : List (List Int)) : Option (((List Int))) :=
 zk (kA slices) (
 (zb xC (slices, 0, slices, (kA slices : Nat), 0)).bind fun o =>
 (y0d o.2).bind fun r =>
 zk (kA o.1) (
 bif kB (kA r) (kA r) then
 (zb yK (o.1, (kA o.1 : Nat), 0, r)).bind fun o2 =>
 bif kB (kA o2) (kA o2) then
 some o2
 else none
 else none))
def zw8 : Sig := ⟨38, [.d c5], [], 0, zw9⟩
def ztz (x : (List (List Int))) : Option (((List Int))) := zav x
theorem yaf : FnOK Try.prog zw8 ztz :=
 zx zfu (h := (.two .no (.two .no (.two (.two .no (.over (zl jW.xe jX (zb xC)))) (.two .no (.two (.two .no (.over (zl qD.xe qE (zb yK)))) .no)))))) Try.func38 (ze [.den (.loop (zN (zw Try.f38) [1, 1, 0, 1, 0, 0])) (zl jW.xe jX (zb xC)), .den (.loop (zN (zw Try.f38) [1, 1, 1, 1, 0, 1, 0, 0])) (zl qD.xe qE (zb yK))] (by kernel_rfl) ⟨zog, zit, trivial⟩) (by kernel_rfl) y5t (fun x => by kernel_rfl)
def zkc : Env := ⟨[], [(xz zfm zd6), (xz zw8 ztz)], [(ysl zfm zd6)]⟩
theorem zho : EnvsOK Try.prog zkc := ⟨zj _, zy (zR znk) (zy (zR yaf) (zg _)), ypu (yv2 znk) (zf _)⟩
def z5y : Shp := ⟨1, 0, [(0, .d (.sl (.int .u8)))], []⟩
def z7i : XS := .one .ret z5y.xe
theorem zgp : z7i.OK := XS.one_ok (za z5y)
def qV (t : T2) : Option (((List Int))) :=
 (z4e t.1).bind fun r =>
 (z4e (xJ (t.2.1))).bind fun r2 =>
 (z4e (xJ (t.2.2))).bind fun r3 =>
 bif kB (kA r2) (kA r2) then
 yf r3 0 (kA r3) fun w =>
 qL (kA r2) (kA w) 1 fun _ =>
 yf ([119, 97, 114, 100, 115, 104, 105, 112] : List Int) 0 (kA ([119, 97, 114, 100, 115, 104, 105, 112] : List Int)) fun w2 =>
 yf r 0 (kA r) fun w3 =>
 yf (r2 ++ w) 0 (kA (r2 ++ w)) fun w4 =>
 yf ([119, 97, 114, 100, 115, 104, 105, 112] : List Int) 0 (kA ([119, 97, 114, 100, 115, 104, 105, 112] : List Int)) fun w5 =>
 yf (r2 ++ w) 0 (kA (r2 ++ w)) fun w6 =>
 yf r 0 (kA r) fun w7 =>
 (zav ([w2, w3, w4, w5, w6, w7] : List (List Int))).bind fun r4 =>
 bif kB (kA r4) (kA r4) then
 qL (kA r4) 192 1 fun _ =>
 yf (r4 ++ (kC 192 (0 : Int))) 0 (kA (r4 ++ (kC 192 (0 : Int)))) fun w8 =>
 some w8
 else none
 else none
def z2f : Sig := ⟨54, [.d c4], [], 0, z7i⟩
def z1t (x : T2) : Option (((List Int))) := qV x
theorem z69 : FnOK Try.prog z2f z1t :=
 zx zho (h := (.two .no (.two (.reg [] [10, 0, 0, 2]) (.two (.reg [0, 4, 2000008] []) .no)))) Try.func54 (ze [] (by kernel_rfl) trivial) (by kernel_rfl) zgp (fun x => by kernel_rfl)
def yrs : Env := ⟨[], [], []⟩
theorem y8s : EnvsOK Try.prog yrs := ⟨zj _, zg _, zf _⟩
def ziq : Shp := ⟨27, 0, [(3, .d (.int .u32)), (4, .d (.int .u32))], []⟩
def z2x : XS := .one (.exit 0) ziq.xe
theorem zxg : z2x.OK := XS.one_ok (za ziq)
def z2w : Shp := ⟨27, 0, [(3, .d (.int .u32)), (4, .d (.int .u32)), (7, .d (.sl (.int .u8))), (8, .d (.int .i64)), (9, .d (.int .i64))], []⟩
abbrev zb5 := Int × Int × (List Int) × Int × Int
abbrev zl9 := (Int × Int)
def z2y (low : Int) (high : Int) (t7 : List Int) (t8 : Int) (t9 : Int) : Option (zb5 ⊕ zl9) :=
 bif ltI t9 t8 then
 (yn t7 t9).bind fun x =>
 some (.inl ((kH ((z7j (low + (z7j (x))))) 65521, kH ((z7j (high + (kH ((z7j (low + (z7j (x))))) 65521)))) 65521, t7, t8, W64 (t9 + 1))))
 else
 some (.inr (low, high))
def z05 (s : zb5) : Option (zb5 ⊕ zl9) := z2y s.1 s.2.1 s.2.2.1 s.2.2.2.1 s.2.2.2.2
theorem zzg : SoundD Try.prog (.loop (zN (zw Try.f76) [1, 1, 0, 1, 0, 0])) (zl z2w.xe z2x (zb z05)) :=
 zG (S := z2w.xe) (X := z2x) y8s (h := .no) (ze [] (by kernel_rfl) trivial) (za z2w) zxg z05 (fun s => by kernel_rfl)
def y8r : Shp := ⟨1, 0, [(0, .d (.int .u32))], []⟩
def yg0 : XS := .one .ret y8r.xe
theorem yk9 : yg0.OK := XS.one_ok (za y8r)
def zzf (b : List Int) : Option ((Int)) :=
 zk (kA b) (
 (zb z05 (1, 0, b, (kA b : Nat), 0)).bind fun o =>
 some (zh0 .or .u32 (shI .shl .u32 o.2 16) o.1))
def y62 : Sig := ⟨76, [.d (.sl (.int .u8))], [], 0, yg0⟩
def y1l (x : (List Int)) : Option ((Int)) := zzf x
theorem yd0 : FnOK Try.prog y62 y1l :=
 zx y8s (h := (.two .no (.two .no (.two (.two .no (.over (zl z2w.xe z2x (zb z05)))) .no)))) Try.func76 (ze [.den (.loop (zN (zw Try.f76) [1, 1, 0, 1, 0, 0])) (zl z2w.xe z2x (zb z05))] (by kernel_rfl) ⟨zzg, trivial⟩) (by kernel_rfl) yk9 (fun x => by kernel_rfl)
def yp0 : Env := ⟨[(zD y62 y1l)], [], []⟩
theorem yk8 : EnvsOK Try.prog yp0 := ⟨zd (zh yd0) (zj _), zg _, zf _⟩
def y61 : Shp := ⟨1, 0, [(0, .d (.sl (.int .u8)))], []⟩
def ycz : XS := .one .ret y61.xe
theorem yh0 : ycz.OK := XS.one_ok (za y61)
def y1k (b : List Int) : Option (((List Int))) :=
 (zzf b).bind fun r =>
 qL (kA ([] : List Int)) (kA b) 1 fun _ =>
 bif kB (kA b) (kA b) then
 qL (kA b) (kA ([WU8 (shI .shr .u32 r 24), WU8 (shI .shr .u32 r 16), WU8 (shI .shr .u32 r 8), WU8 (r)] : List Int)) 1 fun _ =>
 yf (b ++ ([WU8 (shI .shr .u32 r 24), WU8 (shI .shr .u32 r 16), WU8 (shI .shr .u32 r 8), WU8 (r)] : List Int)) 0 (kA (b ++ ([WU8 (shI .shr .u32 r 24), WU8 (shI .shr .u32 r 16), WU8 (shI .shr .u32 r 8), WU8 (r)] : List Int))) fun w =>
 some w
 else none
def ycy : Sig := ⟨59, [.d (.sl (.int .u8))], [], 0, ycz⟩
def y8q (x : (List Int)) : Option (((List Int))) := y1k x
theorem yll : FnOK Try.prog ycy y8q :=
 zx yk8 (h := (.two .no (.two .no (.two (.reg [2] []) .no)))) Try.func59 (ze [] (by kernel_rfl) trivial) (by kernel_rfl) yh0 (fun x => by kernel_rfl)
def yk6 : Env := ⟨[(zD ycy y8q)], [], []⟩
theorem yeo : EnvsOK Try.prog yk6 := ⟨zd (zh yll) (zj _), zg _, zf _⟩
def zzd : Shp := ⟨1, 0, [(0, .tu [.wn 0 (.int .u8), .d (.int .i64)])], [.row 5 (.int .u8)]⟩
def y5y : XS := .one .ret zzd.xe
theorem ycw : y5y.OK := XS.one_ok (za zzd)
def zre (b : List Int) : Option ((Int × (List Int))) :=
 zk (kA b) (
 bif ltI (W64 ((kA b : Nat) - 4)) 0 then
 bif kB 0 (kA ([] : List Int)) then
 some (8, ([] : List Int))
 else none
 else
 bif zV 0 (W64 ((kA b : Nat) - 4)) (kA b) then
 (y1k (zA b 0 (W64 ((kA b : Nat) - 4)))).bind fun r =>
 bif !(eqS r b) then
 bif kB 0 (kA ([] : List Int)) then
 some (9, ([] : List Int))
 else none
 else
 bif zV 0 (W64 ((kA b : Nat) - 4)) (kA b) then
 qL (kA ([] : List Int)) (kA (zA b 0 (W64 ((kA b : Nat) - 4)))) 1 fun _ =>
 bif kB (kA (zA b 0 (W64 ((kA b : Nat) - 4)))) (kA (zA b 0 (W64 ((kA b : Nat) - 4)))) then
 some ((0, zA b 0 (W64 ((kA b : Nat) - 4))))
 else none
 else none
 else none)
def y5x : Sig := ⟨57, [.d (.sl (.int .u8))], [], 0, y5y⟩
def y32 (x : (List Int)) : Option ((Int × (List Int))) := zre x
theorem ygy : FnOK Try.prog y5x y32 :=
 zx yeo (h := (.two .no (.two .no (.two .no (.two .no (.two (.reg [4] []) .no)))))) Try.func57 (ze [] (by kernel_rfl) trivial) (by kernel_rfl) ycw (fun x => by kernel_rfl)
def y92 : Env := ⟨[], [], []⟩
theorem y3y : EnvsOK Try.prog y92 := ⟨zj _, zg _, zf _⟩
def zn6 : Shp := ⟨1, 1, [(0, .fn 74 [.pt 1 (.one .leaf) []])], [.row 5 (.int .u8), .var 34 (.d (.sl (.int .u8)))]⟩
def zs2 : XS := .one .ret zn6.xe
theorem y34 : zs2.OK := XS.one_ok (za zn6)
def zli (b : List Bool) (b2 : List Int) : Option (((List Int) × (List Int))) :=
 yf b2 0 (ysy b) fun w =>
 qL (kA ([] : List Int)) (kA w) 1 fun _ =>
 yf w 0 (kA w) fun w2 =>
 some (b2, w2)
def zs1 : Sig := ⟨56, [.ws 0 (.int .u8)], [.row 5 (.int .u8)], 1, zs2⟩
def zpj (x : (List Bool) × (List Int)) : Option (((List Int) × (List Int))) := zli x.1 x.2
theorem y70 : FnOK Try.prog zs1 zpj :=
 zx y3y (h := (.two .no (.two (.reg [2, 4] []) .no))) Try.func56 (ze [] (by kernel_rfl) trivial) (by kernel_rfl) y34 (fun x => by kernel_rfl)
def y9h : Env := ⟨[], [(xz zs1 zpj), (xz y5x y32)], []⟩
theorem znp : EnvsOK Try.prog y9h := ⟨zj _, zy (zR y70) (zy (zR ygy) (zg _)), zf _⟩
def z8y : Shp := ⟨27, 4, [], [.row 5 (.int .u8), .var 28 (.wn 4 (.sl (.int .u8))), .var 24 (.d (.int .i64)), .var 28 (.wn 5 (.sl (.int .u8))), .row 34 (.sl (.int .u8)), .row 34 (.sl (.int .u8))]⟩
def jz : XS := .one .ret z8y.xe
theorem zki : jz.OK := XS.one_ok (za z8y)
def jy : Shp := ⟨27, 1, [(2, .pt 1 (.one .leaf) []), (3, .pt 2 (.one .leaf) []), (4, .pt 3 (.one .leaf) []), (10, .fn 74 [.rf (.d (.sl (.int .u8)))])], [.row 5 (.int .u8), .var 28 (.wn 4 (.sl (.int .u8))), .var 24 (.d (.int .i64)), .var 28 (.wn 5 (.sl (.int .u8))), .row 34 (.sl (.int .u8)), .row 34 (.sl (.int .u8))]⟩
def z0s : Shp := ⟨27, 4, [], [.row 5 (.int .u8), .var 28 (.wn 4 (.sl (.int .u8))), .var 24 (.d (.int .i64)), .var 28 (.wn 5 (.sl (.int .u8))), .row 34 (.sl (.int .u8)), .row 34 (.sl (.int .u8))]⟩
abbrev jB := (List Int) × (List Int) × Int × (List (List Int)) × (List (List Int))
abbrev jA := (List Int) × Int × (List (List Int)) × (List (List Int))
abbrev z4p := ((List Int) × Int × (List (List Int)) × (List (List Int)))
abbrev zp6 := (List Int) × Int
def z4n (t10 : List Int) (h : List Int) (t3 : Int) (t2 : List (List Int)) (out : List (List Int)) (h2 : List Int) (h3 : Int) (h4 : List (List Int)) (h5 : List (List Int)) (t11 : List Int) (t12 : Int) : Option (jA ⊕ z4p) :=
 bif neI t12 0 then
 bif kB 0 (kA ([] : List (List Int))) then
 bif kB (kA h5) (kA h5) then
 some (.inr (h2, 7, ([] : List (List Int)), h5))
 else none
 else none
 else
 (zre t11).bind fun r =>
 bif neI r.1 0 then
 bif kB 0 (kA ([] : List (List Int))) then
 bif kB (kA h5) (kA h5) then
 some (.inr (h2, 9, ([] : List (List Int)), h5))
 else none
 else none
 else
 yf r.2 0 (kA r.2) fun w =>
 bif kB (kA h5) (kA h5) then
 qL (kA h5) (kA ([w] : List (List Int))) 24 fun _ =>
 bif kB (kA h4) (kA h4) then
 bif kB (kA (h5 ++ ([w] : List (List Int)))) (kA (h5 ++ ([w] : List (List Int)))) then
 some (.inl (h2, h3, h4, h5 ++ ([w] : List (List Int))))
 else none
 else none
 else none
def yu (s : jB) (h : jA) (x : zp6) : Option (jA ⊕ z4p) := z4n s.1 s.2.1 s.2.2.1 s.2.2.2.1 s.2.2.2.2 h.1 h.2.1 h.2.2.1 h.2.2.2 x.1 x.2
def xO (s : jB) : jA := (s.2.1, s.2.2.1, s.2.2.2.1, s.2.2.2.2)
def qY (s : jB) : (List Int) := s.1
def z4o (s : jB) : Option (jA ⊕ z4p) := (z89 (zwi (yu s) (xO s)) (qY s)).bind fun tr => z6q (yu s) (xO s) tr
theorem zly : SoundD Try.prog (.rangeFunc (.tmp 10) #[11, 12] (zN (zw Try.f35) [1, 1, 0, 1, 0, 0]) (zN (zw Try.f35) [1, 1, 0, 1, 0, 1])) (zym (A := [.d (.sl (.int .u8)), .d (.int .i64)]) (C := [.rf (.d (.sl (.int .u8)))]) jy.xe z0s jz z89 qY xO yu) :=
 yl0 (A := [.d (.sl (.int .u8)), .d (.int .i64)]) (C := [.rf (.d (.sl (.int .u8)))]) (S := jy.xe) (Sh := z0s) (X := jz) znp yor (g1 := .no) (g2 := (.two .no (.two .no (.two .no (.reg [2000002] []))))) (ze [] (by kernel_rfl) trivial) (ze [] (by kernel_rfl) trivial) (za jy) zki (fun s => by kernel_rfl) (fun s => by kernel_rfl) (fun s => by kernel_rfl) (fun s => by kernel_rfl) (fun s => by kernel_rfl) (fun x => by kernel_rfl) (fun x => by kernel_rfl) yu (fun s h x => by kernel_rfl)
def zno : Shp := ⟨1, 1, [(0, .tu [.wn 1 (.sl (.int .u8)), .d (.int .i64)])], [.row 5 (.int .u8), .row 34 (.sl (.int .u8))]⟩
def zss : XS := .one .ret zno.xe
theorem y3a : zss.OK := XS.one_ok (za zno)
def zee (b : List Bool) (b2 : List Int) : Option ((Int × (List Int) × (List (List Int)))) :=
 (zli (kC (ysy b) true) b2).bind fun r =>
 bif kB 0 (kA ([] : List (List Int))) then
 bif kB 0 (kA ([] : List (List Int))) then
 (z4o (r.2, r.1, 0, ([] : List (List Int)), ([] : List (List Int)))).bind fun o =>
 Sum.elim (fun y =>
 bif kB (kA y.2.2.2) (kA y.2.2.2) then
 some (0, y.1, y.2.2.2)
 else none) (fun y2 =>
 bif kB (kA y2.2.2.1) (kA y2.2.2.1) then
 some (y2.2.1, y2.1, y2.2.2.1)
 else none) o
 else none
 else none
def zsr : Sig := ⟨35, [.ws 0 (.int .u8)], [.row 5 (.int .u8)], 1, zss⟩
def zpn (x : (List Bool) × (List Int)) : Option ((Int × (List Int) × (List (List Int)))) := zee x.1 x.2
theorem y76 : FnOK Try.prog zsr zpn :=
 zx znp (h := (.two .no (.two .no (.two (.two .no (.over (zym (A := [.d (.sl (.int .u8)), .d (.int .i64)]) (C := [.rf (.d (.sl (.int .u8)))]) jy.xe z0s jz z89 qY xO yu))) .no)))) Try.func35 (ze [.den (.rangeFunc (.tmp 10) #[11, 12] (zN (zw Try.f35) [1, 1, 0, 1, 0, 0]) (zN (zw Try.f35) [1, 1, 0, 1, 0, 1])) (zym (A := [.d (.sl (.int .u8)), .d (.int .i64)]) (C := [.rf (.d (.sl (.int .u8)))]) jy.xe z0s jz z89 qY xO yu)] (by kernel_rfl) ⟨zly, trivial⟩) (by kernel_rfl) y3a (fun x => by kernel_rfl)
def yi3 : Env := ⟨[], [], []⟩
theorem zxp : EnvsOK Try.prog yi3 := ⟨zj _, zg _, zf _⟩
def z41 : Shp := ⟨41, 0, [(4, .wn 0 (.int .u8)), (6, .d (.sl (.int .u8))), (9, .d c5), (10, .d (.int .i64)), (11, .d (.int .i64))], [.row 5 (.int .u8)]⟩
def z42 : Shp := ⟨41, 0, [(2, .d (.sl (.int .u8))), (3, .d (.int .i64))], []⟩
def z06 : XS := .or .normal z41.xe (.one .ret z42.xe)
theorem zc9 : z06.OK := XS.or_ok (za z41) (XS.one_ok (za z42))
def zca : Shp := ⟨41, 0, [(4, .wn 0 (.int .u8))], [.row 5 (.int .u8)]⟩
def zcb : Shp := ⟨41, 0, [(2, .d (.sl (.int .u8))), (3, .d (.int .i64))], []⟩
def z08 : XS := .or (.exit 0) zca.xe (.one .ret zcb.xe)
theorem zqf : z08.OK := XS.or_ok (za zca) (XS.one_ok (za zcb))
def z07 : Shp := ⟨41, 0, [(4, .wn 0 (.int .u8)), (9, .d c5), (10, .d (.int .i64)), (11, .d (.int .i64))], [.row 5 (.int .u8)]⟩
abbrev z7l := (List (List Int)) × Int × Int × (List Int)
abbrev zfv := ((List Int)) ⊕ ((List Int) × Int)
def z09 (t9 : List (List Int)) (t10 : Int) (t11 : Int) (out : List Int) : Option (z7l ⊕ zfv) :=
 bif ltI t11 t10 then
 (yn t9 t11).bind fun x =>
 (show Option (((List Int) × (List (List Int)) × Int × Int × (List Int)) ⊕ ((List Int) × Int)) from
 zk (kA x) (
 bif ltI 65535 (kA x : Nat) then
 some (.inr ([], 4))
 else
 bif ltI (kA x : Nat) 255 then
 bif kB (kA out) (kA out) then
 qL (kA out) (kA ([WU8 ((kA x : Nat))] : List Int)) 1 fun _ =>
 bif kB (kA (out ++ ([WU8 ((kA x : Nat))] : List Int))) (kA (out ++ ([WU8 ((kA x : Nat))] : List Int))) then
 some (.inl ((x, t9, t10, t11, out ++ ([WU8 ((kA x : Nat))] : List Int))))
 else none
 else none
 else
 bif kB (kA out) (kA out) then
 qL (kA out) (kA ([255, WU8 (shI .shr .i64 (kA x : Nat) 8), WU8 ((kA x : Nat))] : List Int)) 1 fun _ =>
 bif kB (kA (out ++ ([255, WU8 (shI .shr .i64 (kA x : Nat) 8), WU8 ((kA x : Nat))] : List Int))) (kA (out ++ ([255, WU8 (shI .shr .i64 (kA x : Nat) 8), WU8 ((kA x : Nat))] : List Int))) then
 some (.inl ((x, t9, t10, t11, out ++ ([255, WU8 (shI .shr .i64 (kA x : Nat) 8), WU8 ((kA x : Nat))] : List Int))))
 else none
 else none)).bind fun j =>
 Sum.elim (fun y =>
 bif kB (kA y.2.2.2.2) (kA y.2.2.2.2) then
 qL (kA y.2.2.2.2) (kA y.1) 1 fun _ =>
 bif kB (kA (y.2.2.2.2 ++ y.1)) (kA (y.2.2.2.2 ++ y.1)) then
 some (.inl (y.2.1, y.2.2.1, W64 (y.2.2.2.1 + 1), y.2.2.2.2 ++ y.1))
 else none
 else none) (fun y2 =>
 some (.inr (.inr (y2.1, y2.2)))) j
 else
 bif kB (kA out) (kA out) then
 some (.inr (.inl out))
 else none
def jD (s : z7l) : Option (z7l ⊕ zfv) := z09 s.1 s.2.1 s.2.2.1 s.2.2.2
theorem zs3 : SoundD Try.prog (.loop (zN (zw Try.f58) [1, 1, 0, 1, 0, 0])) (zl z07.xe z08 (zb jD)) :=
 zG (S := z07.xe) (X := z08) zxp (h := (.two .no (.two .no (.two (.two .no (.join (fun _ => z06) .no .no)) .no)))) (ze [.xs (fun _ => z06)] (by kernel_rfl) ⟨(qB zc9), trivial⟩) (za z07) zqf jD (fun s => by kernel_rfl)
def zxo : Shp := ⟨1, 0, [(0, .tu [.d (.sl (.int .u8)), .d (.int .i64)])], []⟩
def y40 : XS := .one .ret zxo.xe
theorem yaz : y40.OK := XS.one_ok (za zxo)
def zqe (fields : List (List Int)) : Option (((List Int) × Int)) :=
 zk (kA fields) (
 bif kB (kA ([] : List Int)) (kA ([] : List Int)) then
 (zb jD (fields, (kA fields : Nat), 0, ([] : List Int))).bind fun o =>
 Sum.elim (fun y =>
 yf y 0 (kA y) fun w =>
 some (w, 0)) (fun y2 =>
 some (y2.1, y2.2)) o
 else none)
def y3z : Sig := ⟨58, [.d c5], [], 0, y40⟩
def y1u (x : (List (List Int))) : Option (((List Int) × Int)) := zqe x
theorem ygd : FnOK Try.prog y3z y1u :=
 zx zxp (h := (.two .no (.two (.reg [0] []) (.two (.two .no (.over (zl z07.xe z08 (zb jD)))) .no)))) Try.func58 (ze [.den (.loop (zN (zw Try.f58) [1, 1, 0, 1, 0, 0])) (zl z07.xe z08 (zb jD))] (by kernel_rfl) ⟨zs3, trivial⟩) (by kernel_rfl) yaz (fun x => by kernel_rfl)
def yk7 : Env := ⟨[(zD y62 y1l)], [], []⟩
theorem yep : EnvsOK Try.prog yk7 := ⟨zd (zh yd0) (zj _), zg _, zf _⟩
def zze : Shp := ⟨1, 0, [(0, .wn 0 (.int .u8))], [.row 5 (.int .u8)]⟩
def y60 : XS := .one .ret zze.xe
theorem ycx : y60.OK := XS.one_ok (za zze)
def zrf (b : List Int) : Option (((List Int))) :=
 (zzf b).bind fun r =>
 qL (kA ([] : List Int)) (kA b) 1 fun _ =>
 bif kB (kA b) (kA b) then
 qL (kA b) (kA ([WU8 (shI .shr .u32 r 24), WU8 (shI .shr .u32 r 16), WU8 (shI .shr .u32 r 8), WU8 (r)] : List Int)) 1 fun _ =>
 bif kB (kA (b ++ ([WU8 (shI .shr .u32 r 24), WU8 (shI .shr .u32 r 16), WU8 (shI .shr .u32 r 8), WU8 (r)] : List Int))) (kA (b ++ ([WU8 (shI .shr .u32 r 24), WU8 (shI .shr .u32 r 16), WU8 (shI .shr .u32 r 8), WU8 (r)] : List Int))) then
 some (b ++ ([WU8 (shI .shr .u32 r 24), WU8 (shI .shr .u32 r 16), WU8 (shI .shr .u32 r 8), WU8 (r)] : List Int))
 else none
 else none
def y5z : Sig := ⟨59, [.d (.sl (.int .u8))], [], 0, y60⟩
def y33 (x : (List Int)) : Option (((List Int))) := zrf x
theorem ygz : FnOK Try.prog y5z y33 :=
 zx yep (h := (.two .no (.two .no (.two (.reg [2] []) .no)))) Try.func59 (ze [] (by kernel_rfl) trivial) (by kernel_rfl) ycx (fun x => by kernel_rfl)
def ydl : Env := ⟨[(zD y3z y1u)], [(xz y5z y33)], []⟩
theorem zh8 : EnvsOK Try.prog ydl := ⟨zd (zh ygd) (zj _), zy (zR ygz) (zg _), zf _⟩
def zap : Shp := ⟨48, 0, [(0, .d c5), (1, .d (.int .i64)), (6, .wn 0 (.int .u8))], [.row 5 (.int .u8)]⟩
def zaq : Shp := ⟨48, 0, [(4, .d (.sl (.int .u8))), (5, .d (.int .i64))], []⟩
def vh : XS := .or (.exit 0) zap.xe (.one .ret zaq.xe)
theorem znn : vh.OK := XS.or_ok (za zap) (XS.one_ok (za zaq))
def vg : Shp := ⟨48, 0, [(0, .d c5), (1, .d (.int .i64)), (6, .wn 0 (.int .u8)), (13, .d c5), (14, .d (.int .i64)), (15, .d (.int .i64))], [.row 5 (.int .u8)]⟩
abbrev z5v := (List (List Int)) × Int × (List (List Int)) × Int × Int × (List Int)
abbrev zd8 := ((List (List Int)) × Int × (List Int)) ⊕ ((List Int) × Int)
def vi (records : List (List Int)) (room : Int) (t13 : List (List Int)) (t14 : Int) (t15 : Int) (out : List Int) : Option (z5v ⊕ zd8) :=
 bif ltI t15 t14 then
 (yn t13 t15).bind fun x =>
 zk (kA x) (
 bif ltI 65531 (kA x : Nat) then
 some (.inr (.inr ([], 4)))
 else
 bif kB (kA out) (kA out) then
 some (.inl (records, room, t13, t14, W64 (t15 + 1), out))
 else none)
 else
 bif kB (kA out) (kA out) then
 some (.inr (.inl (records, room, out)))
 else none
def qN (s : z5v) : Option (z5v ⊕ zd8) := vi s.1 s.2.1 s.2.2.1 s.2.2.2.1 s.2.2.2.2.1 s.2.2.2.2.2
theorem zp5 : SoundD Try.prog (.loop (zN (zw Try.f36) [1, 1, 0, 1, 0, 0])) (zl vg.xe vh (zb qN)) :=
 zG (S := vg.xe) (X := vh) zh8 (h := .no) (ze [] (by kernel_rfl) trivial) (za vg) znn qN (fun s => by kernel_rfl)
def z8w : Shp := ⟨48, 0, [(6, .wn 0 (.int .u8))], [.row 5 (.int .u8)]⟩
def z8x : Shp := ⟨48, 0, [(4, .d (.sl (.int .u8))), (5, .d (.int .i64))], []⟩
def js : XS := .or (.exit 2) z8w.xe (.one .ret z8x.xe)
theorem zkh : js.OK := XS.or_ok (za z8w) (XS.one_ok (za z8x))
def jr : Shp := ⟨48, 0, [(1, .d (.int .i64)), (6, .wn 0 (.int .u8)), (23, .d c5), (24, .d (.int .i64)), (25, .d (.int .i64))], [.row 5 (.int .u8)]⟩
abbrev z4m := Int × (List (List Int)) × Int × Int × (List Int)
abbrev zar := ((List Int)) ⊕ ((List Int) × Int)
def jv (room : Int) (t23 : List (List Int)) (t24 : Int) (t25 : Int) (out : List Int) : Option (z4m ⊕ zar) :=
 bif ltI t25 t24 then
 (yn t23 t25).bind fun x =>
 zk (kA out) (
 bif ltI room (kA out : Nat) then
 some (.inr (.inr ([], 5)))
 else
 (zrf x).bind fun r =>
 yf r 0 (kA r) fun w =>
 (zqe ([w] : List (List Int))).bind fun r2 =>
 bif neI r2.2 0 then
 some (.inr (.inr ([], r2.2)))
 else
 bif kB (kA out) (kA out) then
 qL (kA out) (kA r2.1) 1 fun _ =>
 bif kB (kA (out ++ r2.1)) (kA (out ++ r2.1)) then
 some (.inl (room, t23, t24, W64 (t25 + 1), out ++ r2.1))
 else none
 else none)
 else
 bif kB (kA out) (kA out) then
 some (.inr (.inl out))
 else none
def ju (s : z4m) : Option (z4m ⊕ zar) := jv s.1 s.2.1 s.2.2.1 s.2.2.2.1 s.2.2.2.2
theorem zlx : SoundD Try.prog (.loop (zN (zw Try.f36) [1, 1, 1, 0, 1, 0, 0])) (zl jr.xe js (zb ju)) :=
 zG (S := jr.xe) (X := js) zh8 (h := (.two .no (.two .no (.two (.two .no (.two .no (.two (.reg [2000002] []) .no))) .no)))) (ze [] (by kernel_rfl) trivial) (za jr) zkh ju (fun s => by kernel_rfl)
def zsq : Shp := ⟨1, 0, [(0, .tu [.d (.sl (.int .u8)), .d (.int .i64)])], []⟩
def zy2 : XS := .one .ret zsq.xe
theorem y75 : zy2.OK := XS.one_ok (za zsq)
def zd7 (records : List (List Int)) (room : Int) : Option (((List Int) × Int)) :=
 zk (kA records) (
 bif kB 0 (kA ([] : List Int)) then
 (zb qN (records, room, records, (kA records : Nat), 0, ([] : List Int))).bind fun o =>
 Sum.elim (fun y =>
 zk (kA y.1) (
 bif kB (kA y.2.2) (kA y.2.2) then
 (zb ju (y.2.1, y.1, (kA y.1 : Nat), 0, y.2.2)).bind fun o2 =>
 Sum.elim (fun y3 =>
 yf y3 0 (kA y3) fun w =>
 some (w, 0)) (fun y4 =>
 some (y4.1, y4.2)) o2
 else none)) (fun y2 =>
 some (y2.1, y2.2)) o
 else none)
def zlw : Sig := ⟨36, [.d c5, .d (.int .i64)], [], 0, zy2⟩
def zj7 (x : (List (List Int)) × Int) : Option (((List Int) × Int)) := zd7 x.1 x.2
theorem zv9 : FnOK Try.prog zlw zj7 :=
 zx zh8 (h := (.two .no (.two .no (.two (.two .no (.over (zl vg.xe vh (zb qN)))) (.two (.two .no (.over (zl jr.xe js (zb ju)))) .no))))) Try.func36 (ze [.den (.loop (zN (zw Try.f36) [1, 1, 0, 1, 0, 0])) (zl vg.xe vh (zb qN)), .den (.loop (zN (zw Try.f36) [1, 1, 1, 0, 1, 0, 0])) (zl jr.xe js (zb ju))] (by kernel_rfl) ⟨zp5, zlx, trivial⟩) (by kernel_rfl) y75 (fun x => by kernel_rfl)
def y7n : Env := ⟨[], [(xz y0e zx0)], []⟩
theorem zb4 : EnvsOK Try.prog y7n := ⟨zj _, zy (zR y81) (zg _), zf _⟩
def z8h : Shp := ⟨36, 0, [(0, .d c5), (3, .d (.int .i64))], []⟩
def ja : XS := .one (.exit 0) z8h.xe
theorem zk8 : ja.OK := XS.one_ok (za z8h)
def qZ : Shp := ⟨36, 0, [(0, .d c5), (3, .d (.int .i64)), (9, .d c5), (10, .d (.int .i64)), (11, .d (.int .i64))], []⟩
abbrev z3z := (List (List Int)) × Int × (List (List Int)) × Int × Int
abbrev z9t := ((List (List Int)) × Int)
def zof (slices : List (List Int)) (size : Int) (t9 : List (List Int)) (t10 : Int) (t11 : Int) : Option (z3z ⊕ z9t) :=
 bif ltI t11 t10 then
 (yn t9 t11).bind fun x =>
 zk (kA x) (
 bif ltI (W64 (size + (kA x : Nat))) 0 then
 none
 else
 some (.inl (slices, W64 (size + (kA x : Nat)), t9, t10, W64 (t11 + 1))))
 else
 some (.inr (slices, size))
def xQ (s : z3z) : Option (z3z ⊕ z9t) := zof s.1 s.2.1 s.2.2.1 s.2.2.2.1 s.2.2.2.2
theorem zkj : SoundD Try.prog (.loop (zN (zw Try.f38) [1, 1, 0, 1, 0, 0])) (zl qZ.xe ja (zb xQ)) :=
 zG (S := qZ.xe) (X := ja) zb4 (h := .no) (ze [] (by kernel_rfl) trivial) (za qZ) zk8 xQ (fun s => by kernel_rfl)
def z5j : Shp := ⟨36, 0, [(6, .wn 0 (.int .u8))], [.row 5 (.int .u8)]⟩
def qe : XS := .one (.exit 2) z5j.xe
theorem zft : qe.OK := XS.one_ok (za z5j)
def qd : Shp := ⟨36, 0, [(6, .wn 0 (.int .u8)), (25, .d c5), (26, .d (.int .i64)), (27, .d (.int .i64))], [.row 5 (.int .u8)]⟩
abbrev z1s := (List (List Int)) × Int × Int × (List Int)
abbrev z67 := ((List Int))
def zis (t25 : List (List Int)) (t26 : Int) (t27 : Int) (newslice : List Int) : Option (z1s ⊕ z67) :=
 bif ltI t27 t26 then
 (yn t25 t27).bind fun x =>
 bif kB (kA newslice) (kA newslice) then
 qL (kA newslice) (kA x) 1 fun _ =>
 bif kB (kA (newslice ++ x)) (kA (newslice ++ x)) then
 some (.inl (t25, t26, W64 (t27 + 1), newslice ++ x))
 else none
 else none
 else
 bif kB (kA newslice) (kA newslice) then
 some (.inr newslice)
 else none
def yT (s : z1s) : Option (z1s ⊕ z67) := zis s.1 s.2.1 s.2.2.1 s.2.2.2
theorem zgn : SoundD Try.prog (.loop (zN (zw Try.f38) [1, 1, 1, 1, 0, 1, 0, 0])) (zl qd.xe qe (zb yT)) :=
 zG (S := qd.xe) (X := qe) zb4 (h := .no) (ze [] (by kernel_rfl) trivial) (za qd) zft yT (fun s => by kernel_rfl)
def zl7 : Shp := ⟨1, 0, [(0, .d (.sl (.int .u8)))], []⟩
def zq6 : XS := .one .ret zl7.xe
theorem y1i : zq6.OK := XS.one_ok (za zl7)
def zbx (slices : List (List Int)) : Option (((List Int))) :=
 zk (kA slices) (
 (zb xQ (slices, 0, slices, (kA slices : Nat), 0)).bind fun o =>
 (y0d o.2).bind fun r =>
 zk (kA o.1) (
 bif kB (kA r) (kA r) then
 (zb yT (o.1, (kA o.1 : Nat), 0, r)).bind fun o2 =>
 yf o2 0 (kA o2) fun w =>
 some w
 else none))
def zq5 : Sig := ⟨38, [.d c5], [], 0, zq6⟩
def zoe (x : (List (List Int))) : Option (((List Int))) := zbx x
theorem y5s : FnOK Try.prog zq5 zoe :=
 zx zb4 (h := (.two .no (.two .no (.two (.two .no (.over (zl qZ.xe ja (zb xQ)))) (.two .no (.two (.two .no (.over (zl qd.xe qe (zb yT)))) .no)))))) Try.func38 (ze [.den (.loop (zN (zw Try.f38) [1, 1, 0, 1, 0, 0])) (zl qZ.xe ja (zb xQ)), .den (.loop (zN (zw Try.f38) [1, 1, 1, 1, 0, 1, 0, 0])) (zl qd.xe qe (zb yT))] (by kernel_rfl) ⟨zkj, zgn, trivial⟩) (by kernel_rfl) y1i (fun x => by kernel_rfl)
def zwm : Env := ⟨[], [], []⟩
theorem zs8 : EnvsOK Try.prog zwm := ⟨zj _, zg _, zf _⟩
def zch : Shp := ⟨1, 0, [(0, .d (.int .i64))], []⟩
def zg0 : XS := .one .ret zch.xe
theorem zql : zg0.OK := XS.one_ok (za zch)
def vv (d : T3) : Option ((Int)) :=
 zk (kA d.1) (
 some (kA d.1 : Nat))
def z7r : Sig := ⟨30, [.rf (.d c8)], [], 0, zg0⟩
def z6e (x : T3) : Option ((Int)) := vv x
theorem zex : FnOK Try.prog z7r z6e :=
 zx zs8 (h := .no) Try.func30 (ze [] (by kernel_rfl) trivial) (by kernel_rfl) zql (fun x => by kernel_rfl)
def y3b : Env := ⟨[(zD z7r z6e)], [], []⟩
theorem zy3 : EnvsOK Try.prog y3b := ⟨zd (zh zex) (zj _), zg _, zf _⟩
def zi0 : Shp := ⟨1, 0, [(0, .d (.int .i64))], []⟩
def zkl : XS := .one .ret zi0.xe
theorem zwt : zkl.OK := XS.one_ok (za zi0)
def qJ (d : T3) : Option ((Int)) :=
 (vv d).bind fun r =>
 some (W64 (kG (W64 (r - 2)) 2))
def jK : Sig := ⟨31, [.rf (.d c8)], [], 0, zkl⟩
def ji (x : T3) : Option ((Int)) := qJ x
theorem vx : FnOK Try.prog jK ji :=
 zx zy3 (h := .no) Try.func31 (ze [] (by kernel_rfl) trivial) (by kernel_rfl) zwt (fun x => by kernel_rfl)
def zxr : Env := ⟨[], [], []⟩
theorem zu9 : EnvsOK Try.prog zxr := ⟨zj _, zg _, zf _⟩
def zeu : Shp := ⟨1, 0, [(0, .d .bool)], []⟩
def zhs : XS := .one .ret zeu.xe
theorem zs6 : zhs.OK := XS.one_ok (za zeu)
def jJ (d : T3) : Option ((Bool)) :=
 some d.2.2.2.2.2
def z45 : Sig := ⟨39, [.rf (.d c8)], [], 0, zhs⟩
def z3a (x : T3) : Option ((Bool)) := jJ x
theorem z7o : FnOK Try.prog z45 z3a :=
 zx zu9 (h := .no) Try.func39 (ze [] (by kernel_rfl) trivial) (by kernel_rfl) zs6 (fun x => by kernel_rfl)
def zxs : Env := ⟨[(zD z45 z3a)], [], []⟩
theorem zud : EnvsOK Try.prog zxs := ⟨zd (zh z7o) (zj _), zg _, zf _⟩
def zf1 : Shp := ⟨1, 0, [(0, .d (.int .i64))], []⟩
def zht : XS := .one .ret zf1.xe
theorem zsb : zht.OK := XS.one_ok (za zf1)
def z03 (d : T3) (i : Int) : Option ((Int)) :=
 (jJ d).bind fun r =>
 bif r then
 some 6
 else
 bif ltI i 0 then
 some 2
 else
 zk (kA d.1) (
 bif leI (kA d.1 : Nat) i then
 some 2
 else
 some 0)
def z47 : Sig := ⟨51, [.rf (.d c8), .d (.int .i64)], [], 0, zht⟩
def z3b (x : T3 × Int) : Option ((Int)) := z03 x.1 x.2
theorem z7s : FnOK Try.prog z47 z3b :=
 zx zud (h := .no) Try.func51 (ze [] (by kernel_rfl) trivial) (by kernel_rfl) zsb (fun x => by kernel_rfl)
def ygw : Env := ⟨[], [], []⟩
theorem ycp : EnvsOK Try.prog ygw := ⟨zj _, zg _, zf _⟩
def zw6 : Shp := ⟨1, 0, [(0, .fs c9)], []⟩
def y31 : XS := .one .ret zw6.xe
theorem yad : y31.OK := XS.one_ok (za zw6)
def zgm (t0 : List T0) : Option (((List T0))) :=
 zk (kA t0) (
 zk (kA t0) (
 bif zV 0 (kA t0 : Nat) (kA t0) && eqI (kA t0 : Nat) (kA t0 : Nat) then
 some (zA t0 0 (kA t0 : Nat))
 else none))
def zpi : Sig := ⟨71, [.d c2], [], 0, y31⟩
def zmj (x : (List T0)) : Option (((List T0))) := zgm x
theorem zz6 : FnOK Try.prog zpi zmj :=
 zx ycp (h := .no) Try.func71 (ze [] (by kernel_rfl) trivial) (by kernel_rfl) yad (fun x => by kernel_rfl)
def zwl : Env := ⟨[(zD z47 z3b)], [], []⟩
theorem zcf : EnvsOK Try.prog zwl := ⟨zd (zh z7s) (zj _), zg _, zf _⟩
def z3k : Shp := ⟨40, 1, [(7, .pt 1 (.one (.arr 256 .leaf)) [])], [.var 71 (.ag [.wn 2 c1, .d c2, .d (.int .i64), .d c3, .d (.int .i64), .d .bool]), .var 86 (.d c1), .row 86 c1]⟩
def xm : XS := .one (.exit 0) z3k.xe
theorem zc1 : xm.OK := XS.one_ok (za z3k)
def xl : Shp := ⟨40, 1, [(1, .d (.int .i64)), (7, .pt 1 (.one (.arr 256 .leaf)) []), (26, .d c2), (27, .d (.int .i64)), (28, .d (.int .i64))], [.var 71 (.ag [.wn 2 c1, .d c2, .d (.int .i64), .d c3, .d (.int .i64), .d .bool]), .var 86 (.d c1), .row 86 c1]⟩
abbrev vV := Int × (List T0) × Int × Int × (List T0) × Int × T1 × Int × Bool × (List Int) × (List (List Int))
abbrev z4t := ((List T0) × Int × T1 × Int × Bool × (List Int) × (List (List Int)))
def xn (i : Int) (t26 : List T0) (t27 : Int) (t28 : Int) (h : List T0) (h2 : Int) (h3 : T1) (h4 : Int) (h5 : Bool) (t7 : List Int) (h6 : List (List Int)) : Option (vV ⊕ z4t) :=
 bif ltI t28 t27 then
 (yn t26 t28).bind fun x =>
 bif eqI x.1 i then
 bif kB (kA h6) (kA h6) then
 some (.inl (i, t26, t27, W64 (t28 + 1), h, h2, h3, h4, h5, x.2, h6))
 else none
 else
 bif kB (kA h6) (kA h6) then
 some (.inl (i, t26, t27, W64 (t28 + 1), h, h2, h3, h4, h5, t7, h6))
 else none
 else
 bif kB (kA h6) (kA h6) then
 some (.inr (h, h2, h3, h4, h5, t7, h6))
 else none
def zX (s : vV) : Option (vV ⊕ z4t) := xn s.1 s.2.1 s.2.2.1 s.2.2.2.1 s.2.2.2.2.1 s.2.2.2.2.2.1 s.2.2.2.2.2.2.1 s.2.2.2.2.2.2.2.1 s.2.2.2.2.2.2.2.2.1 s.2.2.2.2.2.2.2.2.2.1 s.2.2.2.2.2.2.2.2.2.2
theorem zcg : SoundD Try.prog (.loop (zN (zw Try.f28) [1, 1, 1, 0, 1, 0, 0])) (zl xl.xe xm (zb zX)) :=
 zG (S := xl.xe) (X := xm) zcf (h := .no) (ze [] (by kernel_rfl) trivial) (za xl) zc1 zX (fun s => by kernel_rfl)
def zce : Shp := ⟨1, 1, [(0, .tu [.wn 1 (.int .u8), .d (.int .i64)])], [.var 71 (.ag [.wn 2 c1, .d c2, .d (.int .i64), .d c3, .d (.int .i64), .d .bool]), .row 86 (.int .u8), .row 86 c1]⟩
def zfz : XS := .one .ret zce.xe
theorem zqk : zfz.OK := XS.one_ok (za zce)
def qk (i : Int) (d : List T0) (d2 : Int) (d3 : T1) (d4 : Int) (d5 : Bool) (d6 : List (List Int)) : Option ((Int × (List T0) × Int × T1 × Int × Bool × (List Int) × (List (List Int)))) :=
 yf d6 0 (kA d6) fun w =>
 (z03 (w, d, d2, d3, d4, d5) i).bind fun r =>
 bif neI r 0 then
 bif kB 0 (kA ([] : List Int)) then
 bif kB (kA d6) (kA d6) then
 some (r, d, d2, d3, d4, d5, ([] : List Int), d6)
 else none
 else none
 else
 bif inI i (kA d6) then
 (d6[i.toNat]?).bind fun x =>
 zk (kA d) (
 bif kB (kA d6) (kA d6) then
 (zb zX (i, d, (kA d : Nat), 0, d, d2, d3, d4, d5, x, d6)).bind fun o =>
 bif kB 256 (kA o.2.2.2.2.2.1) then
 bif kB (kA o.2.2.2.2.2.2) (kA o.2.2.2.2.2.2) then
 some (0, o.1, o.2.1, o.2.2.1, o.2.2.2.1, o.2.2.2.2.1, o.2.2.2.2.2.1, o.2.2.2.2.2.2)
 else none
 else none
 else none)
 else none
def z7q : Sig := ⟨28, [.pt 0 r0 [], .d (.int .i64)], [.var 71 (.ag [.wn 1 c1, .d c2, .d (.int .i64), .d c3, .d (.int .i64), .d .bool]), .row 86 c1], 1, zfz⟩
def z6d (x : Int × (List T0) × Int × T1 × Int × Bool × (List (List Int))) : Option ((Int × (List T0) × Int × T1 × Int × Bool × (List Int) × (List (List Int)))) := qk x.1 x.2.1 x.2.2.1 x.2.2.2.1 x.2.2.2.2.1 x.2.2.2.2.2.1 x.2.2.2.2.2.2
theorem zew : FnOK Try.prog z7q z6d :=
 zx zcf (h := (.two .no (.two .no (.two .no (.two (.two .no (.over (zl xl.xe xm (zb zX)))) .no))))) Try.func28 (ze [.den (.loop (zN (zw Try.f28) [1, 1, 1, 0, 1, 0, 0])) (zl xl.xe xm (zb zX))] (by kernel_rfl) ⟨zcg, trivial⟩) (by kernel_rfl) zqk (fun x => by kernel_rfl)
def yen : Env := ⟨[], [], []⟩
theorem zu2 : EnvsOK Try.prog yen := ⟨zj _, zg _, zf _⟩
def ze0 : Shp := ⟨19, 0, [], []⟩
def ze1 : Shp := ⟨19, 0, [(4, .d (.int .i64))], []⟩
def z0p : XS := .or (.exit 0) ze0.xe (.one .ret ze1.xe)
theorem zrb : z0p.OK := XS.or_ok (za ze0) (XS.one_ok (za ze1))
def z0o : Shp := ⟨19, 0, [(0, .d (.sl (.int .i64))), (1, .d (.int .i64)), (7, .d (.int .i64)), (8, .d (.int .i64))], []⟩
abbrev z8a := (List Int) × Int × Int × Int
abbrev zgo := (Unit) ⊕ (Int)
def z3h (t0 : List Int) (v : Int) (t7 : Int) (t8 : Int) : Option (z8a ⊕ zgo) :=
 bif ltI t8 t7 then
 (yn t0 t8).bind fun x =>
 bif eqI v x then
 some (.inr (.inr t8))
 else
 some (.inl (t0, v, t7, W64 (t8 + 1)))
 else
 some (.inr (.inl ()))
def xG (s : z8a) : Option (z8a ⊕ zgo) := z3h s.1 s.2.1 s.2.2.1 s.2.2.2
theorem zu3 : SoundD Try.prog (.loop (zN (zw Try.f61) [1, 0, 1, 0, 0])) (zl z0o.xe z0p (zb xG)) :=
 zG (S := z0o.xe) (X := z0p) zu2 (h := .no) (ze [] (by kernel_rfl) trivial) (za z0o) zrb xG (fun s => by kernel_rfl)
def zu1 : Shp := ⟨1, 0, [(0, .d (.int .i64))], []⟩
def zza : XS := .one .ret zu1.xe
theorem y7p : zza.OK := XS.one_ok (za zu1)
def zu0 (t0 : List Int) (v : Int) : Option ((Int)) :=
 zk (kA t0) (
 (zb xG (t0, v, (kA t0 : Nat), 0)).bind fun o =>
 Sum.elim (fun y =>
 some (-1)) (fun y2 =>
 some y2) o)
def zz9 : Sig := ⟨61, [.d (.sl (.int .i64)), .d (.int .i64)], [], 0, zza⟩
def zwa (x : (List Int) × Int) : Option ((Int)) := zu0 x.1 x.2
theorem ycs : FnOK Try.prog zz9 zwa :=
 zx zu2 (h := (.two .no (.two (.two .no (.over (zl z0o.xe z0p (zb xG)))) .no))) Try.func61 (ze [.den (.loop (zN (zw Try.f61) [1, 0, 1, 0, 0])) (zl z0o.xe z0p (zb xG))] (by kernel_rfl) ⟨zu3, trivial⟩) (by kernel_rfl) y7p (fun x => by kernel_rfl)
def y7o : Env := ⟨[(zD zz9 zwa)], [], []⟩
theorem y3o : EnvsOK Try.prog y7o := ⟨zd (zh ycs) (zj _), zg _, zf _⟩
def zl8 : Shp := ⟨1, 0, [(0, .d .bool)], []⟩
def zq9 : XS := .one .ret zl8.xe
theorem y1j : zq9.OK := XS.one_ok (za zl8)
def zbz (t0 : List Int) (v : Int) : Option ((Bool)) :=
 (zu0 t0 v).bind fun r =>
 some (leI 0 r)
def zq8 : Sig := ⟨40, [.d (.sl (.int .i64)), .d (.int .i64)], [], 0, zq9⟩
def zoh (x : (List Int) × Int) : Option ((Bool)) := zbz x.1 x.2
theorem y5u : FnOK Try.prog zq8 zoh :=
 zx y3o (h := .no) Try.func40 (ze [] (by kernel_rfl) trivial) (by kernel_rfl) y1j (fun x => by kernel_rfl)
def zxq : Env := ⟨[(zD z45 z3a), (zD zq8 zoh)], [], []⟩
theorem zet : EnvsOK Try.prog zxq := ⟨zd (zh z7o) (zd (zh y5u) (zj _)), zg _, zf _⟩
def vE : Shp := ⟨53, 1, [(0, .pt 0 r0 []), (3, .pt 1 r7 []), (5, .pt 2 r10 []), (6, .d (.int .i64)), (12, .d c2), (13, .d (.int .i64)), (14, .d (.int .i64))], [.var 71 (.ag [.wn 3 c1, .d c2, .d (.int .i64), .d c3, .d (.int .i64), .d .bool]), .var 38 (.d c3), .var 88 (.d c9), .row 86 c1]⟩
def qv : XS := .one .normal vE.xe
theorem z60 : qv.OK := XS.one_ok (za vE)
def z5d : Shp := ⟨53, 1, [(0, .pt 0 r0 [])], [.var 71 (.ag [.wn 1 c1, .d c2, .d (.int .i64), .d c3, .d (.int .i64), .d .bool]), .row 86 c1]⟩
def xV : XS := .one (.exit 0) z5d.xe
theorem zfj : xV.OK := XS.one_ok (za z5d)
def xU : Shp := ⟨53, 1, [(0, .pt 0 r0 []), (3, .pt 1 r7 []), (12, .d c2), (13, .d (.int .i64)), (14, .d (.int .i64))], [.var 71 (.ag [.wn 2 c1, .d c2, .d (.int .i64), .d c3, .d (.int .i64), .d .bool]), .var 38 (.d c3), .row 86 c1]⟩
abbrev z1p := (List T0) × Int × Int × (List T0) × Int × T1 × Int × Bool × T1 × (List (List Int))
abbrev z62 := ((List T0) × Int × T1 × Int × Bool × (List (List Int)))
def xW (t12 : List T0) (t13 : Int) (t14 : Int) (d : List T0) (d2 : Int) (d3 : T1) (d4 : Int) (d5 : Bool) (c : T1) (d6 : List (List Int)) : Option (z1p ⊕ z62) :=
 bif ltI t14 t13 then
 (yn t12 t14).bind fun x =>
 (show Option ((Int × (List T0) × Int × Int × (List T0) × Int × T1 × Int × Bool × T1 × T0 × (List (List Int)))) from
 (zbz c.1 t14).bind fun r =>
 bif r then
 bif kB (kA d6) (kA d6) then
 some (256, t12, t13, t14, d, d2, d3, d4, d5, c, x, d6)
 else none
 else
 bif eqI c.2.1 t14 then
 bif kB (kA d6) (kA d6) then
 some (zdp 0 (y4w c.2.2 256), t12, t13, t14, d, d2, d3, d4, d5, c, x, d6)
 else none
 else
 bif kB (kA d6) (kA d6) then
 some (0, t12, t13, t14, d, d2, d3, d4, d5, c, x, d6)
 else none).bind fun j =>
 bif inI j.2.2.2.2.2.2.2.2.2.2.1.1 (kA j.2.2.2.2.2.2.2.2.2.2.2) then
 (j.2.2.2.2.2.2.2.2.2.2.2[j.2.2.2.2.2.2.2.2.2.2.1.1.toNat]?).bind fun x2 =>
 bif zV 0 j.1 256 then
 yf j.2.2.2.2.2.2.2.2.2.2.1.2 0 256 fun w =>
 (j.2.2.2.2.2.2.2.2.2.2.2[j.2.2.2.2.2.2.2.2.2.2.1.1.toNat]?).bind fun x3 =>
 bif kJ j.1.toNat (kA x3) then
 (j.2.2.2.2.2.2.2.2.2.2.2[j.2.2.2.2.2.2.2.2.2.2.1.1.toNat]?).bind fun _x =>
 bif kB (kA j.2.2.2.2.2.2.2.2.2.2.2) (kA (j.2.2.2.2.2.2.2.2.2.2.2.set j.2.2.2.2.2.2.2.2.2.2.1.1.toNat (z1y x3 0 j.1.toNat w))) then
 some (.inl (j.2.1, j.2.2.1, W64 (j.2.2.2.1 + 1), j.2.2.2.2.1, j.2.2.2.2.2.1, j.2.2.2.2.2.2.1, j.2.2.2.2.2.2.2.1, j.2.2.2.2.2.2.2.2.1, j.2.2.2.2.2.2.2.2.2.1, j.2.2.2.2.2.2.2.2.2.2.2.set j.2.2.2.2.2.2.2.2.2.2.1.1.toNat (z1y x3 0 j.1.toNat w)))
 else none
 else none
 else none
 else none
 else
 bif kB (kA d6) (kA d6) then
 some (.inr (d, d2, d3, d4, d5, d6))
 else none
def yg (s : z1p) : Option (z1p ⊕ z62) := xW s.1 s.2.1 s.2.2.1 s.2.2.2.1 s.2.2.2.2.1 s.2.2.2.2.2.1 s.2.2.2.2.2.2.1 s.2.2.2.2.2.2.2.1 s.2.2.2.2.2.2.2.2.1 s.2.2.2.2.2.2.2.2.2
theorem zfw : SoundD Try.prog (.loop (zN (zw Try.f17) [1, 1, 0, 1, 0, 0])) (zl xU.xe xV (zb yg)) :=
 zG (S := xU.xe) (X := xV) zet (h := (.two .no (.two .no (.two (.two .no (.two .no (.join (fun _ => qv) .no (.reg [] [11, 0])))) .no)))) (ze [.xs (fun _ => qv)] (by kernel_rfl) ⟨(qB z60), trivial⟩) (za xU) zfj yg (fun s => by kernel_rfl)
def zes : Shp := ⟨1, 1, [(0, .tu [])], [.var 71 (.ag [.wn 1 c1, .d c2, .d (.int .i64), .d c3, .d (.int .i64), .d .bool]), .row 86 c1]⟩
def zhr : XS := .one .ret zes.xe
theorem zs5 : zhr.OK := XS.one_ok (za zes)
def qH (c : T1) (d : List T0) (d2 : Int) (d3 : T1) (d4 : Int) (d5 : Bool) (d6 : List (List Int)) : Option (((List T0) × Int × T1 × Int × Bool × (List (List Int)))) :=
 yf d6 0 (kA d6) fun w =>
 (jJ (w, d, d2, d3, d4, d5)).bind fun r =>
 bif r then
 bif kB (kA d6) (kA d6) then
 some (d, d2, d3, d4, d5, d6)
 else none
 else
 zk (kA d) (
 bif kB (kA d6) (kA d6) then
 (zb yg (d, (kA d : Nat), 0, d, d2, d3, d4, d5, c, d6)).bind fun o =>
 bif kB (kA o.2.2.2.2.2) (kA o.2.2.2.2.2) then
 some ([], (-1), o.2.2.1, o.2.2.2.1, true, o.2.2.2.2.2)
 else none
 else none)
def z44 : Sig := ⟨17, [.pt 0 r0 [], .d c3], [.var 71 (.ag [.wn 1 c1, .d c2, .d (.int .i64), .d c3, .d (.int .i64), .d .bool]), .row 86 c1], 1, zhr⟩
def z39 (x : T1 × (List T0) × Int × T1 × Int × Bool × (List (List Int))) : Option (((List T0) × Int × T1 × Int × Bool × (List (List Int)))) := qH x.1 x.2.1 x.2.2.1 x.2.2.2.1 x.2.2.2.2.1 x.2.2.2.2.2.1 x.2.2.2.2.2.2
theorem z7n : FnOK Try.prog z44 z39 :=
 zx zet (h := (.two .no (.two .no (.two (.two .no (.over (zl xU.xe xV (zb yg)))) .no)))) Try.func17 (ze [.den (.loop (zN (zw Try.f17) [1, 1, 0, 1, 0, 0])) (zl xU.xe xV (zb yg))] (by kernel_rfl) ⟨zfw, trivial⟩) (by kernel_rfl) zs5 (fun x => by kernel_rfl)
def zsa : Env := ⟨[], [(xz z44 z39)], []⟩
theorem zoq : EnvsOK Try.prog zsa := ⟨zj _, zy (zR z7n) (zg _), zf _⟩
def zah : Shp := ⟨1, 1, [(0, .d (.int .i64))], [.var 71 (.ag [.wn 1 c1, .d c2, .d (.int .i64), .d c3, .d (.int .i64), .d .bool]), .row 86 c1]⟩
def zck : XS := .one .ret zah.xe
theorem zn8 : zck.OK := XS.one_ok (za zah)
def jE (d : List T0) (d2 : Int) (d3 : T1) (d4 : Int) (d5 : Bool) (d6 : List (List Int)) : Option ((Int × (List T0) × Int × T1 × Int × Bool × (List (List Int)))) :=
 bif ltI d2 0 then
 bif kB (kA d6) (kA d6) then
 some (0, d, d2, d3, W64 (d4 + 1), d5, d6)
 else none
 else
 bif ltI (W64 (d2 - 1)) 0 then
 bif kB (kA d6) (kA d6) then
 (qH d3 d (W64 (d2 - 1)) d3 (W64 (d4 + 1)) d5 d6).bind fun r =>
 bif kB (kA r.2.2.2.2.2) (kA r.2.2.2.2.2) then
 some (6, r.1, r.2.1, r.2.2.1, r.2.2.2.1, r.2.2.2.2.1, r.2.2.2.2.2)
 else none
 else none
 else
 bif kB (kA d6) (kA d6) then
 some (0, d, W64 (d2 - 1), d3, W64 (d4 + 1), d5, d6)
 else none
def z21 : Sig := ⟨72, [.pt 0 r0 []], [.var 71 (.ag [.wn 1 c1, .d c2, .d (.int .i64), .d c3, .d (.int .i64), .d .bool]), .row 86 c1], 1, zck⟩
def z1l (x : (List T0) × Int × T1 × Int × Bool × (List (List Int))) : Option ((Int × (List T0) × Int × T1 × Int × Bool × (List (List Int)))) := jE x.1 x.2.1 x.2.2.1 x.2.2.2.1 x.2.2.2.2.1 x.2.2.2.2.2
theorem z50 : FnOK Try.prog z21 z1l :=
 zx zoq (h := .no) Try.func72 (ze [] (by kernel_rfl) trivial) (by kernel_rfl) zn8 (fun x => by kernel_rfl)
def zub : Env := ⟨[(zD z47 z3b), (zD zpi zmj)], [(xz z21 z1l)], []⟩
theorem zqm : EnvsOK Try.prog zub := ⟨zd (zh z7s) (zd (zh zz6) (zj _)), zy (zR z50) (zg _), zf _⟩
def zba : Shp := ⟨1, 1, [(0, .d (.int .i64))], [.var 71 (.ag [.wn 1 c1, .d c2, .d (.int .i64), .d c3, .d (.int .i64), .d .bool]), .row 86 c1]⟩
def zey : XS := .one .ret zba.xe
theorem zoo : zey.OK := XS.one_ok (za zba)
def z0y (i : Int) (b : List Int) (d : List T0) (d2 : Int) (d3 : T1) (d4 : Int) (d5 : Bool) (d6 : List (List Int)) : Option ((Int × (List T0) × Int × T1 × Int × Bool × (List (List Int)))) :=
 yf d6 0 (kA d6) fun w =>
 (z03 (w, d, d2, d3, d4, d5) i).bind fun r =>
 bif neI r 0 then
 bif kB (kA d6) (kA d6) then
 some (r, d, d2, d3, d4, d5, d6)
 else none
 else
 zk (kA b) (
 bif neI (kA b : Nat) 256 then
 bif kB (kA d6) (kA d6) then
 some (1, d, d2, d3, d4, d5, d6)
 else none
 else
 bif kJ 256 (kA (kC 256 (0 : Int))) then
 (zgm d).bind fun r2 =>
 qL (kA r2) (kA (([(i, z1y (kC 256 (0 : Int)) 0 256 b)] : List T0))) 264 fun _ =>
 bif kB (kA d6) (kA d6) then
 (jE (r2 ++ (([(i, z1y (kC 256 (0 : Int)) 0 256 b)] : List T0))) d2 d3 d4 d5 d6).bind fun r3 =>
 bif kB (kA r3.2.2.2.2.2.2) (kA r3.2.2.2.2.2.2) then
 some (r3.1, r3.2.1, r3.2.2.1, r3.2.2.2.1, r3.2.2.2.2.1, r3.2.2.2.2.2.1, r3.2.2.2.2.2.2)
 else none
 else none
 else none)
def z6f : Sig := ⟨53, [.pt 0 r0 [], .d (.int .i64), .d (.sl (.int .u8))], [.var 71 (.ag [.wn 1 c1, .d c2, .d (.int .i64), .d c3, .d (.int .i64), .d .bool]), .row 86 c1], 1, zey⟩
def z5m (x : Int × (List Int) × (List T0) × Int × T1 × Int × Bool × (List (List Int))) : Option ((Int × (List T0) × Int × T1 × Int × Bool × (List (List Int)))) := z0y x.1 x.2.1 x.2.2.1 x.2.2.2.1 x.2.2.2.2.1 x.2.2.2.2.2.1 x.2.2.2.2.2.2.1 x.2.2.2.2.2.2.2
theorem zci : FnOK Try.prog z6f z5m :=
 zx zqm (h := .no) Try.func53 (ze [] (by kernel_rfl) trivial) (by kernel_rfl) zoo (fun x => by kernel_rfl)
def zqh : Env := ⟨[(zD z45 z3a)], [(xz z21 z1l)], []⟩
theorem z9e : EnvsOK Try.prog zqh := ⟨zd (zh z7o) (zj _), zy (zR z50) (zg _), zf _⟩
def z2h : Shp := ⟨35, 1, [(0, .pt 0 r0 [])], [.var 71 (.ag [.wn 1 c1, .d c2, .d (.int .i64), .d c3, .d (.int .i64), .d .bool]), .row 86 c1]⟩
def yO : XS := .one (.exit 0) z2h.xe
theorem z9x : yO.OK := XS.one_ok (za z2h)
def yN : Shp := ⟨35, 1, [(0, .pt 0 r0 []), (16, .d c2), (17, .d (.int .i64)), (18, .d (.int .i64))], [.var 71 (.ag [.wn 1 c1, .d c2, .d (.int .i64), .d c3, .d (.int .i64), .d .bool]), .row 86 c1]⟩
abbrev va := (List T0) × Int × Int × (List T0) × Int × T1 × Int × Bool × (List (List Int))
abbrev z36 := ((List T0) × Int × T1 × Int × Bool × (List (List Int)))
def yP (t16 : List T0) (t17 : Int) (t18 : Int) (d : List T0) (d2 : Int) (d3 : T1) (d4 : Int) (d5 : Bool) (d6 : List (List Int)) : Option (va ⊕ z36) :=
 bif ltI t18 t17 then
 (yn t16 t18).bind fun x =>
 bif inI x.1 (kA d6) then
 (d6[x.1.toNat]?).bind fun _x =>
 bif kB (kA d6) (kA (d6.set x.1.toNat x.2)) then
 some (.inl (t16, t17, W64 (t18 + 1), d, d2, d3, d4, d5, d6.set x.1.toNat x.2))
 else none
 else none
 else
 bif kB (kA d6) (kA d6) then
 some (.inr (d, d2, d3, d4, d5, d6))
 else none
def zU (s : va) : Option (va ⊕ z36) := yP s.1 s.2.1 s.2.2.1 s.2.2.2.1 s.2.2.2.2.1 s.2.2.2.2.2.1 s.2.2.2.2.2.2.1 s.2.2.2.2.2.2.2.1 s.2.2.2.2.2.2.2.2
theorem zaf : SoundD Try.prog (.loop (zN (zw Try.f55) [1, 1, 1, 0, 1, 0, 0])) (zl yN.xe yO (zb zU)) :=
 zG (S := yN.xe) (X := yO) z9e (h := .no) (ze [] (by kernel_rfl) trivial) (za yN) z9x zU (fun s => by kernel_rfl)
def z9d : Shp := ⟨1, 1, [(0, .d (.int .i64))], [.var 71 (.ag [.wn 1 c1, .d c2, .d (.int .i64), .d c3, .d (.int .i64), .d .bool]), .row 86 c1]⟩
def zb7 : XS := .one .ret z9d.xe
theorem zlj : zb7.OK := XS.one_ok (za z9d)
def je (d : List T0) (d2 : Int) (d3 : T1) (d4 : Int) (d5 : Bool) (d6 : List (List Int)) : Option ((Int × (List T0) × Int × T1 × Int × Bool × (List (List Int)))) :=
 yf d6 0 (kA d6) fun w =>
 (jJ (w, d, d2, d3, d4, d5)).bind fun r =>
 bif r then
 bif kB (kA d6) (kA d6) then
 some (6, d, d2, d3, d4, d5, d6)
 else none
 else
 bif kB (kA d6) (kA d6) then
 (jE d d2 d3 d4 d5 d6).bind fun r2 =>
 bif neI r2.1 0 then
 bif kB (kA r2.2.2.2.2.2.2) (kA r2.2.2.2.2.2.2) then
 some (r2.1, r2.2.1, r2.2.2.1, r2.2.2.2.1, r2.2.2.2.2.1, r2.2.2.2.2.2.1, r2.2.2.2.2.2.2)
 else none
 else
 zk (kA r2.2.1) (
 bif kB (kA r2.2.2.2.2.2.2) (kA r2.2.2.2.2.2.2) then
 (zb zU (r2.2.1, (kA r2.2.1 : Nat), 0, r2.2.1, r2.2.2.1, r2.2.2.2.1, r2.2.2.2.2.1, r2.2.2.2.2.2.1, r2.2.2.2.2.2.2)).bind fun o =>
 bif kB (kA o.2.2.2.2.2) (kA o.2.2.2.2.2) then
 some (0, [], o.2.1, o.2.2.1, o.2.2.2.1, o.2.2.2.2.1, o.2.2.2.2.2)
 else none
 else none)
 else none
def z1k : Sig := ⟨55, [.pt 0 r0 []], [.var 71 (.ag [.wn 1 c1, .d c2, .d (.int .i64), .d c3, .d (.int .i64), .d .bool]), .row 86 c1], 1, zb7⟩
def z0q (x : (List T0) × Int × T1 × Int × Bool × (List (List Int))) : Option ((Int × (List T0) × Int × T1 × Int × Bool × (List (List Int)))) := je x.1 x.2.1 x.2.2.1 x.2.2.2.1 x.2.2.2.2.1 x.2.2.2.2.2
theorem z4j : FnOK Try.prog z1k z0q :=
 zx z9e (h := (.two .no (.two .no (.two .no (.two (.two .no (.over (zl yN.xe yO (zb zU)))) .no))))) Try.func55 (ze [.den (.loop (zN (zw Try.f55) [1, 1, 1, 0, 1, 0, 0])) (zl yN.xe yO (zb zU))] (by kernel_rfl) ⟨zaf, trivial⟩) (by kernel_rfl) zlj (fun x => by kernel_rfl)
def zsl : Env := ⟨[(zD z2f z1t)], [(xz z6f z5m), (xz z1k z0q)], []⟩
theorem zp3 : EnvsOK Try.prog zsl := ⟨zd (zh z69) (zj _), zy (zR zci) (zy (zR z4j) (zg _)), zf _⟩
def z8c : Shp := ⟨34, 2, [(0, .pt 0 r6 []), (3, .pt 2 r7 []), (5, .d (.int .i64))], [.var 75 (.ag [.pt 1 r0 [], .d c4, .wn 3 (.int .u8), .d (.int .i64), .d .bool]), .var 71 (.ag [.wn 4 c1, .d c2, .d (.int .i64), .d c3, .d (.int .i64), .d .bool]), .var 73 (.d c4), .row 5 (.int .u8), .row 86 c1]⟩
def z3o : XS := .one .normal z8c.xe
theorem zj5 : z3o.OK := XS.one_ok (za z8c)
def zam : Shp := ⟨1, 2, [(0, .d (.int .i64))], [.var 75 (.ag [.pt 1 r0 [], .d c4, .d (.sl (.int .u8)), .d (.int .i64), .d .bool]), .var 71 (.ag [.wn 2 c1, .d c2, .d (.int .i64), .d c3, .d (.int .i64), .d .bool]), .row 86 c1]⟩
def zcz : XS := .one .ret zam.xe
theorem zng : zcz.OK := XS.one_ok (za zam)
def z3d (t : T2) (j : T2) (j2 : Int) (j3 : Bool) (j4 : List T0) (j5 : Int) (j6 : T1) (j7 : Int) (j8 : Bool) (j9 : List Int) (j10 : List (List Int)) : Option ((Int × T2 × (List Int) × Int × Bool × (List T0) × Int × T1 × Int × Bool × (List (List Int)))) :=
 (qV t).bind fun r =>
 bif kB (kA j10) (kA j10) then
 (z0y (W64 (kH t.1 2)) r j4 j5 j6 j7 j8 j10).bind fun r2 =>
 (show Option ((Int × T2 × Int × Bool × (List T0) × Int × T1 × Int × Bool × T2 × (List Int) × (List (List Int)))) from
 bif eqI r2.1 0 then
 bif kB (kA r2.2.2.2.2.2.2) (kA r2.2.2.2.2.2.2) then
 (je r2.2.1 r2.2.2.1 r2.2.2.2.1 r2.2.2.2.2.1 r2.2.2.2.2.2.1 r2.2.2.2.2.2.2).bind fun r3 =>
 bif kB (kA j9) (kA j9) then
 bif kB (kA r3.2.2.2.2.2.2) (kA r3.2.2.2.2.2.2) then
 some (r3.1, j, j2, j3, r3.2.1, r3.2.2.1, r3.2.2.2.1, r3.2.2.2.2.1, r3.2.2.2.2.2.1, t, j9, r3.2.2.2.2.2.2)
 else none
 else none
 else none
 else
 bif kB (kA j9) (kA j9) then
 bif kB (kA r2.2.2.2.2.2.2) (kA r2.2.2.2.2.2.2) then
 some (r2.1, j, j2, j3, r2.2.1, r2.2.2.1, r2.2.2.2.1, r2.2.2.2.2.1, r2.2.2.2.2.2.1, t, j9, r2.2.2.2.2.2.2)
 else none
 else none).bind fun j11 =>
 bif neI j11.1 0 then
 yf j11.2.2.2.2.2.2.2.2.2.2.1 0 (kA j11.2.2.2.2.2.2.2.2.2.2.1) fun w =>
 bif kB (kA j11.2.2.2.2.2.2.2.2.2.2.2) (kA j11.2.2.2.2.2.2.2.2.2.2.2) then
 some (j11.1, j11.2.1, w, j11.2.2.1, true, j11.2.2.2.2.1, j11.2.2.2.2.2.1, j11.2.2.2.2.2.2.1, j11.2.2.2.2.2.2.2.1, j11.2.2.2.2.2.2.2.2.1, j11.2.2.2.2.2.2.2.2.2.2.2)
 else none
 else
 yf j11.2.2.2.2.2.2.2.2.2.2.1 0 (kA j11.2.2.2.2.2.2.2.2.2.2.1) fun w2 =>
 bif kB (kA j11.2.2.2.2.2.2.2.2.2.2.2) (kA j11.2.2.2.2.2.2.2.2.2.2.2) then
 some (0, j11.2.2.2.2.2.2.2.2.2.1, w2, j11.2.2.1, j11.2.2.2.1, j11.2.2.2.2.1, j11.2.2.2.2.2.1, j11.2.2.2.2.2.2.1, j11.2.2.2.2.2.2.2.1, j11.2.2.2.2.2.2.2.2.1, j11.2.2.2.2.2.2.2.2.2.2.2)
 else none
 else none
def zcy : Sig := ⟨33, [.pt 0 r6 [], .d c4], [.var 75 (.ag [.pt 1 r0 [], .d c4, .wn 2 (.int .u8), .d (.int .i64), .d .bool]), .var 71 (.ag [.wn 3 c1, .d c2, .d (.int .i64), .d c3, .d (.int .i64), .d .bool]), .row 5 (.int .u8), .row 86 c1], 2, zcz⟩
def zbm (x : T2 × T2 × Int × Bool × (List T0) × Int × T1 × Int × Bool × (List Int) × (List (List Int))) : Option ((Int × T2 × (List Int) × Int × Bool × (List T0) × Int × T1 × Int × Bool × (List (List Int)))) := z3d x.1 x.2.1 x.2.2.1 x.2.2.2.1 x.2.2.2.2.1 x.2.2.2.2.2.1 x.2.2.2.2.2.2.1 x.2.2.2.2.2.2.2.1 x.2.2.2.2.2.2.2.2.1 x.2.2.2.2.2.2.2.2.2.1 x.2.2.2.2.2.2.2.2.2.2
theorem zqx : FnOK Try.prog zcy zbm :=
 zx zp3 (h := (.two .no (.two (.reg [] [10, 0, 1]) (.join (fun _ => z3o) .no .no)))) Try.func33 (ze [.xs (fun _ => z3o)] (by kernel_rfl) ⟨(qB zj5), trivial⟩) (by kernel_rfl) zng (fun x => by kernel_rfl)
def zws : Env := ⟨[(zD jK ji)], [], []⟩
theorem zsk : EnvsOK Try.prog zws := ⟨zd (zh vx) (zj _), zg _, zf _⟩
def zcv : Shp := ⟨1, 0, [(0, .d (.int .i64))], []⟩
def zg3 : XS := .one .ret zcv.xe
theorem zqw : zg3.OK := XS.one_ok (za zcv)
def z25 (j : T3) (j2 : T2) (j3 : List Int) (j4 : Int) (j5 : Bool) (side : Int) (i : Int) : Option ((Int)) :=
 (qJ j).bind fun r =>
 some (W64 ((W64 (2 + (W64 (side * r)))) + i))
def z7u : Sig := ⟨34, [.rf (.ag [.rf (.d c8), .d c4, .d (.sl (.int .u8)), .d (.int .i64), .d .bool]), .d (.int .i64), .d (.int .i64)], [], 0, zg3⟩
def z6j (x : T3 × T2 × (List Int) × Int × Bool × Int × Int) : Option ((Int)) := z25 x.1 x.2.1 x.2.2.1 x.2.2.2.1 x.2.2.2.2.1 x.2.2.2.2.2.1 x.2.2.2.2.2.2
theorem zf8 : FnOK Try.prog z7u z6j :=
 zx zsk (h := .no) Try.func34 (ze [] (by kernel_rfl) trivial) (by kernel_rfl) zqw (fun x => by kernel_rfl)
def y9f : Env := ⟨[(zD z7r z6e), (zD jK ji), (zD zva zst), (zD z7u z6j)], [(xz z7q z6d), (xz zcy zbm), (xz zsr zpn)], []⟩
theorem zd4 : EnvsOK Try.prog y9f := ⟨zd (zh zex) (zd (zh vx) (zd (zh y9i) (zd (zh zf8) (zj _)))), zy (zR zew) (zy (zR zqx) (zy (zR y76) (zg _))), zf _⟩
def z5t : Shp := ⟨138, 1, [(0, .pt 0 r0 []), (5, .pt 1 r6 [])], [.var 71 (.ag [.wn 2 c1, .d c2, .d (.int .i64), .d c3, .d (.int .i64), .d .bool]), .var 75 (.ag [.pt 0 r0 [], .d c4, .wn 3 (.int .u8), .d (.int .i64), .d .bool]), .row 86 c1, .row 5 (.int .u8)]⟩
def z5u : Shp := ⟨138, 1, [(2, .c .nilp), (3, .d c5), (4, .d (.int .i64))], [.var 71 (.ag [.wn 1 c1, .d c2, .d (.int .i64), .d c3, .d (.int .i64), .d .bool]), .row 86 c1]⟩
def qn : XS := .or (.exit 0) z5t.xe (.one .ret z5u.xe)
theorem zg4 : qn.OK := XS.or_ok (za z5t) (XS.one_ok (za z5u))
def qm : Shp := ⟨138, 1, [(0, .pt 0 r0 []), (5, .pt 1 r6 []), (6, .d (.int .i64)), (26, .d (.int .i64))], [.var 71 (.ag [.wn 2 c1, .d c2, .d (.int .i64), .d c3, .d (.int .i64), .d .bool]), .var 75 (.ag [.pt 0 r0 [], .d c4, .wn 3 (.int .u8), .d (.int .i64), .d .bool]), .row 86 c1, .row 5 (.int .u8)]⟩
abbrev z26 := Int × Int × (List T0) × Int × T1 × Int × Bool × T2 × Int × Bool × (List (List Int)) × (List Int)
abbrev z70 := ((List T0) × Int × T1 × Int × Bool × T2 × Int × Bool × (List (List Int)) × (List Int)) ⊕ ((List (List Int)) × Int × (List T0) × Int × T1 × Int × Bool × (List (List Int)))
def qo (room : Int) (t26 : Int) (d : List T0) (d2 : Int) (d3 : T1) (d4 : Int) (d5 : Bool) (j : T2) (j2 : Int) (j3 : Bool) (d6 : List (List Int)) (j4 : List Int) : Option (z26 ⊕ z70) :=
 bif ltI t26 2 then
 bif kB (kA d6) (kA d6) then
 (qk t26 d d2 d3 d4 d5 d6).bind fun r =>
 bif neI r.1 0 then
 bif kB (kA r.2.2.2.2.2.2.2) (kA r.2.2.2.2.2.2.2) then
 some (.inr (.inr ([], r.1, r.2.1, r.2.2.1, r.2.2.2.1, r.2.2.2.2.1, r.2.2.2.2.2.1, r.2.2.2.2.2.2.2)))
 else none
 else
 yf r.2.2.2.2.2.2.1 0 (kA r.2.2.2.2.2.2.1) fun w =>
 (zgt w room).bind fun r2 =>
 bif ltI j.1 r2.1 then
 bif kB (kA r.2.2.2.2.2.2.2) (kA r.2.2.2.2.2.2.2) then
 bif kB (kA j4) (kA j4) then
 some (.inl (room, W64 (t26 + 1), r.2.1, r.2.2.1, r.2.2.2.1, r.2.2.2.2.1, r.2.2.2.2.2.1, r2, j2, j3, r.2.2.2.2.2.2.2, j4))
 else none
 else none
 else
 bif kB (kA r.2.2.2.2.2.2.2) (kA r.2.2.2.2.2.2.2) then
 bif kB (kA j4) (kA j4) then
 some (.inl (room, W64 (t26 + 1), r.2.1, r.2.2.1, r.2.2.2.1, r.2.2.2.2.1, r.2.2.2.2.2.1, j, j2, j3, r.2.2.2.2.2.2.2, j4))
 else none
 else none
 else none
 else
 bif kB (kA d6) (kA d6) then
 bif kB (kA j4) (kA j4) then
 some (.inr (.inl (d, d2, d3, d4, d5, j, j2, j3, d6, j4)))
 else none
 else none
def yD (s : z26) : Option (z26 ⊕ z70) := qo s.1 s.2.1 s.2.2.1 s.2.2.2.1 s.2.2.2.2.1 s.2.2.2.2.2.1 s.2.2.2.2.2.2.1 s.2.2.2.2.2.2.2.1 s.2.2.2.2.2.2.2.2.1 s.2.2.2.2.2.2.2.2.2.1 s.2.2.2.2.2.2.2.2.2.2.1 s.2.2.2.2.2.2.2.2.2.2.2
theorem zh7 : SoundD Try.prog (.loop (zN (zw Try.f10) [1, 1, 1, 1, 0, 1, 0, 0])) (zl qm.xe qn (zb yD)) :=
 zG (S := qm.xe) (X := qn) zd4 (h := .no) (ze [] (by kernel_rfl) trivial) (za qm) zg4 yD (fun s => by kernel_rfl)
def z3q : Shp := ⟨138, 1, [(5, .pt 1 r6 [])], [.var 71 (.ag [.wn 2 c1, .d c2, .d (.int .i64), .d c3, .d (.int .i64), .d .bool]), .var 75 (.ag [.pt 0 r0 [], .d c4, .wn 3 (.int .u8), .d (.int .i64), .d .bool]), .row 86 c1, .row 5 (.int .u8)]⟩
def z3r : Shp := ⟨138, 1, [(2, .c .nilp), (3, .d c5), (4, .d (.int .i64))], [.var 71 (.ag [.wn 1 c1, .d c2, .d (.int .i64), .d c3, .d (.int .i64), .d .bool]), .row 86 c1]⟩
def xp : XS := .or (.exit 2) z3q.xe (.one .ret z3r.xe)
theorem zc2 : xp.OK := XS.or_ok (za z3q) (XS.one_ok (za z3r))
def xo : Shp := ⟨138, 1, [(0, .pt 0 r0 []), (5, .pt 1 r6 []), (12, .d (.int .i64))], [.var 71 (.ag [.wn 2 c1, .d c2, .d (.int .i64), .d c3, .d (.int .i64), .d .bool]), .var 75 (.ag [.pt 0 r0 [], .d c4, .wn 3 (.int .u8), .d (.int .i64), .d .bool]), .row 86 c1, .row 5 (.int .u8)]⟩
abbrev vW := Int × (List T0) × Int × T1 × Int × Bool × T2 × Int × Bool × (List (List Int)) × (List Int)
abbrev z4u := ((List T0) × Int × T1 × Int × Bool × T2 × Int × Bool × (List (List Int)) × (List Int)) ⊕ ((List (List Int)) × Int × (List T0) × Int × T1 × Int × Bool × (List (List Int)))
def xq (i : Int) (d : List T0) (d2 : Int) (d3 : T1) (d4 : Int) (d5 : Bool) (j : T2) (j2 : Int) (j3 : Bool) (d6 : List (List Int)) (j4 : List Int) : Option (vW ⊕ z4u) :=
 bif ltI (W64 (i * 256)) j.2.2 then
 yf d6 0 (kA d6) fun w =>
 yf j4 0 (kA j4) fun w2 =>
 (z25 (w, d, d2, d3, d4, d5) j w2 j2 j3 j.2.1 i).bind fun r =>
 bif kB (kA d6) (kA d6) then
 (qk r d d2 d3 d4 d5 d6).bind fun r2 =>
 bif neI r2.1 0 then
 bif kB (kA r2.2.2.2.2.2.2.2) (kA r2.2.2.2.2.2.2.2) then
 some (.inr (.inr ([], r2.1, r2.2.1, r2.2.2.1, r2.2.2.2.1, r2.2.2.2.2.1, r2.2.2.2.2.2.1, r2.2.2.2.2.2.2.2)))
 else none
 else
 bif kB (kA j4) (kA j4) then
 yf r2.2.2.2.2.2.2.1 0 (kA r2.2.2.2.2.2.2.1) fun w3 =>
 qL (kA j4) (kA w3) 1 fun _ =>
 bif kB (kA r2.2.2.2.2.2.2.2) (kA r2.2.2.2.2.2.2.2) then
 bif kB (kA (j4 ++ w3)) (kA (j4 ++ w3)) then
 some (.inl (W64 (i + 1), r2.2.1, r2.2.2.1, r2.2.2.2.1, r2.2.2.2.2.1, r2.2.2.2.2.2.1, j, j2, j3, r2.2.2.2.2.2.2.2, j4 ++ w3))
 else none
 else none
 else none
 else none
 else
 bif kB (kA d6) (kA d6) then
 bif kB (kA j4) (kA j4) then
 some (.inr (.inl (d, d2, d3, d4, d5, j, j2, j3, d6, j4)))
 else none
 else none
def yH (s : vW) : Option (vW ⊕ z4u) := xq s.1 s.2.1 s.2.2.1 s.2.2.2.1 s.2.2.2.2.1 s.2.2.2.2.2.1 s.2.2.2.2.2.2.1 s.2.2.2.2.2.2.2.1 s.2.2.2.2.2.2.2.2.1 s.2.2.2.2.2.2.2.2.2.1 s.2.2.2.2.2.2.2.2.2.2
theorem zd5 : SoundD Try.prog (.loop (zN (zw Try.f10) [1, 1, 1, 1, 1, 1, 0, 1, 0, 0])) (zl xo.xe xp (zb yH)) :=
 zG (S := xo.xe) (X := xp) zd4 (h := .no) (ze [] (by kernel_rfl) trivial) (za xo) zc2 yH (fun s => by kernel_rfl)
def zni : Shp := ⟨1, 1, [(0, .tu [.c .nilp, .d c5, .d (.int .i64)])], [.var 71 (.ag [.wn 1 c1, .d c2, .d (.int .i64), .d c3, .d (.int .i64), .d .bool]), .row 86 c1]⟩
def znj : Shp := ⟨1, 1, [(0, .tu [.pt 1 r6 [], .wn 2 (.sl (.int .u8)), .d (.int .i64)])], [.var 71 (.ag [.wn 3 c1, .d c2, .d (.int .i64), .d c3, .d (.int .i64), .d .bool]), .var 75 (.ag [.pt 0 r0 [], .d c4, .d (.sl (.int .u8)), .d (.int .i64), .d .bool]), .row 34 (.sl (.int .u8)), .row 86 c1]⟩
def zsn : XS := .or .ret zni.xe (.one .ret znj.xe)
theorem y37 : zsn.OK := XS.or_ok (za zni) (XS.one_ok (za znj))
def qM (d : List T0) (d2 : Int) (d3 : T1) (d4 : Int) (d5 : Bool) (d6 : List (List Int)) : Option (((List (List Int)) × Int × (List T0) × Int × T1 × Int × Bool × (List (List Int))) ⊕ (Int × (List T0) × Int × T1 × Int × Bool × T2 × (List Int) × Int × Bool × (List (List Int)) × (List (List Int)))) :=
 yf d6 0 (kA d6) fun w =>
 (vv (w, d, d2, d3, d4, d5)).bind fun r =>
 bif ltI r 6 then
 bif kB (kA d6) (kA d6) then
 some (.inl ([], 1, d, d2, d3, d4, d5, d6))
 else none
 else
 yf d6 0 (kA d6) fun w2 =>
 (qJ (w2, d, d2, d3, d4, d5)).bind fun r2 =>
 bif kB (kA d6) (kA d6) then
 bif kB 0 (kA ([] : List Int)) then
 (zb yD (W64 (r2 * 256), 0, d, d2, d3, d4, d5, (0, 0, 0), 0, false, d6, ([] : List Int))).bind fun o =>
 Sum.elim (fun y =>
 bif eqI y.2.2.2.2.2.1.1 0 then
 bif kB (kA y.2.2.2.2.2.2.2.2.2) (kA y.2.2.2.2.2.2.2.2.2) then
 bif kB (kA y.2.2.2.2.2.2.2.2.1) (kA y.2.2.2.2.2.2.2.2.1) then
 (z3d (1, 0, 0) y.2.2.2.2.2.1 y.2.2.2.2.2.2.1 y.2.2.2.2.2.2.2.1 y.1 y.2.1 y.2.2.1 y.2.2.2.1 y.2.2.2.2.1 y.2.2.2.2.2.2.2.2.2 y.2.2.2.2.2.2.2.2.1).bind fun r3 =>
 bif neI r3.1 0 then
 bif kB (kA r3.2.2.2.2.2.2.2.2.2.2) (kA r3.2.2.2.2.2.2.2.2.2.2) then
 some (.inl ([], r3.1, r3.2.2.2.2.2.1, r3.2.2.2.2.2.2.1, r3.2.2.2.2.2.2.2.1, r3.2.2.2.2.2.2.2.2.1, r3.2.2.2.2.2.2.2.2.2.1, r3.2.2.2.2.2.2.2.2.2.2))
 else none
 else
 bif kB 0 (kA ([] : List (List Int))) then
 bif kB (kA r3.2.2.2.2.2.2.2.2.2.2) (kA r3.2.2.2.2.2.2.2.2.2.2) then
 some (.inr (0, r3.2.2.2.2.2.1, r3.2.2.2.2.2.2.1, r3.2.2.2.2.2.2.2.1, r3.2.2.2.2.2.2.2.2.1, r3.2.2.2.2.2.2.2.2.2.1, r3.2.1, r3.2.2.1, r3.2.2.2.1, r3.2.2.2.2.1, ([] : List (List Int)), r3.2.2.2.2.2.2.2.2.2.2))
 else none
 else none
 else none
 else none
 else
 bif kB (kA y.2.2.2.2.2.2.2.2.1) (kA y.2.2.2.2.2.2.2.2.1) then
 bif kB (kA y.2.2.2.2.2.2.2.2.2) (kA y.2.2.2.2.2.2.2.2.2) then
 (zb yH (0, y.1, y.2.1, y.2.2.1, y.2.2.2.1, y.2.2.2.2.1, y.2.2.2.2.2.1, y.2.2.2.2.2.2.1, y.2.2.2.2.2.2.2.1, y.2.2.2.2.2.2.2.2.1, y.2.2.2.2.2.2.2.2.2)).bind fun o2 =>
 Sum.elim (fun y3 =>
 bif zV 0 y3.2.2.2.2.2.1.2.2 (kA y3.2.2.2.2.2.2.2.2.2) && eqI y3.2.2.2.2.2.1.2.2 y3.2.2.2.2.2.1.2.2 then
 (zee (kC y3.2.2.2.2.2.1.2.2.toNat true) y3.2.2.2.2.2.2.2.2.2).bind fun r4 =>
 bif neI r4.1 0 then
 bif kB (kA y3.2.2.2.2.2.2.2.2.1) (kA y3.2.2.2.2.2.2.2.2.1) then
 some (.inl ([], r4.1, y3.1, y3.2.1, y3.2.2.1, y3.2.2.2.1, y3.2.2.2.2.1, y3.2.2.2.2.2.2.2.2.1))
 else none
 else
 zk (kA r4.2.2) (
 yf r4.2.1 0 y3.2.2.2.2.2.1.2.2.toNat fun w3 =>
 bif kB (kA r4.2.2) (kA r4.2.2) then
 bif kB (kA y3.2.2.2.2.2.2.2.2.1) (kA y3.2.2.2.2.2.2.2.2.1) then
 some (.inr (0, y3.1, y3.2.1, y3.2.2.1, y3.2.2.2.1, y3.2.2.2.2.1, y3.2.2.2.2.2.1, w3, (kA r4.2.2 : Nat), y3.2.2.2.2.2.2.2.1, r4.2.2, y3.2.2.2.2.2.2.2.2.1))
 else none
 else none)
 else none) (fun y4 =>
 bif kB (kA y4.2.2.2.2.2.2.2) (kA y4.2.2.2.2.2.2.2) then
 some (.inl (y4.1, y4.2.1, y4.2.2.1, y4.2.2.2.1, y4.2.2.2.2.1, y4.2.2.2.2.2.1, y4.2.2.2.2.2.2.1, y4.2.2.2.2.2.2.2))
 else none) o2
 else none
 else none) (fun y2 =>
 bif kB (kA y2.2.2.2.2.2.2.2) (kA y2.2.2.2.2.2.2.2) then
 some (.inl (y2.1, y2.2.1, y2.2.2.1, y2.2.2.2.1, y2.2.2.2.2.1, y2.2.2.2.2.2.1, y2.2.2.2.2.2.2.1, y2.2.2.2.2.2.2.2))
 else none) o
 else none
 else none
def za0 : Sig := ⟨10, [.pt 0 r0 []], [.var 71 (.ag [.wn 1 c1, .d c2, .d (.int .i64), .d c3, .d (.int .i64), .d .bool]), .row 86 c1], 1, zsn⟩
def z8k (x : (List T0) × Int × T1 × Int × Bool × (List (List Int))) : Option (((List (List Int)) × Int × (List T0) × Int × T1 × Int × Bool × (List (List Int))) ⊕ (Int × (List T0) × Int × T1 × Int × Bool × T2 × (List Int) × Int × Bool × (List (List Int)) × (List (List Int)))) := qM x.1 x.2.1 x.2.2.1 x.2.2.2.1 x.2.2.2.2.1 x.2.2.2.2.2
theorem zfl : FnOK Try.prog za0 z8k :=
 zx zd4 (h := (.two .no (.two .no (.two .no (.two .no (.two (.two .no (.over (zl qm.xe qn (zb yD)))) (.two .no (.two (.two .no (.over (zl xo.xe xp (zb yH)))) .no)))))))) Try.func10 (ze [.den (.loop (zN (zw Try.f10) [1, 1, 1, 1, 0, 1, 0, 0])) (zl qm.xe qn (zb yD)), .den (.loop (zN (zw Try.f10) [1, 1, 1, 1, 1, 1, 0, 1, 0, 0])) (zl xo.xe xp (zb yH))] (by kernel_rfl) ⟨zh7, zd5, trivial⟩) (by kernel_rfl) y37 (fun x => by kernel_rfl)
def zox : Env := ⟨[], [], []⟩
theorem zlr : EnvsOK Try.prog zox := ⟨zj _, zg _, zf _⟩
def z8s : Shp := ⟨1, 0, [(0, .d .bool)], []⟩
def zai : XS := .one .ret z8s.xe
theorem zkd : zai.OK := XS.one_ok (za z8s)
def xK (j : T3) (j2 : T2) (j3 : List Int) (j4 : Int) (j5 : Bool) : Option ((Bool)) :=
 some j5
def z0r : Sig := ⟨15, [.rf (.ag [.rf (.d c8), .d c4, .d (.sl (.int .u8)), .d (.int .i64), .d .bool])], [], 0, zai⟩
def z01 (x : T3 × T2 × (List Int) × Int × Bool) : Option ((Bool)) := xK x.1 x.2.1 x.2.2.1 x.2.2.2.1 x.2.2.2.2
theorem z3m : FnOK Try.prog z0r z01 :=
 zx zlr (h := .no) Try.func15 (ze [] (by kernel_rfl) trivial) (by kernel_rfl) zkd (fun x => by kernel_rfl)
def zuc : Env := ⟨[(zD z47 z3b), (zD zpi zmj)], [(xz z21 z1l)], []⟩
theorem zqn : EnvsOK Try.prog zuc := ⟨zd (zh z7s) (zd (zh zz6) (zj _)), zy (zR z50) (zg _), zf _⟩
def zbb : Shp := ⟨1, 2, [(0, .d (.int .i64))], [.var 71 (.ag [.wn 2 c1, .d c2, .d (.int .i64), .d c3, .d (.int .i64), .d .bool]), .row 5 (.int .u8), .row 86 c1]⟩
def zf0 : XS := .one .ret zbb.xe
theorem zop : zf0.OK := XS.one_ok (za zbb)
def z0z (i : Int) (d : List T0) (d2 : Int) (d3 : T1) (d4 : Int) (d5 : Bool) (b : List Int) (d6 : List (List Int)) : Option ((Int × (List T0) × Int × T1 × Int × Bool × (List Int) × (List (List Int)))) :=
 yf d6 0 (kA d6) fun w =>
 (z03 (w, d, d2, d3, d4, d5) i).bind fun r =>
 bif neI r 0 then
 bif kB (kA d6) (kA d6) then
 some (r, d, d2, d3, d4, d5, b, d6)
 else none
 else
 zk (kA b) (
 bif neI (kA b : Nat) 256 then
 bif kB (kA d6) (kA d6) then
 some (1, d, d2, d3, d4, d5, b, d6)
 else none
 else
 yf b 0 (kA b) fun w2 =>
 bif kJ 256 (kA (kC 256 (0 : Int))) then
 (zgm d).bind fun r2 =>
 qL (kA r2) (kA (([(i, z1y (kC 256 (0 : Int)) 0 256 w2)] : List T0))) 264 fun _ =>
 bif kB (kA d6) (kA d6) then
 (jE (r2 ++ (([(i, z1y (kC 256 (0 : Int)) 0 256 w2)] : List T0))) d2 d3 d4 d5 d6).bind fun r3 =>
 bif kB (kA r3.2.2.2.2.2.2) (kA r3.2.2.2.2.2.2) then
 some (r3.1, r3.2.1, r3.2.2.1, r3.2.2.2.1, r3.2.2.2.2.1, r3.2.2.2.2.2.1, b, r3.2.2.2.2.2.2)
 else none
 else none
 else none)
def zez : Sig := ⟨53, [.pt 0 r0 [], .d (.int .i64), .wn 1 (.int .u8)], [.var 71 (.ag [.wn 2 c1, .d c2, .d (.int .i64), .d c3, .d (.int .i64), .d .bool]), .row 5 (.int .u8), .row 86 c1], 2, zf0⟩
def zcj (x : Int × (List T0) × Int × T1 × Int × Bool × (List Int) × (List (List Int))) : Option ((Int × (List T0) × Int × T1 × Int × Bool × (List Int) × (List (List Int)))) := z0z x.1 x.2.1 x.2.2.1 x.2.2.2.1 x.2.2.2.2.1 x.2.2.2.2.2.1 x.2.2.2.2.2.2.1 x.2.2.2.2.2.2.2
theorem zs9 : FnOK Try.prog zez zcj :=
 zx zqn (h := .no) Try.func53 (ze [] (by kernel_rfl) trivial) (by kernel_rfl) zop (fun x => by kernel_rfl)
def zsm : Env := ⟨[(zD z2f z1t)], [(xz z6f z5m), (xz z1k z0q)], []⟩
theorem zp4 : EnvsOK Try.prog zsm := ⟨zd (zh z69) (zj _), zy (zR zci) (zy (zR z4j) (zg _)), zf _⟩
def z8d : Shp := ⟨34, 2, [(0, .pt 0 r6 []), (3, .pt 2 r7 []), (5, .d (.int .i64))], [.var 75 (.ag [.pt 1 r0 [], .d c4, .d (.sl (.int .u8)), .d (.int .i64), .d .bool]), .var 71 (.ag [.wn 3 c1, .d c2, .d (.int .i64), .d c3, .d (.int .i64), .d .bool]), .var 73 (.d c4), .row 86 c1]⟩
def z3p : XS := .one .normal z8d.xe
theorem zj6 : z3p.OK := XS.one_ok (za z8d)
def zan : Shp := ⟨1, 2, [(0, .d (.int .i64))], [.var 75 (.ag [.pt 1 r0 [], .d c4, .d (.sl (.int .u8)), .d (.int .i64), .d .bool]), .var 71 (.ag [.wn 2 c1, .d c2, .d (.int .i64), .d c3, .d (.int .i64), .d .bool]), .row 86 c1]⟩
def zd3 : XS := .one .ret zan.xe
theorem znh : zd3.OK := XS.one_ok (za zan)
def z3e (t : T2) (j : T2) (j2 : List Int) (j3 : Int) (j4 : Bool) (j5 : List T0) (j6 : Int) (j7 : T1) (j8 : Int) (j9 : Bool) (j10 : List (List Int)) : Option ((Int × T2 × (List Int) × Int × Bool × (List T0) × Int × T1 × Int × Bool × (List (List Int)))) :=
 (qV t).bind fun r =>
 bif kB (kA j10) (kA j10) then
 (z0y (W64 (kH t.1 2)) r j5 j6 j7 j8 j9 j10).bind fun r2 =>
 (show Option ((Int × T2 × (List Int) × Int × Bool × (List T0) × Int × T1 × Int × Bool × T2 × (List (List Int)))) from
 bif eqI r2.1 0 then
 bif kB (kA r2.2.2.2.2.2.2) (kA r2.2.2.2.2.2.2) then
 (je r2.2.1 r2.2.2.1 r2.2.2.2.1 r2.2.2.2.2.1 r2.2.2.2.2.2.1 r2.2.2.2.2.2.2).bind fun r3 =>
 bif kB (kA r3.2.2.2.2.2.2) (kA r3.2.2.2.2.2.2) then
 some (r3.1, j, j2, j3, j4, r3.2.1, r3.2.2.1, r3.2.2.2.1, r3.2.2.2.2.1, r3.2.2.2.2.2.1, t, r3.2.2.2.2.2.2)
 else none
 else none
 else
 bif kB (kA r2.2.2.2.2.2.2) (kA r2.2.2.2.2.2.2) then
 some (r2.1, j, j2, j3, j4, r2.2.1, r2.2.2.1, r2.2.2.2.1, r2.2.2.2.2.1, r2.2.2.2.2.2.1, t, r2.2.2.2.2.2.2)
 else none).bind fun j11 =>
 bif neI j11.1 0 then
 bif kB (kA j11.2.2.2.2.2.2.2.2.2.2.2) (kA j11.2.2.2.2.2.2.2.2.2.2.2) then
 some (j11.1, j11.2.1, j11.2.2.1, j11.2.2.2.1, true, j11.2.2.2.2.2.1, j11.2.2.2.2.2.2.1, j11.2.2.2.2.2.2.2.1, j11.2.2.2.2.2.2.2.2.1, j11.2.2.2.2.2.2.2.2.2.1, j11.2.2.2.2.2.2.2.2.2.2.2)
 else none
 else
 bif kB (kA j11.2.2.2.2.2.2.2.2.2.2.2) (kA j11.2.2.2.2.2.2.2.2.2.2.2) then
 some (0, j11.2.2.2.2.2.2.2.2.2.2.1, j11.2.2.1, j11.2.2.2.1, j11.2.2.2.2.1, j11.2.2.2.2.2.1, j11.2.2.2.2.2.2.1, j11.2.2.2.2.2.2.2.1, j11.2.2.2.2.2.2.2.2.1, j11.2.2.2.2.2.2.2.2.2.1, j11.2.2.2.2.2.2.2.2.2.2.2)
 else none
 else none
def zd0 : Sig := ⟨33, [.pt 0 r6 [], .d c4], [.var 75 (.ag [.pt 1 r0 [], .d c4, .d (.sl (.int .u8)), .d (.int .i64), .d .bool]), .var 71 (.ag [.wn 2 c1, .d c2, .d (.int .i64), .d c3, .d (.int .i64), .d .bool]), .row 86 c1], 2, zd3⟩
def zbn (x : T2 × T2 × (List Int) × Int × Bool × (List T0) × Int × T1 × Int × Bool × (List (List Int))) : Option ((Int × T2 × (List Int) × Int × Bool × (List T0) × Int × T1 × Int × Bool × (List (List Int)))) := z3e x.1 x.2.1 x.2.2.1 x.2.2.2.1 x.2.2.2.2.1 x.2.2.2.2.2.1 x.2.2.2.2.2.2.1 x.2.2.2.2.2.2.2.1 x.2.2.2.2.2.2.2.2.1 x.2.2.2.2.2.2.2.2.2.1 x.2.2.2.2.2.2.2.2.2.2
theorem zqy : FnOK Try.prog zd0 zbn :=
 zx zp4 (h := (.two .no (.two (.reg [] [10, 0, 1]) (.join (fun _ => z3p) .no .no)))) Try.func33 (ze [.xs (fun _ => z3p)] (by kernel_rfl) ⟨(qB zj6), trivial⟩) (by kernel_rfl) znh (fun x => by kernel_rfl)
def zuh : Env := ⟨[(zD jK ji), (zD z7u z6j)], [(xz zez zcj), (xz z1k z0q), (xz zd0 zbn)], []⟩
theorem zbl : EnvsOK Try.prog zuh := ⟨zd (zh vx) (zd (zh zf8) (zj _)), zy (zR zs9) (zy (zR z4j) (zy (zR zqy) (zg _))), zf _⟩
def z4c : Shp := ⟨99, 2, [(0, .pt 0 r6 []), (1, .d (.int .i64)), (3, .d (.sl (.int .u8))), (4, .d (.int .i64))], [.var 75 (.ag [.pt 1 r0 [], .d c4, .d (.sl (.int .u8)), .d (.int .i64), .d .bool]), .var 71 (.ag [.wn 2 c1, .d c2, .d (.int .i64), .d c3, .d (.int .i64), .d .bool]), .row 86 c1]⟩
def z4d : Shp := ⟨99, 2, [(10, .d (.int .i64))], [.var 75 (.ag [.pt 1 r0 [], .d c4, .d (.sl (.int .u8)), .d (.int .i64), .d .bool]), .var 71 (.ag [.wn 2 c1, .d c2, .d (.int .i64), .d c3, .d (.int .i64), .d .bool]), .row 86 c1]⟩
def xE : XS := .or (.exit 0) z4c.xe (.one .ret z4d.xe)
theorem zcw : xE.OK := XS.or_ok (za z4c) (XS.one_ok (za z4d))
def xD : Shp := ⟨99, 2, [(0, .pt 0 r6 []), (1, .d (.int .i64)), (3, .d (.sl (.int .u8))), (4, .d (.int .i64)), (11, .d (.int .i64))], [.var 75 (.ag [.pt 1 r0 [], .d c4, .d (.sl (.int .u8)), .d (.int .i64), .d .bool]), .var 71 (.ag [.wn 2 c1, .d c2, .d (.int .i64), .d c3, .d (.int .i64), .d .bool]), .row 86 c1]⟩
abbrev z0b := Int × (List Int) × Int × Int × T2 × (List Int) × Int × Bool × (List T0) × Int × T1 × Int × Bool × (List (List Int))
abbrev z5e := (Int × (List Int) × Int × T2 × (List Int) × Int × Bool × (List T0) × Int × T1 × Int × Bool × (List (List Int))) ⊕ (Int × T2 × (List Int) × Int × Bool × (List T0) × Int × T1 × Int × Bool × (List (List Int)))
def xF (side : Int) (all : List Int) (count : Int) (i : Int) (j : T2) (j2 : List Int) (j3 : Int) (j4 : Bool) (j5 : List T0) (j6 : Int) (j7 : T1) (j8 : Int) (j9 : Bool) (j10 : List (List Int)) : Option (z0b ⊕ z5e) :=
 zk (kA all) (
 bif ltI (W64 (i * 256)) (kA all : Nat) then
 bif zV (W64 (i * 256)) (kA all : Nat) (kA all) then
 bif kJ 256 (kA (kC 256 (0 : Int))) then
 yf j10 0 (kA j10) fun w =>
 (z25 (w, j5, j6, j7, j8, j9) j j2 j3 j4 side i).bind fun r =>
 bif kB 256 (kA (z1y (kC 256 (0 : Int)) 0 256 (zA all (W64 (i * 256)) (kA all : Nat)))) then
 bif kB (kA j10) (kA j10) then
 (z0z r j5 j6 j7 j8 j9 (z1y (kC 256 (0 : Int)) 0 256 (zA all (W64 (i * 256)) (kA all : Nat))) j10).bind fun r2 =>
 bif neI r2.1 0 then
 bif kB (kA r2.2.2.2.2.2.2.2) (kA r2.2.2.2.2.2.2.2) then
 some (.inr (.inr (r2.1, j, j2, j3, true, r2.2.1, r2.2.2.1, r2.2.2.2.1, r2.2.2.2.2.1, r2.2.2.2.2.2.1, r2.2.2.2.2.2.2.2)))
 else none
 else
 bif kB (kA r2.2.2.2.2.2.2.2) (kA r2.2.2.2.2.2.2.2) then
 some (.inl (side, all, count, W64 (i + 1), j, j2, j3, j4, r2.2.1, r2.2.2.1, r2.2.2.2.1, r2.2.2.2.2.1, r2.2.2.2.2.2.1, r2.2.2.2.2.2.2.2))
 else none
 else none
 else none
 else none
 else none
 else
 bif kB (kA j10) (kA j10) then
 some (.inr (.inl (side, all, count, j, j2, j3, j4, j5, j6, j7, j8, j9, j10)))
 else none)
def yL (s : z0b) : Option (z0b ⊕ z5e) := xF s.1 s.2.1 s.2.2.1 s.2.2.2.1 s.2.2.2.2.1 s.2.2.2.2.2.1 s.2.2.2.2.2.2.1 s.2.2.2.2.2.2.2.1 s.2.2.2.2.2.2.2.2.1 s.2.2.2.2.2.2.2.2.2.1 s.2.2.2.2.2.2.2.2.2.2.1 s.2.2.2.2.2.2.2.2.2.2.2.1 s.2.2.2.2.2.2.2.2.2.2.2.2.1 s.2.2.2.2.2.2.2.2.2.2.2.2.2
theorem zed : SoundD Try.prog (.loop (zN (zw Try.f37) [1, 1, 0, 1, 0, 0])) (zl xD.xe xE (zb yL)) :=
 zG (S := xD.xe) (X := xE) zbl (h := (.two .no (.two (.two .no (.two .no (.two (.reg [] [9, 0, 1]) .no))) .no))) (ze [] (by kernel_rfl) trivial) (za xD) zcw yL (fun s => by kernel_rfl)
def zbk : Shp := ⟨1, 2, [(0, .d (.int .i64))], [.var 75 (.ag [.pt 1 r0 [], .d c4, .d (.sl (.int .u8)), .d (.int .i64), .d .bool]), .var 71 (.ag [.wn 2 c1, .d c2, .d (.int .i64), .d c3, .d (.int .i64), .d .bool]), .row 86 c1]⟩
def zf9 : XS := .one .ret zbk.xe
theorem zp2 : zf9.OK := XS.one_ok (za zbk)
def z11 (side : Int) (there : Int) (all : List Int) (count : Int) (j : T2) (j2 : List Int) (j3 : Int) (j4 : Bool) (j5 : List T0) (j6 : Int) (j7 : T1) (j8 : Int) (j9 : Bool) (j10 : List (List Int)) : Option ((Int × T2 × (List Int) × Int × Bool × (List T0) × Int × T1 × Int × Bool × (List (List Int)))) :=
 bif eqI j.1 4611686018427387904 then
 bif kB (kA j10) (kA j10) then
 some (5, j, j2, j3, j4, j5, j6, j7, j8, j9, j10)
 else none
 else
 zk (kA all) (
 yf j10 0 (kA j10) fun w =>
 (qJ (w, j5, j6, j7, j8, j9)).bind fun r =>
 bif ltI (W64 (r * 256)) (kA all : Nat) then
 bif kB (kA j10) (kA j10) then
 some (5, j, j2, j3, j4, j5, j6, j7, j8, j9, j10)
 else none
 else
 bif kB (kA j10) (kA j10) then
 (zb yL (side, all, count, W64 (kG there 256), j, j2, j3, j4, j5, j6, j7, j8, j9, j10)).bind fun o =>
 Sum.elim (fun y =>
 bif kB (kA y.2.2.2.2.2.2.2.2.2.2.2.2) (kA y.2.2.2.2.2.2.2.2.2.2.2.2) then
 (je y.2.2.2.2.2.2.2.1 y.2.2.2.2.2.2.2.2.1 y.2.2.2.2.2.2.2.2.2.1 y.2.2.2.2.2.2.2.2.2.2.1 y.2.2.2.2.2.2.2.2.2.2.2.1 y.2.2.2.2.2.2.2.2.2.2.2.2).bind fun r2 =>
 bif neI r2.1 0 then
 bif kB (kA r2.2.2.2.2.2.2) (kA r2.2.2.2.2.2.2) then
 some (r2.1, y.2.2.2.1, y.2.2.2.2.1, y.2.2.2.2.2.1, true, r2.2.1, r2.2.2.1, r2.2.2.2.1, r2.2.2.2.2.1, r2.2.2.2.2.2.1, r2.2.2.2.2.2.2)
 else none
 else
 zk (kA y.2.1) (
 bif kB (kA r2.2.2.2.2.2.2) (kA r2.2.2.2.2.2.2) then
 (z3e (xJ (y.2.2.2.1.1 + 1), y.1, (kA y.2.1 : Nat)) y.2.2.2.1 y.2.2.2.2.1 y.2.2.2.2.2.1 y.2.2.2.2.2.2.1 r2.2.1 r2.2.2.1 r2.2.2.2.1 r2.2.2.2.2.1 r2.2.2.2.2.2.1 r2.2.2.2.2.2.2).bind fun r3 =>
 bif neI r3.1 0 then
 bif kB (kA r3.2.2.2.2.2.2.2.2.2.2) (kA r3.2.2.2.2.2.2.2.2.2.2) then
 some (r3.1, r3.2.1, r3.2.2.1, r3.2.2.2.1, r3.2.2.2.2.1, r3.2.2.2.2.2.1, r3.2.2.2.2.2.2.1, r3.2.2.2.2.2.2.2.1, r3.2.2.2.2.2.2.2.2.1, r3.2.2.2.2.2.2.2.2.2.1, r3.2.2.2.2.2.2.2.2.2.2)
 else none
 else
 bif kB (kA r3.2.2.2.2.2.2.2.2.2.2) (kA r3.2.2.2.2.2.2.2.2.2.2) then
 some (0, r3.2.1, y.2.1, y.2.2.1, r3.2.2.2.2.1, r3.2.2.2.2.2.1, r3.2.2.2.2.2.2.1, r3.2.2.2.2.2.2.2.1, r3.2.2.2.2.2.2.2.2.1, r3.2.2.2.2.2.2.2.2.2.1, r3.2.2.2.2.2.2.2.2.2.2)
 else none
 else none)
 else none) (fun y2 =>
 bif kB (kA y2.2.2.2.2.2.2.2.2.2.2) (kA y2.2.2.2.2.2.2.2.2.2.2) then
 some (y2.1, y2.2.1, y2.2.2.1, y2.2.2.2.1, y2.2.2.2.2.1, y2.2.2.2.2.2.1, y2.2.2.2.2.2.2.1, y2.2.2.2.2.2.2.2.1, y2.2.2.2.2.2.2.2.2.1, y2.2.2.2.2.2.2.2.2.2.1, y2.2.2.2.2.2.2.2.2.2.2)
 else none) o
 else none)
def z6k : Sig := ⟨37, [.pt 0 r6 [], .d (.int .i64), .d (.int .i64), .d (.sl (.int .u8)), .d (.int .i64)], [.var 75 (.ag [.pt 1 r0 [], .d c4, .d (.sl (.int .u8)), .d (.int .i64), .d .bool]), .var 71 (.ag [.wn 2 c1, .d c2, .d (.int .i64), .d c3, .d (.int .i64), .d .bool]), .row 86 c1], 2, zf9⟩
def z5s (x : Int × Int × (List Int) × Int × T2 × (List Int) × Int × Bool × (List T0) × Int × T1 × Int × Bool × (List (List Int))) : Option ((Int × T2 × (List Int) × Int × Bool × (List T0) × Int × T1 × Int × Bool × (List (List Int)))) := z11 x.1 x.2.1 x.2.2.1 x.2.2.2.1 x.2.2.2.2.1 x.2.2.2.2.2.1 x.2.2.2.2.2.2.1 x.2.2.2.2.2.2.2.1 x.2.2.2.2.2.2.2.2.1 x.2.2.2.2.2.2.2.2.2.1 x.2.2.2.2.2.2.2.2.2.2.1 x.2.2.2.2.2.2.2.2.2.2.2.1 x.2.2.2.2.2.2.2.2.2.2.2.2.1 x.2.2.2.2.2.2.2.2.2.2.2.2.2
theorem zcx : FnOK Try.prog z6k z5s :=
 zx zbl (h := (.two .no (.two .no (.two (.two .no (.over (zl xD.xe xE (zb yL)))) .no)))) Try.func37 (ze [.den (.loop (zN (zw Try.f37) [1, 1, 0, 1, 0, 0])) (zl xD.xe xE (zb yL))] (by kernel_rfl) ⟨zed, trivial⟩) (by kernel_rfl) zp2 (fun x => by kernel_rfl)
def zue : Env := ⟨[(zD z0r z01), (zD jK ji), (zD zlw zj7), (zD zq5 zoe)], [(xz z6k z5s)], []⟩
theorem zqs : EnvsOK Try.prog zue := ⟨zd (zh z3m) (zd (zh vx) (zd (zh zv9) (zd (zh y5s) (zj _)))), zy (zR zcx) (zg _), zf _⟩
def zbe : Shp := ⟨1, 2, [(0, .d (.int .i64))], [.var 75 (.ag [.pt 1 r0 [], .d c4, .d (.sl (.int .u8)), .d (.int .i64), .d .bool]), .var 71 (.ag [.wn 2 c1, .d c2, .d (.int .i64), .d c3, .d (.int .i64), .d .bool]), .row 86 c1]⟩
def zf3 : XS := .one .ret zbe.xe
theorem zov : zf3.OK := XS.one_ok (za zbe)
def xN (records : List (List Int)) (j : T2) (j2 : List Int) (j3 : Int) (j4 : Bool) (j5 : List T0) (j6 : Int) (j7 : T1) (j8 : Int) (j9 : Bool) (j10 : List (List Int)) : Option ((Int × T2 × (List Int) × Int × Bool × (List T0) × Int × T1 × Int × Bool × (List (List Int)))) :=
 yf j10 0 (kA j10) fun w =>
 (xK (w, j5, j6, j7, j8, j9) j j2 j3 j4).bind fun r =>
 bif r then
 bif kB (kA j10) (kA j10) then
 some (3, j, j2, j3, j4, j5, j6, j7, j8, j9, j10)
 else none
 else
 yf j10 0 (kA j10) fun w2 =>
 (qJ (w2, j5, j6, j7, j8, j9)).bind fun r2 =>
 (zd7 records (W64 (r2 * 256))).bind fun r3 =>
 bif neI r3.2 0 then
 bif kB (kA j10) (kA j10) then
 some (r3.2, j, j2, j3, j4, j5, j6, j7, j8, j9, j10)
 else none
 else
 zk (kA records) (
 bif eqI (kA records : Nat) 0 then
 bif kB (kA j10) (kA j10) then
 some (r3.2, j, j2, j3, j4, j5, j6, j7, j8, j9, j10)
 else none
 else
 zk (kA j2) (
 (zbx ([j2, r3.1] : List (List Int))).bind fun r4 =>
 zk (kA records) (
 bif kB (kA j10) (kA j10) then
 (z11 j.2.1 (kA j2 : Nat) r4 (W64 (j3 + (kA records : Nat))) j j2 j3 j4 j5 j6 j7 j8 j9 j10).bind fun r5 =>
 bif kB (kA r5.2.2.2.2.2.2.2.2.2.2) (kA r5.2.2.2.2.2.2.2.2.2.2) then
 some (r5.1, r5.2.1, r5.2.2.1, r5.2.2.2.1, r5.2.2.2.2.1, r5.2.2.2.2.2.1, r5.2.2.2.2.2.2.1, r5.2.2.2.2.2.2.2.1, r5.2.2.2.2.2.2.2.2.1, r5.2.2.2.2.2.2.2.2.2.1, r5.2.2.2.2.2.2.2.2.2.2)
 else none
 else none)))
def z6h : Sig := ⟨11, [.pt 0 r6 [], .d c5], [.var 75 (.ag [.pt 1 r0 [], .d c4, .d (.sl (.int .u8)), .d (.int .i64), .d .bool]), .var 71 (.ag [.wn 2 c1, .d c2, .d (.int .i64), .d c3, .d (.int .i64), .d .bool]), .row 86 c1], 2, zf3⟩
def z5o (x : (List (List Int)) × T2 × (List Int) × Int × Bool × (List T0) × Int × T1 × Int × Bool × (List (List Int))) : Option ((Int × T2 × (List Int) × Int × Bool × (List T0) × Int × T1 × Int × Bool × (List (List Int)))) := xN x.1 x.2.1 x.2.2.1 x.2.2.2.1 x.2.2.2.2.1 x.2.2.2.2.2.1 x.2.2.2.2.2.2.1 x.2.2.2.2.2.2.2.1 x.2.2.2.2.2.2.2.2.1 x.2.2.2.2.2.2.2.2.2.1 x.2.2.2.2.2.2.2.2.2.2
theorem zcr : FnOK Try.prog z6h z5o :=
 zx zqs (h := (.two .no (.two .no (.two .no (.two .no (.two (.reg [] [25, 0, 1]) .no)))))) Try.func11 (ze [] (by kernel_rfl) trivial) (by kernel_rfl) zov (fun x => by kernel_rfl)
def zsj : Env := ⟨[(zD jK ji)], [], []⟩
theorem zp1 : EnvsOK Try.prog zsj := ⟨zd (zh vx) (zj _), zg _, zf _⟩
def zal : Shp := ⟨1, 0, [(0, .d (.int .i64))], []⟩
def zcu : XS := .one .ret zal.xe
theorem znf : zcu.OK := XS.one_ok (za zal)
def z0a (j : T3) (j2 : T2) (j3 : List Int) (j4 : Int) (j5 : Bool) : Option ((Int)) :=
 (qJ j).bind fun r =>
 zk (kA j3) (
 some (W64 ((W64 (r * 256)) - (kA j3 : Nat))))
def z5r : Sig := ⟨13, [.rf (.ag [.rf (.d c8), .d c4, .d (.sl (.int .u8)), .d (.int .i64), .d .bool])], [], 0, zcu⟩
def z51 (x : T3 × T2 × (List Int) × Int × Bool) : Option ((Int)) := z0a x.1 x.2.1 x.2.2.1 x.2.2.2.1 x.2.2.2.2
theorem zbj : FnOK Try.prog z5r z51 :=
 zx zp1 (h := .no) Try.func13 (ze [] (by kernel_rfl) trivial) (by kernel_rfl) znf (fun x => by kernel_rfl)
def zug : Env := ⟨[], [], []⟩
theorem zqu : EnvsOK Try.prog zug := ⟨zj _, zg _, zf _⟩
def zbg : Shp := ⟨1, 0, [(0, .d (.int .i64))], []⟩
def zf6 : XS := .one .ret zbg.xe
theorem zoz : zf6.OK := XS.one_ok (za zbg)
def z10 (j : T3) (j2 : T2) (j3 : List Int) (j4 : Int) (j5 : Bool) : Option ((Int)) :=
 some j4
def z6i : Sig := ⟨14, [.rf (.ag [.rf (.d c8), .d c4, .d (.sl (.int .u8)), .d (.int .i64), .d .bool])], [], 0, zf6⟩
def z5q (x : T3 × T2 × (List Int) × Int × Bool) : Option ((Int)) := z10 x.1 x.2.1 x.2.2.1 x.2.2.2.1 x.2.2.2.2
theorem zct : FnOK Try.prog z6i z5q :=
 zx zqu (h := .no) Try.func14 (ze [] (by kernel_rfl) trivial) (by kernel_rfl) zoz (fun x => by kernel_rfl)
def zoy : Env := ⟨[], [], []⟩
theorem zls : EnvsOK Try.prog zoy := ⟨zj _, zg _, zf _⟩
def z8t : Shp := ⟨1, 0, [(0, .d .bool)], []⟩
def zaj : XS := .one .ret z8t.xe
theorem zke : zaj.OK := XS.one_ok (za z8t)
def z5p  : Option ((Bool)) :=
 some true
def z4k : Sig := ⟨15, [.c .nilp], [], 0, zaj⟩
def z3n (x : Unit) : Option ((Bool)) := z5p 
theorem z9h : FnOK Try.prog z4k z3n :=
 zx zls (h := .no) Try.func15 (ze [] (by kernel_rfl) trivial) (by kernel_rfl) zke (fun x => by kernel_rfl)
def zqi : Env := ⟨[], [], []⟩
theorem zn7 : EnvsOK Try.prog zqi := ⟨zj _, zg _, zf _⟩
def z9f : Shp := ⟨1, 0, [(0, .d (.int .i64))], []⟩
def zb9 : XS := .one .ret z9f.xe
theorem zlk : zb9.OK := XS.one_ok (za z9f)
def z6b (d : T3) : Option ((Int)) :=
 some d.2.2.2.2.1
def zb8 : Sig := ⟨16, [.rf (.d c8)], [], 0, zb9⟩
def zag (x : T3) : Option ((Int)) := z6b x
theorem zon : FnOK Try.prog zb8 zag :=
 zx zn7 (h := .no) Try.func16 (ze [] (by kernel_rfl) trivial) (by kernel_rfl) zlk (fun x => by kernel_rfl)
def znd : Env := ⟨[(zD z0r z01), (zD jK ji), (zD zlw zj7)], [(xz z6k z5s)], []⟩
theorem zkf : EnvsOK Try.prog znd := ⟨zd (zh z3m) (zd (zh vx) (zd (zh zv9) (zj _))), zy (zR zcx) (zg _), zf _⟩
def z8b : Shp := ⟨1, 2, [(0, .d (.int .i64))], [.var 75 (.ag [.pt 1 r0 [], .d c4, .d (.sl (.int .u8)), .d (.int .i64), .d .bool]), .var 71 (.ag [.wn 2 c1, .d c2, .d (.int .i64), .d c3, .d (.int .i64), .d .bool]), .row 86 c1]⟩
def z9j : XS := .one .ret z8b.xe
theorem zj4 : z9j.OK := XS.one_ok (za z8b)
def qA (records : List (List Int)) (j : T2) (j2 : List Int) (j3 : Int) (j4 : Bool) (j5 : List T0) (j6 : Int) (j7 : T1) (j8 : Int) (j9 : Bool) (j10 : List (List Int)) : Option ((Int × T2 × (List Int) × Int × Bool × (List T0) × Int × T1 × Int × Bool × (List (List Int)))) :=
 yf j10 0 (kA j10) fun w =>
 (xK (w, j5, j6, j7, j8, j9) j j2 j3 j4).bind fun r =>
 bif r then
 bif kB (kA j10) (kA j10) then
 some (3, j, j2, j3, j4, j5, j6, j7, j8, j9, j10)
 else none
 else
 yf j10 0 (kA j10) fun w2 =>
 (qJ (w2, j5, j6, j7, j8, j9)).bind fun r2 =>
 (zd7 records (W64 (r2 * 256))).bind fun r3 =>
 bif neI r3.2 0 then
 bif kB (kA j10) (kA j10) then
 some (r3.2, j, j2, j3, j4, j5, j6, j7, j8, j9, j10)
 else none
 else
 zk (kA records) (
 bif kB (kA j10) (kA j10) then
 (z11 (W64 (1 - j.2.1)) 0 r3.1 (kA records : Nat) j j2 j3 j4 j5 j6 j7 j8 j9 j10).bind fun r4 =>
 bif kB (kA r4.2.2.2.2.2.2.2.2.2.2) (kA r4.2.2.2.2.2.2.2.2.2.2) then
 some (r4.1, r4.2.1, r4.2.2.1, r4.2.2.2.1, r4.2.2.2.2.1, r4.2.2.2.2.2.1, r4.2.2.2.2.2.2.1, r4.2.2.2.2.2.2.2.1, r4.2.2.2.2.2.2.2.2.1, r4.2.2.2.2.2.2.2.2.2.1, r4.2.2.2.2.2.2.2.2.2.2)
 else none
 else none)
def z9i : Sig := ⟨12, [.pt 0 r6 [], .d c5], [.var 75 (.ag [.pt 1 r0 [], .d c4, .d (.sl (.int .u8)), .d (.int .i64), .d .bool]), .var 71 (.ag [.wn 2 c1, .d c2, .d (.int .i64), .d c3, .d (.int .i64), .d .bool]), .row 86 c1], 2, z9j⟩
def z8u (x : (List (List Int)) × T2 × (List Int) × Int × Bool × (List T0) × Int × T1 × Int × Bool × (List (List Int))) : Option ((Int × T2 × (List Int) × Int × Bool × (List T0) × Int × T1 × Int × Bool × (List (List Int)))) := qA x.1 x.2.1 x.2.2.1 x.2.2.2.1 x.2.2.2.2.1 x.2.2.2.2.2.1 x.2.2.2.2.2.2.1 x.2.2.2.2.2.2.2.1 x.2.2.2.2.2.2.2.2.1 x.2.2.2.2.2.2.2.2.2.1 x.2.2.2.2.2.2.2.2.2.2
theorem zlt : FnOK Try.prog z9i z8u :=
 zx zkf (h := .no) Try.func12 (ze [] (by kernel_rfl) trivial) (by kernel_rfl) zj4 (fun x => by kernel_rfl)
def yip : Env := ⟨[], [], []⟩
theorem zlz : EnvsOK Try.prog yip := ⟨zj _, zg _, zf _⟩
def z13 : Shp := ⟨49, 0, [(20, .d c11), (21, .d (.int .i64)), (22, .d (.int .i64)), (31, .pt 0 r12 [.fld 3]), (32, .pt 0 r12 [.fld 3, .fld 0]), (33, .d (.sl (.int .i64))), (34, .d (.int .i64)), (35, .d .bool)], [.var 44 (.d c13)]⟩
def z14 : Shp := ⟨49, 0, [(4, .d .bool)], []⟩
def yF : XS := .or (.exit 2) z13.xe (.one .ret z14.xe)
theorem z8j : yF.OK := XS.or_ok (za z13) (XS.one_ok (za z14))
def yE : Shp := ⟨49, 0, [(20, .d c11), (21, .d (.int .i64)), (22, .d (.int .i64)), (31, .pt 0 r12 [.fld 3]), (32, .pt 0 r12 [.fld 3, .fld 0]), (33, .d (.sl (.int .i64))), (34, .d (.int .i64)), (35, .d .bool), (38, .d c5), (39, .d (.int .i64)), (40, .d (.int .i64))], [.var 44 (.d c13)]⟩
abbrev jj := (List T4) × Int × Int × (List Int) × Int × Bool × (List (List Int)) × Int × Int × T4
abbrev z27 := ((List T4) × Int × Int × (List Int) × Int × Bool × T4) ⊕ (Bool)
def yG (t20 : List T4) (t21 : Int) (t22 : Int) (t33 : List Int) (t34 : Int) (t35 : Bool) (t38 : List (List Int)) (t39 : Int) (t40 : Int) (t31 : T4) : Option (jj ⊕ z27) :=
 bif ltI t40 t39 then
 (yn t38 t40).bind fun x =>
 zk (kA x) (
 bif ltI 2000 (kA x : Nat) then
 some (.inr (.inr false))
 else
 some (.inl (t20, t21, t22, t33, t34, t35, t38, t39, W64 (t40 + 1), t31)))
 else
 some (.inr (.inl (t20, t21, t22, t33, t34, t35, t31)))
def ye (s : jj) : Option (jj ⊕ z27) := yG s.1 s.2.1 s.2.2.1 s.2.2.2.1 s.2.2.2.2.1 s.2.2.2.2.2.1 s.2.2.2.2.2.2.1 s.2.2.2.2.2.2.2.1 s.2.2.2.2.2.2.2.2.1 s.2.2.2.2.2.2.2.2.2
theorem z91 : SoundD Try.prog (.loop (zN (zw Try.f18) [1, 1, 0, 1, 0, 0, 1, 1, 0, 0, 1, 1, 1, 0, 0])) (zl yE.xe yF (zb ye)) :=
 zG (S := yE.xe) (X := yF) zlz (h := .no) (ze [] (by kernel_rfl) trivial) (za yE) z8j ye (fun s => by kernel_rfl)
def zdg : Shp := ⟨49, 0, [], []⟩
def zdh : Shp := ⟨49, 0, [(4, .d .bool)], []⟩
def z0g : XS := .or (.exit 0) zdg.xe (.one .ret zdh.xe)
theorem zr2 : z0g.OK := XS.or_ok (za zdg) (XS.one_ok (za zdh))
def z0f : Shp := ⟨49, 0, [(20, .d c11), (21, .d (.int .i64)), (22, .d (.int .i64))], []⟩
abbrev z7y := (List T4) × Int × Int
abbrev zga := (Unit) ⊕ (Bool)
def z0i (t20 : List T4) (t21 : Int) (t22 : Int) : Option (z7y ⊕ zga) :=
 bif ltI t22 t21 then
 (yn t20 t22).bind fun x =>
 zk (kA x.2.1) (
 bif ltI 6 (kA x.2.1 : Nat) then
 some (.inr (.inr false))
 else
 zk (kA x.2.2.2.1) (
 bif ltI 70 (kA x.2.2.2.1 : Nat) then
 some (.inr (.inr false))
 else
 zk (kA x.2.1) (
 (zb ye (t20, t21, t22, x.2.2.2.1, (kA x.2.2.2.1 : Nat), ltI 70 (kA x.2.2.2.1 : Nat), x.2.1, (kA x.2.1 : Nat), 0, x)).bind fun o =>
 Sum.elim (fun y =>
 some (.inl (y.1, y.2.1, W64 (y.2.2.1 + 1)))) (fun y2 =>
 some (.inr (.inr y2))) o)))
 else
 some (.inr (.inl ()))
def z0h (s : z7y) : Option (z7y ⊕ zga) := z0i s.1 s.2.1 s.2.2
theorem zsu : SoundD Try.prog (.loop (zN (zw Try.f18) [1, 1, 0, 1, 0, 0])) (zl z0f.xe z0g (zb z0h)) :=
 zG (S := z0f.xe) (X := z0g) zlz (h := (.two .no (.two .no (.two (.two .no (.two .no (.two .no (.over (zl yE.xe yF (zb ye)))))) .no)))) (ze [.den (.loop (zN (zw Try.f18) [1, 1, 0, 1, 0, 0, 1, 1, 0, 0, 1, 1, 1, 0, 0])) (zl yE.xe yF (zb ye))] (by kernel_rfl) ⟨z91, trivial⟩) (za z0f) zr2 z0h (fun s => by kernel_rfl)
def zya : Shp := ⟨1, 0, [(0, .d .bool)], []⟩
def y4n : XS := .one .ret zya.xe
theorem ybf : y4n.OK := XS.one_ok (za zya)
def zr1 (sectors : Int) (script : List T4) : Option ((Bool)) :=
 bif ltI sectors 6 then
 some false
 else
 bif ltI 14 sectors then
 some false
 else
 zk (kA script) (
 bif ltI 30 (kA script : Nat) then
 some false
 else
 zk (kA script) (
 (zb z0h (script, (kA script : Nat), 0)).bind fun o =>
 Sum.elim (fun y =>
 some true) (fun y2 =>
 some y2) o))
def y4m : Sig := ⟨18, [.d (.int .i64), .d c11], [], 0, y4n⟩
def y1w (x : Int × (List T4)) : Option ((Bool)) := zr1 x.1 x.2
theorem ygf : FnOK Try.prog y4m y1w :=
 zx zlz (h := (.two .no (.two .no (.two (.two .no (.over (zl z0f.xe z0g (zb z0h)))) .no)))) Try.func18 (ze [.den (.loop (zN (zw Try.f18) [1, 1, 0, 1, 0, 0])) (zl z0f.xe z0g (zb z0h))] (by kernel_rfl) ⟨zsu, trivial⟩) (by kernel_rfl) ybf (fun x => by kernel_rfl)
abbrev z53 := (List (List Int)) × Int × Int × (List (List Int))
abbrev zbo := ((List (List Int)))
def jO (t6 : List (List Int)) (t7 : Int) (t8 : Int) (out : List (List Int)) : Option (z53 ⊕ zbo) :=
 bif ltI t8 t7 then
 (yn t6 t8).bind fun x =>
 bif kB (kA out) (kA out) then
 qL (kA out) (kA ([x] : List (List Int))) 16 fun _ =>
 bif kB (kA (out ++ ([x] : List (List Int)))) (kA (out ++ ([x] : List (List Int)))) then
 some (.inl (t6, t7, W64 (t8 + 1), out ++ ([x] : List (List Int))))
 else none
 else none
 else
 bif kB (kA out) (kA out) then
 some (.inr out)
 else none
def z52 (s : z53) : Option (z53 ⊕ zbo) := jO s.1 s.2.1 s.2.2.1 s.2.2.2
def zp8 (l : List (List Int)) : Option (((List (List Int)))) :=
 zk (kA l) (
 bif kB 0 (kA ([] : List (List Int))) then
 (zb z52 (l, (kA l : Nat), 0, ([] : List (List Int)))).bind fun o =>
 bif kB (kA o) (kA o) then
 some o
 else none
 else none)
def yiq : Env := ⟨[], [], []⟩
theorem zyd : EnvsOK Try.prog yiq := ⟨zj _, zg _, zf _⟩
def zdk : Shp := ⟨27, 0, [], []⟩
def zdl : Shp := ⟨27, 0, [(4, .d .bool)], []⟩
def z0k : XS := .or (.exit 0) zdk.xe (.one .ret zdl.xe)
theorem zr4 : z0k.OK := XS.or_ok (za zdk) (XS.one_ok (za zdl))
def z0j : Shp := ⟨27, 0, [(0, .d c5), (12, .d (.sl .str)), (13, .d (.int .i64)), (14, .d (.int .i64))], []⟩
abbrev z80 := (List (List Int)) × (List (List Int)) × Int × Int
abbrev zgb := (Unit) ⊕ (Bool)
def z0l (a : List (List Int)) (t12 : List (List Int)) (t13 : Int) (t14 : Int) : Option (z80 ⊕ zgb) :=
 bif ltI t14 t13 then
 (yn t12 t14).bind fun x =>
 (yn a t14).bind fun x2 =>
 bif !(eqS x2 x) then
 some (.inr (.inr false))
 else
 some (.inl (a, t12, t13, W64 (t14 + 1)))
 else
 some (.inr (.inl ()))
def jF (s : z80) : Option (z80 ⊕ zgb) := z0l s.1 s.2.1 s.2.2.1 s.2.2.2
theorem zsx : SoundD Try.prog (.loop (zN (zw Try.f20) [1, 1, 0, 1, 0, 0])) (zl z0j.xe z0k (zb jF)) :=
 zG (S := z0j.xe) (X := z0k) zyd (h := .no) (ze [] (by kernel_rfl) trivial) (za z0j) zr4 jF (fun s => by kernel_rfl)
def zyc : Shp := ⟨1, 0, [(0, .d .bool)], []⟩
def y4p : XS := .one .ret zyc.xe
theorem ybh : y4p.OK := XS.one_ok (za zyc)
def za4 (a : List (List Int)) (b : List (List Int)) : Option ((Bool)) :=
 zk (kA a) (
 zk (kA b) (
 bif neI (kA a : Nat) (kA b : Nat) then
 some false
 else
 zk (kA b) (
 (zb jF (a, b, (kA b : Nat), 0)).bind fun o =>
 Sum.elim (fun y =>
 some true) (fun y2 =>
 some y2) o)))
def zsw : Sig := ⟨20, [.d c5, .d (.sl .str)], [], 0, y4p⟩
def zp7 (x : (List (List Int)) × (List (List Int))) : Option ((Bool)) := za4 x.1 x.2
theorem y1x : FnOK Try.prog zsw zp7 :=
 zx zyd (h := (.two .no (.two .no (.two (.two .no (.over (zl z0j.xe z0k (zb jF)))) .no)))) Try.func20 (ze [.den (.loop (zN (zw Try.f20) [1, 1, 0, 1, 0, 0])) (zl z0j.xe z0k (zb jF))] (by kernel_rfl) ⟨zsx, trivial⟩) (by kernel_rfl) ybh (fun x => by kernel_rfl)
def yl2 : Env := ⟨[], [], []⟩
theorem y2g : EnvsOK Try.prog yl2 := ⟨zj _, zg _, zf _⟩
def zfb : Shp := ⟨30, 0, [(3, .d (.int .i64)), (4, .d (.int .i64))], []⟩
def z16 : XS := .one (.exit 0) zfb.xe
theorem zt7 : z16.OK := XS.one_ok (za zfb)
def z15 : Shp := ⟨30, 0, [(0, .d .str), (3, .d (.int .i64)), (4, .d (.int .i64)), (5, .d (.int .i64))], []⟩
abbrev z92 := (List Int) × Int × Int × Int
abbrev zif := (Int × Int)
def z17 (t0 : List Int) (low : Int) (high : Int) (i : Int) : Option (z92 ⊕ zif) :=
 zk (kA t0) (
 bif ltI i (kA t0 : Nat) then
 (yn t0 i).bind fun x =>
 some (.inl ((t0, W64 (low + (W64 (x))), W64 (high + (kH ((W64 (low + (W64 (x))))) 65521)), W64 (i + 1))))
 else
 some (.inr (low, high)))
def vb (s : z92) : Option (z92 ⊕ zif) := z17 s.1 s.2.1 s.2.2.1 s.2.2.2
theorem zum : SoundD Try.prog (.loop (zN (zw Try.f62) [1, 1, 0, 1, 0, 0])) (zl z15.xe z16 (zb vb)) :=
 zG (S := z15.xe) (X := z16) y2g (h := .no) (ze [] (by kernel_rfl) trivial) (za z15) zt7 vb (fun s => by kernel_rfl)
def y2f : Shp := ⟨1, 0, [(0, .d (.int .u32))], []⟩
def y86 : XS := .one .ret y2f.xe
theorem ye1 : y86.OK := XS.one_ok (za y2f)
def zvn (t0 : List Int) : Option ((Int)) :=
 (zb vb (t0, 1, 0, 0)).bind fun o =>
 some (z7j ((z7j ((z7j (kH o.2 65521)) * 65536)) + (z7j (kH o.1 65521))))
def y85 : Sig := ⟨62, [.d .str], [], 0, y86⟩
def y58 (x : (List Int)) : Option ((Int)) := zvn x
theorem yjk : FnOK Try.prog y85 y58 :=
 zx y2g (h := (.two .no (.two .no (.two (.two .no (.over (zl z15.xe z16 (zb vb)))) .no)))) Try.func62 (ze [.den (.loop (zN (zw Try.f62) [1, 1, 0, 1, 0, 0])) (zl z15.xe z16 (zb vb))] (by kernel_rfl) ⟨zum, trivial⟩) (by kernel_rfl) ye1 (fun x => by kernel_rfl)
def yjj : Env := ⟨[(zD y85 y58)], [], []⟩
theorem ye0 : EnvsOK Try.prog yjj := ⟨zd (zh yjk) (zj _), zg _, zf _⟩
def zyr : Shp := ⟨1, 0, [(0, .d .str)], []⟩
def y57 : XS := .one .ret zyr.xe
theorem yc7 : y57.OK := XS.one_ok (za zyr)
def zjt (t0 : List Int) : Option (((List Int))) :=
 (zvn t0).bind fun r =>
 z5l t0 ([WU8 (z7j (kG r 16777216)), WU8 (z7j (kG r 65536)), WU8 (z7j (kG r 256)), WU8 (r)] : List Int) fun _ =>
 some (t0 ++ ([WU8 (z7j (kG r 16777216)), WU8 (z7j (kG r 65536)), WU8 (z7j (kG r 256)), WU8 (r)] : List Int))
def zt6 : Sig := ⟨42, [.d .str], [], 0, y57⟩
def zpc (x : (List Int)) : Option (((List Int))) := zjt x
theorem y2e : FnOK Try.prog zt6 zpc :=
 zx ye0 (h := .no) Try.func42 (ze [] (by kernel_rfl) trivial) (by kernel_rfl) yc7 (fun x => by kernel_rfl)
def ygm : Env := ⟨[], [], []⟩
theorem yc5 : EnvsOK Try.prog ygm := ⟨zj _, zg _, zf _⟩
def zvl : Shp := ⟨1, 0, [(0, .tu [.d .str, .d .bool])], []⟩
def y2a : XS := .one .ret zvl.xe
theorem y9z : y2a.OK := XS.one_ok (za zvl)
def zmw (t0 : List Int) : Option (((List Int) × Bool)) :=
 zk (kA t0) (
 bif ltI 65535 (kA t0 : Nat) then
 some (([] : List Int), false)
 else
 bif ltI (kA t0 : Nat) 255 then
 z5l ([WU8 ((kA t0 : Nat))] : List Int) t0 fun _ =>
 some ((([WU8 ((kA t0 : Nat))] : List Int) ++ t0, true))
 else
 z5l (([255, WU8 (W64 (kG (kA t0 : Nat) 256)), WU8 (kH (kA t0 : Nat) 256)] : List Int)) t0 fun _ =>
 some (((([255, WU8 (W64 (kG (kA t0 : Nat) 256)), WU8 (kH (kA t0 : Nat) 256)] : List Int)) ++ t0, true)))
def y1z : Sig := ⟨41, [.d .str], [], 0, y2a⟩
def zyo (x : (List Int)) : Option (((List Int) × Bool)) := zmw x
theorem ydy : FnOK Try.prog y1z zyo :=
 zx yc5 (h := .no) Try.func41 (ze [] (by kernel_rfl) trivial) (by kernel_rfl) y9z (fun x => by kernel_rfl)
def yl8 : Env := ⟨[(zD zt6 zpc), (zD y1z zyo)], [], []⟩
theorem y2s : EnvsOK Try.prog yl8 := ⟨zd (zh y2e) (zd (zh ydy) (zj _)), zg _, zf _⟩
def zfe : Shp := ⟨26, 0, [(3, .d .str)], []⟩
def z19 : XS := .one (.exit 0) zfe.xe
theorem ztf : z19.OK := XS.one_ok (za zfe)
def z18 : Shp := ⟨26, 0, [(0, .d (.sl .str)), (3, .d .str), (4, .d (.int .i64))], []⟩
abbrev z94 := (List (List Int)) × (List Int) × Int
abbrev zij := ((List Int))
def z1a (l : List (List Int)) (t3 : List Int) (i : Int) : Option (z94 ⊕ zij) :=
 zk (kA l) (
 bif ltI i (kA l : Nat) then
 (yn l i).bind fun x =>
 (zjt x).bind fun r =>
 (zmw r).bind fun r2 =>
 z5l t3 r2.1 fun _ =>
 some (.inl (l, t3 ++ r2.1, W64 (i + 1)))
 else
 some (.inr t3))
def vc (s : z94) : Option (z94 ⊕ zij) := z1a s.1 s.2.1 s.2.2
theorem zuo : SoundD Try.prog (.loop (zN (zw Try.f22) [1, 1, 0, 1, 0, 0])) (zl z18.xe z19 (zb vc)) :=
 zG (S := z18.xe) (X := z19) y2s (h := .no) (ze [] (by kernel_rfl) trivial) (za z18) ztf vc (fun s => by kernel_rfl)
def y2r : Shp := ⟨1, 0, [(0, .d .str)], []⟩
def y8e : XS := .one .ret y2r.xe
theorem ye9 : y8e.OK := XS.one_ok (za y2r)
def zo4 (l : List (List Int)) : Option (((List Int))) :=
 (zb vc (l, ([] : List Int), 0)).bind fun o =>
 some o
def zx7 : Sig := ⟨22, [.d (.sl .str)], [], 0, y8e⟩
def zte (x : (List (List Int))) : Option (((List Int))) := zo4 x
theorem y5h : FnOK Try.prog zx7 zte :=
 zx y2s (h := (.two .no (.two .no (.two (.two .no (.over (zl z18.xe z19 (zb vc)))) .no)))) Try.func22 (ze [.den (.loop (zN (zw Try.f22) [1, 1, 0, 1, 0, 0])) (zl z18.xe z19 (zb vc))] (by kernel_rfl) ⟨zuo, trivial⟩) (by kernel_rfl) ye9 (fun x => by kernel_rfl)
def yem : Env := ⟨[], [], []⟩
theorem yae : EnvsOK Try.prog yem := ⟨zj _, zg _, zf _⟩
def zty : Shp := ⟨1, 0, [(0, .d (.sl (.int .i64)))], []⟩
def zz8 : XS := .one .ret zty.xe
theorem y7m : zz8.OK := XS.one_ok (za zty)
def zk7 (t0 : List Int) : Option (((List Int))) :=
 yj4 (kA t0) fun q =>
 bif q then
 some []
 else
 qL (kA ([] : List Int)) (kA t0) 8 fun _ =>
 some (([] : List Int) ++ t0)
def zz7 : Sig := ⟨43, [.d (.sl (.int .i64))], [], 0, zz8⟩
def zw7 (x : (List Int)) : Option (((List Int))) := zk7 x
theorem ycq : FnOK Try.prog zz7 zw7 :=
 zx yae (h := .no) Try.func43 (ze [] (by kernel_rfl) trivial) (by kernel_rfl) y7m (fun x => by kernel_rfl)
def zwk : Env := ⟨[(zD zz7 zw7)], [], []⟩
theorem zs7 : EnvsOK Try.prog zwk := ⟨zd (zh ycq) (zj _), zg _, zf _⟩
def zcd : Shp := ⟨1, 1, [(0, .tu [])], [.var 71 (.ag [.wn 1 c1, .d c2, .d (.int .i64), .d c3, .d (.int .i64), .d .bool]), .row 86 c1]⟩
def zfy : XS := .one .ret zcd.xe
theorem zqj : zfy.OK := XS.one_ok (za zcd)
def z1z (after : Int) (c : T1) (d : List T0) (d2 : Int) (d3 : T1) (d4 : Int) (d5 : Bool) (d6 : List (List Int)) : Option (((List T0) × Int × T1 × Int × Bool × (List (List Int)))) :=
 (zk7 c.1).bind fun r =>
 bif kB (kA d6) (kA d6) then
 some (d, zdp after (-1), (r, c.2.1, c.2.2), d4, d5, d6)
 else none
def z7p : Sig := ⟨23, [.pt 0 r0 [], .d (.int .i64), .d c3], [.var 71 (.ag [.wn 1 c1, .d c2, .d (.int .i64), .d c3, .d (.int .i64), .d .bool]), .row 86 c1], 1, zfy⟩
def z6c (x : Int × T1 × (List T0) × Int × T1 × Int × Bool × (List (List Int))) : Option (((List T0) × Int × T1 × Int × Bool × (List (List Int)))) := z1z x.1 x.2.1 x.2.2.1 x.2.2.2.1 x.2.2.2.2.1 x.2.2.2.2.2.1 x.2.2.2.2.2.2.1 x.2.2.2.2.2.2.2
theorem zev : FnOK Try.prog z7p z6c :=
 zx zs7 (h := .no) Try.func23 (ze [] (by kernel_rfl) trivial) (by kernel_rfl) zqj (fun x => by kernel_rfl)
def zzv : Env := ⟨[], [], []⟩
theorem zwj : EnvsOK Try.prog zzv := ⟨zj _, zg _, zf _⟩
def zfx : Shp := ⟨1, 1, [(0, .d .bool)], [.var 71 (.ag [.wn 1 c1, .d c2, .d (.int .i64), .d c3, .d (.int .i64), .d .bool]), .row 86 c1]⟩
def ziy : XS := .one .ret zfx.xe
theorem zua : ziy.OK := XS.one_ok (za zfx)
def qj (d : List T0) (d2 : Int) (d3 : T1) (d4 : Int) (d5 : Bool) (d6 : List (List Int)) : Option ((Bool × (List T0) × Int × T1 × Int × Bool × (List (List Int)))) :=
 bif !d5 then
 bif kB (kA d6) (kA d6) then
 some (false, d, d2, d3, d4, d5, d6)
 else none
 else
 bif kB (kA d6) (kA d6) then
 some (true, d, d2, d3, d4, false, d6)
 else none
def z4z : Sig := ⟨24, [.pt 0 r0 []], [.var 71 (.ag [.wn 1 c1, .d c2, .d (.int .i64), .d c3, .d (.int .i64), .d .bool]), .row 86 c1], 1, ziy⟩
def z46 (x : (List T0) × Int × T1 × Int × Bool × (List (List Int))) : Option ((Bool × (List T0) × Int × T1 × Int × Bool × (List (List Int)))) := qj x.1 x.2.1 x.2.2.1 x.2.2.2.1 x.2.2.2.2.1 x.2.2.2.2.2
theorem z8n : FnOK Try.prog z4z z46 :=
 zx zwj (h := .no) Try.func24 (ze [] (by kernel_rfl) trivial) (by kernel_rfl) zua (fun x => by kernel_rfl)
end Go.Proofs.Ytpfjfldagldgnaa
