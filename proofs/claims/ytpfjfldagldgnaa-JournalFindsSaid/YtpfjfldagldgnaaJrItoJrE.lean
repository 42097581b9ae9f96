import Derived.Test.YtpfjfldagldgnaaTm21to25
import Derived.Test.YtpfjfldagldgnaaTm26to30
import Derived.Test.YtpfjfldagldgnaaTm31to34
import Derived.Test.YtpfjfldagldgnaaProg
import Derived.Shelf.Spec.SlicesGrow
set_option maxRecDepth 100000
set_option linter.unusedVariables false
noncomputable section
namespace Go.Proofs.Ytpfjfldagldgnaa
open Go.Tm Go.Ab
def z1cd : Env := ⟨[], [], []⟩
theorem z19j : EnvsOK Try.prog z1cd := ⟨z0l _, z0h _, z0g _⟩
def zuz : Shp := ⟨1, 0, [(0, .tu [.d (.int .i64), .d (.int .i64), .d (.int .i64)])], []⟩
def zzd : XS := .one .ret zuz.xe
theorem z17r : zzd.OK := XS.one_ok (z0a zuz)
def zo4 (b : List Int) : Option ((Int × Int × Int)) :=
 (idxI b 0).bind fun x =>
 bif ltI x 255 then
 (idxI b 0).bind fun x2 =>
 some (W64 (x2), 1, 0)
 else
 z0f (List.length b) (
 bif ltI (List.length b : Nat) 3 then
 some (0, 0, 8)
 else
 (idxI b 1).bind fun x3 =>
 (idxI b 2).bind fun x4 =>
 bif ltI (bitI .or .i64 (shI .shl .i64 (W64 (x3)) 8) (W64 (x4))) 255 then
 some (0, 0, 7)
 else
 some ((bitI .or .i64 (shI .shl .i64 (W64 (x3)) 8) (W64 (x4)), 3, 0)))
def zzh : Sig := ⟨75, [.d (.sl (.int .u8))], [], 0, zzd⟩
def zx3 (x : (List Int)) : Option ((Int × Int × Int)) := zo4 x
theorem z1ay : FnOK Try.prog zzh zx3 :=
 fn_ok z19j (h := .no) Try.func75 (z0e [] (by kernel_rfl) trivial) (by kernel_rfl) z17r (fun x => by kernel_rfl)
def z15l : Env := ⟨[(entQ zzh zx3)], [], []⟩
theorem zp4 : EnvsOK Try.prog z15l := ⟨z0d (z0j z1ay) (z0l _), z0h _, z0g _⟩
def zdy : Shp := ⟨48, 0, [(3, .d (.sl (.int .u8))), (4, .d (.int .i64)), (5, .d (.int .i64)), (6, .d (.int .i64))], []⟩
def zas : XS := .one .normal (XE.yl 0 zdy.xe)
theorem znv : zas.OK := XS.one_ok (XE.yl_ok 0 (z0a zdy))
def zix : Shp := ⟨48, 0, [], []⟩
def zji : Shp := ⟨48, 0, [], []⟩
def z8m : XS := .or (.exit 0) zix.xe (.one .ret zji.xe)
theorem ztt : z8m.OK := XS.or_ok (z0a zix) (XS.one_ok (z0a zji))
def z8o : Shp := ⟨48, 0, [(3, .d (.sl (.int .u8)))], []⟩
abbrev zed := List ((List Int) × Int) × Nat × (List Int)
abbrev zmj := List ((List Int) × Int) × ((Unit) ⊕ (Unit))
def z8n (dec : Nat → List ((List Int) × Int) → Option Bool) (tr : List ((List Int) × Int)) (l : Nat) (rest : List Int) : Option (zed ⊕ zmj) :=
 z0f (List.length rest) (
 bif ltI 0 (List.length rest : Nat) then
 (zo4 rest).bind fun r =>
 (show Option (List ((List Int) × Int) × ((Nat × (List Int) × Int × Int × Int))) from
 bif eqI r.2.2 0 then
 z0f (List.length rest) (
 bif ltI (W64 ((List.length rest : Nat) - r.2.1)) r.1 then
 some (tr, (l, rest, r.1, r.2.1, 8))
 else
 some (tr, (l, rest, r.1, r.2.1, r.2.2)))
 else
 some (tr, (l, rest, r.1, r.2.1, r.2.2))).bind fun j =>
 bif neI j.2.2.2.2.2 0 then
 (dec j.2.1 (j.1 ++ [([], j.2.2.2.2.2)])).bind fun b =>
 some (.inr ((j.1 ++ [([], j.2.2.2.2.2)]), .inr ()))
 else
 bif subOk j.2.2.2.2.1 (W64 (j.2.2.2.2.1 + j.2.2.2.1)) (List.length j.2.2.1) then
 appG (List.length ([] : List Int)) (List.length (subL j.2.2.1 j.2.2.2.2.1 (W64 (j.2.2.2.2.1 + j.2.2.2.1)))) 1 fun _ =>
 (dec j.2.1 (j.1 ++ [(([] : List Int) ++ (subL j.2.2.1 j.2.2.2.2.1 (W64 (j.2.2.2.2.1 + j.2.2.2.1))), 0)])).bind fun b2 =>
 bif !b2 then
 some (.inr ((j.1 ++ [(([] : List Int) ++ (subL j.2.2.1 j.2.2.2.2.1 (W64 (j.2.2.2.2.1 + j.2.2.2.1))), 0)]), .inr ()))
 else
 bif subOk (W64 (j.2.2.2.2.1 + j.2.2.2.1)) (List.length j.2.2.1 : Nat) (List.length j.2.2.1) then
 some (.inl ((j.1 ++ [(([] : List Int) ++ (subL j.2.2.1 j.2.2.2.2.1 (W64 (j.2.2.2.2.1 + j.2.2.2.1))), 0)]), (j.2.1, subL j.2.2.1 (W64 (j.2.2.2.2.1 + j.2.2.2.1)) (List.length j.2.2.1 : Nat))))
 else none
 else none
 else
 some (.inr (tr, .inl ())))
def z5o (dec : Nat → List ((List Int) × Int) → Option Bool) (s : zed) : Option (zed ⊕ zmj) := z8n dec s.1 s.2.1 s.2.2
theorem zvy (dec : Nat → List ((List Int) × Int) → Option Bool) : SoundY Try.prog [.d (.sl (.int .u8)), .d (.int .i64)] dec (.loop (subC (bodyC Try.f74) [1, 0, 0])) (z12o (XE.yl 0 z8o.xe) z8m (loopC (z5o dec))) :=
 z1j4 (A := [.d (.sl (.int .u8)), .d (.int .i64)]) (S := (XE.yl 0 z8o.xe)) (X := z8m) zp4 (g := (.two (.pl .no) (.two (.pl .no) (.join (fun _ => zas) (.pl .no) (.two (.two (.pl .no) (.two (.two .no (.pl .no)) (.pl .no))) (.two (.two .no (.pl .no)) (.pl .no))))))) (z1jt [.xs (fun _ => zas)] (by kernel_rfl) ⟨(z1p znv), trivial⟩) (XE.yl_ok 0 (z0a z8o)) ztt (z5o dec) (fun s => by kernel_rfl)
def zn1 (dec : Nat → List ((List Int) × Int) → Option Bool) (l : Nat) (t1 : List Int) : Option (List ((List Int) × Int)) :=
 (loopC (z5o dec) ([], (l, t1))).bind fun o =>
 Sum.elim (fun y =>
 some o.1) (fun y2 =>
 some o.1) o.2
def z15t (dec : Nat → List ((List Int) × Int) → Option Bool) (l : Nat) (x : (List Int)) : Option (List ((List Int) × Int)) := zn1 dec l x
theorem z12a {G : (List ((List Int) × Int) → Option Bool) → ((List Int)) → Option (List ((List Int) × Int))} (hG : ∀ dec l x tr, G dec x = some tr → z15t (onY l dec) l x = some tr) : SeqOK Try.prog 74 [.d (.sl (.int .u8)), .d (.int .i64)] [.rf (.d (.sl (.int .u8)))] G :=
 z1sp (A := [.d (.sl (.int .u8)), .d (.int .i64)]) (C := [.rf (.d (.sl (.int .u8)))]) zp4 (g := fun dec => (.two (.pl .no) (.over (z12o (XE.yl 0 z8o.xe) z8m (loopC (z5o dec)))))) Try.func74 (by kernel_rfl) (fun dec => z1jt [.den (.loop (subC (bodyC Try.f74) [1, 0, 0])) (z12o (XE.yl 0 z8o.xe) z8m (loopC (z5o dec)))] (by kernel_rfl) ⟨(zvy dec), trivial⟩) (by kernel_rfl) (fun dec l x => by kernel_rfl) hG
end Go.Proofs.Ytpfjfldagldgnaa
set_option linter.unusedVariables false
set_option linter.unusedSimpArgs false
noncomputable section
namespace Go.Proofs.Ytpfjfldagldgnaa
open Go.Tm Go.Ab
def okB (l : List Int) : Bool := l.all (fun b => decide (0 ≤ b ∧ b ≤ 255)) && decide (l.length ≤ 1099511627776)
theorem zwf {l : List Int} : okB l = true ↔ (∀ b, b ∈ l → 0 ≤ b ∧ b ≤ 255) ∧ l.length ≤ 1099511627776 := by
 simp [okB, List.all_eq_true]
def headS : List Int → Int × Int × Int
 | [] => (0, 0, 0)
 | b :: l => if b < 255 then (b, 1, 0) else match l with
   | x :: y :: _ => if x * 256 + y < 255 then (0, 0, 7) else (x * 256 + y, 3, 0)
   | _ => (0, 0, 8)
theorem z1pr {x y : Int} (hx : 0 ≤ x ∧ x ≤ 255) (hy : 0 ≤ y ∧ y ≤ 255) : bitI .or .i64 (shI .shl .i64 (W64 x) 8) (W64 y) = x * 256 + y := by
 rw [z1t (by omega), z1t (by omega)]
 obtain ⟨a, rfl⟩ : ∃ a : Nat, x = a := ⟨x.toNat, by omega⟩
 obtain ⟨b, rfl⟩ : ∃ b : Nat, y = b := ⟨y.toNat, by omega⟩
 have e1 : shI .shl .i64 (a : Int) 8 = ((a * 256 : Nat) : Int) := by
   simp only [shI]
   rw [show min (8 : Int).toNat IntKind.i64.bits = 8 by rfl]
   rw [zrj .i64 (by constructor <;> simp [IntKind.min, IntKind.max, IntKind.bits, IntKind.signed] <;> omega)]
   omega
 rw [e1]
 simp only [bitI]
 have e2 : (BitVec.ofInt IntKind.i64.bits ((a * 256 : Nat) : Int) ||| BitVec.ofInt IntKind.i64.bits (b : Int)).toNat = a * 256 + b := by
   rw [BitVec.toNat_or, BitVec.ofInt_natCast, BitVec.ofInt_natCast, BitVec.toNat_ofNat, BitVec.toNat_ofNat]
   rw [show IntKind.i64.bits = 64 by rfl, Nat.mod_eq_of_lt (by omega), Nat.mod_eq_of_lt (by omega)]
   have := Nat.shiftLeft_add_eq_or_of_lt (show b < 2 ^ 8 by omega) a
   rw [Nat.shiftLeft_eq, show (2 : Nat) ^ 8 = 256 from rfl] at this
   omega
 rw [e2, zrj .i64 (by constructor <;> simp [IntKind.min, IntKind.max, IntKind.bits, IntKind.signed] <;> omega)]
 omega
theorem z14l {R : Type} {n : Nat} (k : Option R) (h : n ≤ 9223372036854775807) : z0f n k = k := by
 unfold z0f
 rw [Nat.ble_eq_true_of_le h]; rfl
theorem z1hf {α : Type} (a : α) (l : List α) : idxI (a :: l) 0 = some a := by simp [idxI, leI]
theorem z1m6 {α : Type} (a b : α) (l : List α) : idxI (a :: b :: l) 1 = some b := by simp [idxI, leI]
theorem z1si {α : Type} (a b c : α) (l : List α) : idxI (a :: b :: c :: l) 2 = some c := by simp [idxI, leI]
theorem z1ro {l : List Int} (h : okB l = true) (hl : l ≠ []) : zo4 l = some (headS l) := by
 obtain ⟨hb, hlen⟩ := zwf.1 h
 cases l with
 | nil => exact absurd rfl hl
 | cons b l =>
   have hb0 := hb b (by simp)
   unfold zo4 headS
   rw [z1hf]
   simp only [Option.bind_some]
   by_cases h1 : b < 255
   · rw [ltI_t h1, cond_true, if_pos h1, z1t (by omega)]
   · rw [ltI_f h1, cond_false, if_neg h1, z14l _ (by omega)]
     match l, hb, hlen with
     | [], _, _ => rw [ltI_t (by simp)]; rfl
     | [x], _, _ => rw [ltI_t (by simp)]; rfl
     | x :: y :: l, hb, _ =>
       have hx := hb x (by simp)
       have hy := hb y (by simp)
       rw [ltI_f (by simp; omega), cond_false, z1m6, z1si]
       simp only [Option.bind_some]
       rw [z1pr hx hy]
       by_cases h2 : x * 256 + y < 255
       · rw [ltI_t h2, cond_true, if_pos h2]
       · rw [ltI_f h2, cond_false, if_neg h2]
def headE (l : List Int) : Int := if (headS l).2.2 = 0 ∧ (l.length : Int) - (headS l).2.1 < (headS l).1 then 8 else (headS l).2.2
def zm1 : Nat → List Int → List (List Int × Int)
 | 0, _ => []
 | n + 1, l => if l = [] then [] else if headE l ≠ 0 then [([], headE l)] else
     ((l.drop (headS l).2.1.toNat).take (headS l).1.toNat, 0) :: zm1 n (l.drop ((headS l).2.1 + (headS l).1).toNat)
def zoz (l : List Int) : List (List Int × Int) := zm1 l.length l
theorem z1as {l : List Int} (h : okB l = true) (hl : l ≠ []) (he : headE l = 0) : 0 ≤ (headS l).1 ∧ 1 ≤ (headS l).2.1 ∧ (headS l).2.1 ≤ 3 ∧ (headS l).1 ≤ 70000 ∧ (headS l).2.1 + (headS l).1 ≤ l.length ∧ (headS l).2.2 = 0 := by
 obtain ⟨hb, hlen⟩ := zwf.1 h
 cases l with
 | nil => exact absurd rfl hl
 | cons b l =>
   have hb0 := hb b (by simp)
   unfold headE at he
   unfold headS at he ⊢
   by_cases h1 : b < 255
   · simp only [if_pos h1] at he ⊢
     split at he
     · cases he
     · rename_i h2
       have h3 : ¬ (((b :: l).length : Int) - 1 < b) := fun h => h2 ⟨trivial, h⟩
       exact ⟨by omega, by omega, by omega, by omega, by omega, trivial⟩
   · simp only [if_neg h1] at he ⊢
     rcases l with _ | ⟨x, _ | ⟨y, l⟩⟩
     · simp at he
     · simp at he
     · have hx := hb x (by simp)
       have hy := hb y (by simp)
       by_cases h2 : x * 256 + y < 255
       · simp [if_pos h2] at he
       · simp only [if_neg h2] at he ⊢
         split at he
         · cases he
         · rename_i h3
           have h4 : ¬ (((b :: x :: y :: l).length : Int) - 3 < x * 256 + y) := fun h => h3 ⟨trivial, h⟩
           exact ⟨by omega, by omega, by omega, by omega, by omega, trivial⟩
theorem z1lr (l : List Int) : 0 ≤ (headS l).2.1 ∧ (headS l).2.1 ≤ 3 := by
 cases l with
 | nil => simp [headS]
 | cons b l =>
   by_cases h : b < 255
   · simp [headS, h]
   · rcases l with _ | ⟨x, _ | ⟨y, l⟩⟩
     · simp [headS, h]
     · simp [headS, h]
     · by_cases h2 : x * 256 + y < 255
       · simp [headS, h, h2]
       · simp [headS, h, h2]
theorem z1au {l : List Int} (h : okB l = true) (n : Nat) : okB (l.drop n) = true := by
 obtain ⟨hb, hlen⟩ := zwf.1 h
 exact zwf.2 ⟨fun b hm => hb b (List.mem_of_mem_drop hm), by rw [List.length_drop]; omega⟩
theorem z11k : ∀ (n m : Nat) (l : List Int), okB l = true → l.length ≤ n → l.length ≤ m → zm1 n l = zm1 m l
 | 0, 0, _, _, _, _ => rfl
 | 0, m + 1, l, _, h, _ => by
   have : l = [] := List.eq_nil_of_length_eq_zero (by omega)
   simp [zm1, this]
 | n + 1, 0, l, _, _, h => by
   have : l = [] := List.eq_nil_of_length_eq_zero (by omega)
   simp [zm1, this]
 | n + 1, m + 1, l, h, h1, h2 => by
   simp only [zm1]
   by_cases hl : l = []
   · simp [hl]
   · rw [if_neg hl, if_neg hl]
     by_cases he : headE l = 0
     · obtain ⟨k1, k2, k3, k4, k5, k6⟩ := z1as h hl he
       rw [if_neg (by simp [he]), if_neg (by simp [he])]
       rw [z11k n m _ (z1au h _) (by rw [List.length_drop]; omega) (by rw [List.length_drop]; omega)]
     · rw [if_pos he, if_pos he]
theorem z1d0 {l : List Int} (h : okB l = true) : zoz l = if l = [] then [] else if headE l ≠ 0 then [([], headE l)] else
     ((l.drop (headS l).2.1.toNat).take (headS l).1.toNat, 0) :: zoz (l.drop ((headS l).2.1 + (headS l).1).toNat) := by
 by_cases hl : l = []
 · simp [hl, zoz, zm1]
 · have e : l.length = (l.length - 1) + 1 := by
     have := List.length_pos_iff.2 hl; omega
   unfold zoz
   rw [e]
   simp only [zm1]
   by_cases he : headE l = 0
   · obtain ⟨k1, k2, k3, k4, k5, k6⟩ := z1as h hl he
     rw [if_neg hl, if_neg hl, if_neg (by simp [he]), if_neg (by simp [he])]
     rw [z11k (l.length - 1) (l.drop ((headS l).2.1 + (headS l).1).toNat).length _ (z1au h _) (by rw [List.length_drop]; omega) (Nat.le_refl _)]
   · rw [if_neg hl, if_neg hl, if_pos he, if_pos he]
def zfm (dec : List (List Int × Int) → Option Bool) (x : List Int) : Option (List (List Int × Int)) := bif okB x then zpr dec [] (zoz x) else none
theorem z1sd {R : Type} {n m nb : Nat} (k : Unit → Option R) (h : (n + m) * nb ≤ 140737488355328) : appG n m nb k = k () := by
 unfold appG
 rw [Nat.ble_eq_true_of_le h]; rfl
theorem z1jh (dec : Nat → List (List Int × Int) → Option Bool) (l : Nat) : ∀ (n : Nat) (rest : List Int) (tr : List (List Int × Int)) (out : List (List Int × Int)), rest.length ≤ n → okB rest = true → zpr (dec l) tr (zoz rest) = some out →
   (loopC (z5o dec) (tr, l, rest)).map (·.1) = some out := by
 intro n
 induction n with
 | zero =>
   intro rest tr out hn hb hs
   have hr : rest = [] := List.eq_nil_of_length_eq_zero (by omega)
   subst hr
   rw [show zoz [] = [] from rfl] at hs
   cases hs
   rw [z2i]
   show Option.map _ ((z8n dec tr l []).bind _) = _
   unfold z8n
   rw [z14l _ (by simp)]
   simp [ltI]
 | succ n ih =>
   intro rest tr out hn hb hs
   have hlen := (zwf.1 hb).2
   rw [z1d0 hb] at hs
   rw [z2i]
   show Option.map _ ((z8n dec tr l rest).bind _) = _
   unfold z8n
   rw [z14l _ (by omega)]
   by_cases hr : rest = []
   · subst hr
     simp only [if_true] at hs
     cases hs
     simp [ltI]
   · have hpos := List.length_pos_iff.2 hr
     rw [ltI_t (by omega), cond_true, z1ro hb hr]
     simp only [Option.bind_some]
     rw [if_neg hr] at hs
     -- the error
     have he : ((bif eqI (headS rest).2.2 0 then
         z0f (List.length rest) (
         bif ltI (W64 ((List.length rest : Nat) - (headS rest).2.1)) (headS rest).1 then
         some (tr, (l, rest, (headS rest).1, (headS rest).2.1, 8))
         else
         some (tr, (l, rest, (headS rest).1, (headS rest).2.1, (headS rest).2.2)))
         else
         some (tr, (l, rest, (headS rest).1, (headS rest).2.1, (headS rest).2.2))) : Option (List ((List Int) × Int) × ((Nat × (List Int) × Int × Int × Int)))) = some (tr, (l, rest, (headS rest).1, (headS rest).2.1, headE rest)) := by
       have hfrom := z1lr rest
       rw [z14l _ (by omega), z1t (by omega)]
       unfold headE
       by_cases h1 : (headS rest).2.2 = 0
       · rw [eqI_t h1, cond_true]
         by_cases h2 : (rest.length : Int) - (headS rest).2.1 < (headS rest).1
         · rw [ltI_t h2, cond_true, if_pos ⟨h1, h2⟩]
         · rw [ltI_f h2, cond_false, if_neg (fun h => h2 h.2)]
       · rw [eqI_f h1, cond_false, if_neg (fun h => h1 h.1)]
     rw [he]
     simp only [Option.bind_some]
     by_cases h0 : headE rest = 0
     · obtain ⟨k1, k2, k3, k4, k5, k6⟩ := z1as hb hr h0
       rw [neI_f h0, cond_false]
       rw [if_neg (by simp [h0])] at hs
       have w1 : W64 ((headS rest).2.1 + (headS rest).1) = (headS rest).2.1 + (headS rest).1 := z1t (by omega)
       rw [w1]
       have s1 : subOk (headS rest).2.1 ((headS rest).2.1 + (headS rest).1) (List.length rest) = true := by
         simp only [subOk, leI_t (show (0 : Int) ≤ (headS rest).2.1 by omega), leI_t (show (headS rest).2.1 ≤ (headS rest).2.1 + (headS rest).1 by omega), leI_t (show (headS rest).2.1 + (headS rest).1 ≤ ((List.length rest : Nat) : Int) by omega), Bool.and_self]
       have s2 : subOk ((headS rest).2.1 + (headS rest).1) ((List.length rest : Nat) : Int) (List.length rest) = true := by
         simp only [subOk, leI_t (show (0 : Int) ≤ (headS rest).2.1 + (headS rest).1 by omega), leI_t (show (headS rest).2.1 + (headS rest).1 ≤ ((List.length rest : Nat) : Int) by omega), leI_t (Int.le_refl ((List.length rest : Nat) : Int)), Bool.and_self]
       rw [s1, cond_true]
       have e1 : subL rest (headS rest).2.1 ((headS rest).2.1 + (headS rest).1) = (rest.drop (headS rest).2.1.toNat).take (headS rest).1.toNat := by
         simp only [subL]
         congr 1
         omega
       have e2 : subL rest ((headS rest).2.1 + (headS rest).1) ((List.length rest : Nat) : Int) = rest.drop ((headS rest).2.1 + (headS rest).1).toNat := by
         simp only [subL]
         rw [List.take_of_length_le]
         rw [List.length_drop]; omega
       rw [e1, e2, z1sd _ (by simp [List.length_take, List.length_drop]; omega)]
       simp only [List.nil_append]
       simp only [zpr] at hs
       rw [Option.bind_eq_some_iff] at hs
       obtain ⟨b, hd, hs⟩ := hs
       rw [hd]
       simp only [Option.bind_some]
       cases b with
       | false =>
         simp only [Bool.not_false, cond_true, Option.bind_some, Sum.elim_inr, Option.map_some]
         simp only [cond_false] at hs
         exact hs
       | true =>
         simp only [Bool.not_true, cond_false]
         rw [s2, cond_true]
         simp only [Option.bind_some, Sum.elim_inl]
         simp only [cond_true] at hs
         exact ih _ _ _ (by rw [List.length_drop]; omega) (z1au hb _) hs
     · rw [neI_t h0, cond_true]
       rw [if_pos h0] at hs
       simp only [zpr] at hs
       rw [Option.bind_eq_some_iff] at hs
       obtain ⟨b, hd, hs⟩ := hs
       rw [hd]
       simp only [Option.bind_some, Sum.elim_inr, Option.map_some]
       cases b <;> simpa using hs
theorem z1ko : SeqOK Try.prog 74 [.d (.sl (.int .u8)), .d (.int .i64)] [.rf (.d (.sl (.int .u8)))] zfm := z12a fun dec l x tr h => by
 unfold zfm at h
 cases hb : okB x with
 | false => rw [hb] at h; cases h
 | true =>
   rw [hb, cond_true] at h
   have := z1jh (onY l dec) l x.length x [] tr (Nat.le_refl _) hb (by
     rw [show onY l dec l = dec from funext fun t => z1pa l dec t]; exact h)
   show zn1 (onY l dec) l x = some tr
   unfold zn1
   rw [Option.map_eq_some_iff] at this
   obtain ⟨o, h1, h2⟩ := this
   rw [h1]
   simp only [Option.bind_some]
   obtain ⟨o1, o2⟩ := o
   cases o2 <;> simpa using h2
end Go.Proofs.Ytpfjfldagldgnaa
set_option linter.unusedVariables false
set_option linter.unusedSimpArgs false
namespace Go.Proofs.Ytpfjfldagldgnaa
open Go.Shelf Go.Proofs Go.RowKit Go.Lib Go.Ab Go.Tm
def z1rc : Go.Shelf.Ren := ⟨fun | 4 => 60 | n => n, fun | 22 => 34 | 25 => 5 | n => n, fun n => n⟩
theorem z1hh : Lays8.n4 Try.prog z1rc where
 mixed := by kernel_rfl
 f4 := ⟨"slices.Grow[[]byte,byte]", by decide, Try.func60.trans (congrArg some (by kernel_rfl))⟩
 t0 := Try.underlying0
 a0 := Try.isAgg0
 z0 := Try.sizeOf0
 v0 := Try.zeroValue0
 t3 := Try.underlying3
 a3 := Try.isAgg3
 z3 := Try.sizeOf3
 v3 := Try.zeroValue3
 t4 := Try.underlying4
 a4 := Try.isAgg4
 z4 := Try.sizeOf4
 v4 := Try.zeroValue4
 t9 := Try.underlying9
 a9 := Try.isAgg9
 z9 := Try.sizeOf9
 v9 := Try.zeroValue9
 t20 := Try.underlying20
 a20 := Try.isAgg20
 z20 := Try.sizeOf20
 v20 := Try.zeroValue20
 t22 := Try.underlying34
 a22 := Try.isAgg34
 z22 := Try.sizeOf34
 v22 := Try.zeroValue34
theorem info5 : (Try.prog.info? 5).map (fun i => (i.zero, i.size, i.bytes)) = some (some (.int .u8 0), 1, 1) := by kernel_rfl
def z13s (n : Int) : Option (List Int) := bif leI 0 n && leI n 70368744177664 then some [] else none
def z13o : Sig := ⟨60, [.c .nil, .d (.int .i64)], [], 0, .one .ret (Shp.xe ⟨1, 0, [(0, .wn 0 (.int .u8))], [.row 5 (.int .u8)]⟩)⟩
def zzw (x : Int) : Option (List Int) := z13s x
theorem z1e6 (n : Int) (h0 : 0 ≤ n) (h1 : n ≤ 70368744177664) : z1ns Try.prog 60 0 [.tr 0 [] .full, .val (.int .i64 n)] [] fun p H' => p = .sl 0 0 0 1 ∧ H' = [.row [] 5] := by
 intro w c vs g hp hs hv
 have hs2 : vs.size = 2 := hs
 simp only [VRs] at hv
 obtain ⟨⟨v1, e1, hv1⟩, ⟨v2, e2, hv2⟩, _⟩ := hv
 obtain ⟨rfl, _⟩ : v2 = .int .i64 n ∧ plain (.int .i64 n) = true := by simpa only [VR] using hv2
 obtain ⟨base, rfl⟩ : ∃ base, v1 = .slice base 0 0 := by
   simp only [VR] at hv1
   rcases hv1 with ⟨rfl, _⟩ | ⟨a, cap, rfl, _, _, h, _⟩
   · exact ⟨none, rfl⟩
   · have hc : cap = 0 := h
     subst hc
     exact ⟨some a, rfl⟩
 have hvs : vs = #[.slice base 0 0, .int .i64 n] := by
   apply Array.ext (by simp [hs2])
   intro i hi hi'
   have g1 := (Array.getElem?_eq_some_iff.1 e1).2
   have g2 := (Array.getElem?_eq_some_iff.1 e2).2
   match i, hi with
   | 0, _ => simpa using g1
   | 1, _ => simpa using g2
   | n + 2, hi => omega
 rw [hvs]
 have hm0 : c.m = [] := List.eq_nil_of_length_eq_zero g.len
 have at0 : ∀ o : Option Nat, (c.m ++ [o])[0]? = some o := fun o => by rw [hm0]; rfl
 have mk : ∀ (w' : World) (hb : Go.RowKit.Below w.heap.size w w') (o : Option Nat), Ext w c w' { c with m := c.m ++ [o] } → ExtP 0 w c w' { c with m := c.m ++ [o] } := fun w' hb o x =>
   ⟨hb.os, hb.tape, hb.output, hb.size, x.new, fun k hk _ => hb.block k hk, rfl, rfl, fun b k _ h => x.ids b k h, x.room⟩
 obtain ⟨m, rfl⟩ : ∃ m : Nat, n = m := ⟨n.toNat, by omega⟩
 obtain ⟨i0, hi, hz0, hz1, hz2⟩ := info_parts info5
 by_cases hm : m = 0
 · subst hm
   refine (Any8.slices_Grow_room z1hh base 0 0 0 w (Nat.le_refl _) (by omega) (by omega) (by omega)).mono ?_
   rintro e w' ⟨rfl, rfl⟩
   obtain ⟨g', x⟩ := z1fs g (Go.RowKit.Below.refl _ w') none (fun k h => by cases h) (.row [] 5) (.inl ⟨rfl, at0 none⟩)
   refine ⟨_, _, _, _, rfl, ⟨rfl, rfl⟩, g', ?_, mk w' (Go.RowKit.Below.refl _ w') none x⟩
   simp only [VR]
   exact .inl ⟨⟨base, rfl⟩, trivial⟩
 · refine (Any8.slices_Grow_grow z1hh i0 (.int .u8 0) hi hz0 (by rw [hz1]; decide) base 0 0 m [] w (Nat.le_refl _) (by omega) (by rw [hz2]; omega) (by omega) (by simp) (fun _ => rfl) (fun a _ j v h => by simp at h)).mono ?_
   rintro e w' ⟨rfl, rfl⟩
   have hb : Go.RowKit.Below w.heap.size w (w.drew.alloc (.cells ((([] : List Value).toArray ++ Builtin.zeroCells (Value.int .u8 0).cells (0 + m - 0) ++ Builtin.zeroCells (Value.int .u8 0).cells (grownCap w (0 + m) 0 5 - (0 + m)))) 5)) := ⟨rfl, rfl, rfl, by simp, fun k hk => Go.RowKit.Below.heap_alloc w.drew _ k hk⟩
   have hnew : (w.drew.alloc (.cells ((([] : List Value).toArray ++ Builtin.zeroCells (Value.int .u8 0).cells (0 + m - 0) ++ Builtin.zeroCells (Value.int .u8 0).cells (grownCap w (0 + m) 0 5 - (0 + m)))) 5)).heap[w.heap.size]? = some (.cells ((([] : List Value).toArray ++ Builtin.zeroCells (Value.int .u8 0).cells (0 + m - 0) ++ Builtin.zeroCells (Value.int .u8 0).cells (grownCap w (0 + m) 0 5 - (0 + m)))) 5) := World.alloc_heap_new w.drew _
   obtain ⟨g', x⟩ := z1fs g hb (some w.heap.size) (fun k h => by cases h; exact Nat.le_refl _) (.row [] 5) (.inr ⟨w.heap.size, _, (0, 0), at0 _, hnew, zf4 _, Nat.zero_le _, (fun p hp => by cases hp), by simp only [VRs]⟩)
   refine ⟨_, _, _, _, rfl, ⟨rfl, rfl⟩, g', ?_, mk _ hb _ x⟩
   simp only [VR]
   refine .inr ⟨w.heap.size, _, 0, at0 _, rfl, .inr rfl, Nat.zero_le _, _, 5, (0, 0), hnew, ?_⟩
   show 0 + grownCap w (0 + m) 0 5 * 1 ≤ _
   simp [Builtin.zeroCells, Value.cells]
   omega
theorem z19n : FnOK Try.prog z13o zzw where
 can := by kernel_rfl
 ret := fun x y hy _ hw => by
   have hy' : (bif leI 0 x && leI x 70368744177664 then some ([] : List Int) else none) = some y := hy
   cases hb : leI 0 x && leI x 70368744177664 with
   | false => rw [hb] at hy'; cases hy'
   | true =>
     rw [hb] at hy'
     cases hy'
     refine ⟨?_, fun o ho => ?_⟩
     · show TV.wf (.os 0 _ _ _ _ _)
       simp only [TV.wf]
     · have ho' : o ∈ [TOb.ob 5 (.row (.int .u8) [])] := ho
       rw [List.mem_singleton.1 ho']
       intro z hz
       cases hz
 calls := fun x y hy _ hw => by
   have hy' : (bif leI 0 x && leI x 70368744177664 then some ([] : List Int) else none) = some y := hy
   cases hb : leI 0 x && leI x 70368744177664 with
   | false => rw [hb] at hy'; cases hy'
   | true =>
     rw [hb] at hy'
     cases hy'
     simp only [leI, Bool.and_eq_true, decide_eq_true_eq] at hb
     exact z1e6 x hb.1 hb.2
 open' := fun R y k => rfl
end Go.Proofs.Ytpfjfldagldgnaa