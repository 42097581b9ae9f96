import Derived.Test.YtomgkgngbpnngaaGreatDoorCzW3toCzW7
import Derived.Test.YtomgkgngbpnngaaGreatDoorTm26to29
import Derived.Shelf.Strings.Split
import Derived.Test.YtomgkgngbpnngaaGreatDoorCzLtoCzW2
import Derived.Lib.RowBridge
import Derived.Test.YtomgkgngbpnngaaGreatDoorTm21to25
import Derived.Test.YtomgkgngbpnngaaGreatDoorProg
set_option linter.unusedVariables false
set_option linter.unusedSimpArgs false
namespace Go.Proofs.YtomgkgngbpnngaaGreatDoor
open Go.Shelf Go.Proofs Go.RowKit Go.Sort Go.Lib Go.Ab Go.Tm
theorem z12j {w : World} {c : Cx} {H : List AObj} {ts : List Bool} (g : Ab.Good w c H ts) : Glob w := g.gl.var
def zl1 (s : List Int) : Option Bool := zf5 (List.length s) (some (nameB (ba s)))
def zrp : Sig := libS 44 [.d .str] .bool
def zof (x : List Int) : Option Bool := zl1 x
theorem zxe : FnOK Tryz.prog zrp zof := zyb (u := .str) (B := .bool) (by kernel_rfl) fun x y hy hx => by
 obtain ⟨hl, h2⟩ := zor (show zf5 (List.length x) (some (nameB (ba x))) = some y from hy)
 cases h2
 refine ⟨trivial, fun w c vs g hs hv => ?_⟩
 rw [vals1 hs hv]
 refine (zze (ba x) (by rw [z7i]; omega) w).mono ?_
 rintro e w' ⟨rfl, hb⟩
 exact ⟨_, rfl, hb, fun _ => by simp only [pvU, VR]; exact ⟨trivial, rfl⟩⟩
def zdf (s : List Int) : Option Bool := zf5 (List.length s) (some (zgu (ba s)))
def zn8 : Sig := libS 45 [.d .str] .bool
def zla (x : List Int) : Option Bool := zdf x
theorem zty : FnOK Tryz.prog zn8 zla := zyb (u := .str) (B := .bool) (by kernel_rfl) fun x y hy hx => by
 obtain ⟨hl, h2⟩ := zor (show zf5 (List.length x) (some (zgu (ba x))) = some y from hy)
 cases h2
 refine ⟨trivial, fun w c vs g hs hv => ?_⟩
 rw [vals1 hs hv]
 refine (zwg (ba x) (by rw [z7i]; omega) w g.gl.sz (z12j g)).mono ?_
 rintro e w' ⟨rfl, hb⟩
 exact ⟨_, rfl, hb, fun _ => by simp only [pvU, VR]; exact ⟨trivial, rfl⟩⟩
theorem zqf (l : List (List Int)) : List.flatMap (fun x => cellU .str x) l = (l.map ba).map fun b => PV.val (.string b) := by
 induction l with
 | nil => rfl
 | cons x l ih => rw [List.flatMap_cons, ih]; rfl
theorem zx8 (s : ByteArray) (c : UInt8) (hs : s.size < 4294967281) (w : World) :
   Calls Tryz.prog 32 #[.string s, .string ⟨#[c]⟩] w fun e w' => e = .returned (.slice (some ⟨w.heap.size, 0, none⟩) (Lib.countB s ⟨#[c]⟩ + 1) (Lib.countB s ⟨#[c]⟩ + 1)) ∧
     w' = w.alloc (.cells ((Lib.splitB ⟨#[c]⟩ 0 (Lib.countB s ⟨#[c]⟩) s).map Value.string).toArray 9) := by
 have hle := Lib.countB_le ⟨#[c]⟩ (Nat.le_refl 1) s.size s (Nat.le_refl _)
 have hlen := Lib.splitB_all ⟨#[c]⟩ (Nat.le_refl 1) 0 _ s rfl
 have hcnt : Calls Tryz.prog 59 #[.string s, .string ⟨#[c]⟩] w fun e w' => e = .returned (.int .i64 (Lib.countB s ⟨#[c]⟩)) ∧ w' = w := by
   refine (Any.strings_Count_one z17h s c w).mono fun e w' ⟨he, hw⟩ => ⟨?_, hw⟩
   rw [he]
   show _ = Ending.returned (Value.int .i64 ((Lib.count s.data.toList [c] : Nat) : Int))
   rw [Lib.count_one]
   rfl
 have hidx : ∀ (x : ByteArray) (cs : Array Value), x.size ≤ s.size → Calls Tryz.prog 60 #[.string x, .string ⟨#[c]⟩] (w.alloc (.cells cs 9)) fun e w' => e = .returned (.int .i64 (Lib.indexB x ⟨#[c]⟩)) ∧ w' = w.alloc (.cells cs 9) := fun x cs _ => by
   refine (Any.strings_Index_one z16h x c _).mono fun e w' ⟨he, hw⟩ => ⟨?_, hw⟩
   rw [he]
   show _ = Ending.returned (Value.int .i64 (Lib.index x.data.toList [c]))
   rw [Lib.index_one]
 have h := Any.strings_genSplit_core z17m (by kernel_rfl) s ⟨#[c]⟩ 0 (-1) (Lib.countB s ⟨#[c]⟩ + 1) w hs (Nat.le_refl 1) (Nat.zero_le _) hidx hcnt (by decide) (by decide) (by rw [if_pos (by decide)]; omega)
 rw [Nat.add_sub_cancel, hlen] at h
 have e2 : Lib.cellsOf (Lib.splitB ⟨#[c]⟩ 0 (Lib.countB s ⟨#[c]⟩) s) (Lib.countB s ⟨#[c]⟩ + 1) = ((Lib.splitB ⟨#[c]⟩ 0 (Lib.countB s ⟨#[c]⟩) s).map Value.string).toArray := by rw [← hlen]; exact Lib.cellsOf_full _
 rw [e2] at h
 go_enter Tryz.func32, Tryz.ntmps32
 go_wp2_with (go_at_call 42; refine h.mono ?_; rintro e w' ⟨rfl, hw⟩; rw [hw])
 go_ret
 exact ⟨rfl, rfl⟩
def zfc (c : Int) (s : List Int) : List (List Int) := (Lib.splitB ⟨#[c.toNat.toUInt8]⟩ 0 (Lib.countB (ba s) ⟨#[c.toNat.toUInt8]⟩) (ba s)).map fun b => nums b.data.toList
def zcs (s sep : List Int) : Option (List (List Int)) := match sep with
 | [c] => bif Nat.ble (List.length s) 4294967280 then some (zfc c s) else none
 | _ => none
def zoy : Sig := libS 32 [.d .str, .d .str] (.sl .str)
def zml (x : List Int × List Int) : Option (List (List Int)) := zcs x.1 x.2
theorem zzz (c : Int) (s : List Int) : (zfc c s).map ba = Lib.splitB ⟨#[c.toNat.toUInt8]⟩ 0 (Lib.countB (ba s) ⟨#[c.toNat.toUInt8]⟩) (ba s) := by
 unfold zfc
 rw [List.map_map]
 have : (ba ∘ fun b : ByteArray => nums b.data.toList) = id := by
   funext b
   simp [zs9]
 rw [this, List.map_id]
theorem z13y {w : World} (cs : List Value) (t : TypeId) (i : Nat) : (w.alloc (.cells cs.toArray t)).cell? ⟨w.heap.size, 0 + i, none⟩ = cs[i]? := by
 rw [World.cell?_alloc_new]
 simp
theorem zwd : FnOK Tryz.prog zoy zml := z17x (u := .str) (v := .str) (B := .sl .str) (by kernel_rfl) fun x z y hy hx hz => by
 have hy' : zcs x z = some y := hy
 unfold zcs at hy'
 split at hy'
 · rename_i c
   cases hb : Nat.ble (List.length x) 4294967280 with
   | false => rw [hb] at hy'; cases hy'
   | true =>
     rw [hb] at hy'
     cases hy'
     have hl := Nat.le_of_ble_eq_true hb
     refine ⟨fun l hl => ?_, fun w cx vs g hs hv => ?_⟩
     · simp only [zfc, List.mem_map] at hl
       obtain ⟨b, _, rfl⟩ := hl
       exact zs3 _
     rw [vals2 hs hv]
     have hsep : ba [c] = ⟨#[c.toNat.toUInt8]⟩ := rfl
     rw [hsep]
     have hx2 : (ba x).size < 4294967281 := by rw [z7i]; omega
     have hlen := Lib.splitB_all ⟨#[c.toNat.toUInt8]⟩ (Nat.le_refl 1) 0 _ (ba x) rfl
     refine (zx8 (ba x) c.toNat.toUInt8 hx2 w).mono ?_
     rintro e w' ⟨rfl, rfl⟩
     rw [← zzz] at hlen ⊢
     rw [List.length_map] at hlen
     refine ⟨_, rfl, ⟨rfl, rfl, rfl, by show w.heap.size ≤ (w.heap.push _).size; rw [Array.size_push]; omega, fun k hk => RowKit.Below.heap_alloc w _ k hk⟩, fun g' => ?_⟩
     simp only [pvU, VR]
     refine .inr ⟨_, _, by rw [← hlen], by rw [hlen]; exact Nat.le_refl _, ?_, trivial, ?_, ?_⟩
     · exact Foot.new g (by show w.heap.size < (w.heap.push _).size; rw [Array.size_push]; omega) _ 0 _ rfl
     · intro p hp
       rw [zqf] at hp
       simp only [List.mem_map] at hp
       obtain ⟨b, _, rfl⟩ := hp
       rfl
     · rw [zqf]
       refine Ab.VRs_mk fun i q hq => ?_
       rw [List.getElem?_map] at hq
       cases hb : ((zfc c x).map ba)[i]? with
       | none => rw [hb] at hq; cases hq
       | some b =>
         rw [hb] at hq
         cases hq
         refine ⟨.string b, ?_, by simp only [VR]; exact ⟨trivial, rfl⟩⟩
         show (w.alloc (.cells (((zfc c x).map ba).map Value.string).toArray 9)).cell? ⟨w.heap.size, 0 + i, none⟩ = _
         rw [z13y, List.getElem?_map, hb]; rfl
 · cases hy'
end Go.Proofs.YtomgkgngbpnngaaGreatDoor
set_option linter.unusedVariables false
set_option linter.unusedSimpArgs false
namespace Go.Proofs.YtomgkgngbpnngaaGreatDoor
open Go.Shelf Go.Proofs Go.RowKit Go.Sort Go.Lib Go.Ab Go.Tm
theorem zx1 (l : List (List Int)) : List.flatMap (fun x => cellU .str x) l = l.map fun s => PV.val (.string (ba s)) := zch l
def sortL (l : List (List Int)) : List (List Int) := ((l.map byts).mergeSort fun x y => decide (x ≤ y)).map nums
def zga (l : List (List Int)) : Option (List (List Int) × List (List Int)) := bif Nat.ble (List.length l) 4398046511104 then some (l, sortL l) else none
def zno : Sig := ⟨19, [.fn 30 [.pt 0 (.one .leaf) []]], [.var 22 (.d (.sl .str))], 1, ownX 1 [.var 22 (.d (.sl .str))] 9⟩
def zl7 (x : List (List Int)) : Option (List (List Int) × List (List Int)) := zga x
theorem zpa (x : List (List Int)) (hlen : List.length x ≤ 4398046511104) : zqv Tryz.prog 19 1 [.fn 30 [.ptr 0 0]] [.row [pvU (.sl .str) x] 22] fun p H' => p = .sl 1 0 (sortL x).length 1 ∧ H' = [.row [pvU (.sl .str) x] 22, .row (rowU .str (sortL x)) 9] := by
 intro w c vs g hp hs hv
 have hs1 : vs.size = 1 := hs
 simp only [VRs, VR] at hv
 obtain ⟨⟨v1, e1, cv, rfl, hcs, ⟨v2, e2, Bs, hk, rfl⟩, _⟩, _⟩ := hv
 have hcs1 : cv.size = 1 := hcs
 have hcv : cv = #[.pointer (some ⟨Bs, 0, none⟩)] := by
   apply Array.ext (by simp [hcs1])
   intro i hi hi'
   have : i = 0 := by omega
   subst this
   have := (Array.getElem?_eq_some_iff.1 e2).2
   simpa using this
 subst hcv
 have hvs : vs = #[.func (.func 30) #[] #[.pointer (some ⟨Bs, 0, none⟩)]] := by
   apply Array.ext (by simp [hs1])
   intro i hi hi'
   have : i = 0 := by omega
   subst this
   have := (Array.getElem?_eq_some_iff.1 e1).2
   simpa using this
 rw [hvs]
 have hbl := ObjC.lt g hk
 obtain ⟨bs, fr, h2, hf, h3, hl, h4⟩ := ObjC.row (g.obj 0 _ rfl) hk
 simp only [VRs, pvU, VR] at h4
 obtain ⟨⟨sv, e3, htr⟩, _⟩ := h4
 have e3' : w.cell? ⟨Bs, 0, none⟩ = some sv := by rw [z6z h2]; exact e3
 have hzl : (x.map byts).length = x.length := by simp
 have hT : TextsAt w.heap.size w sv (x.map byts) := by
   rcases htr with ⟨rfl, hl0, _, _⟩ | ⟨a2, cap, rfl, hcap, hf2, _, _, hcells⟩
   · exact .inl ⟨none, 0, rfl, by rw [List.length_eq_zero_iff.1 hl0]; rfl⟩
   · rw [zx1] at hf2 hcells
     rcases hf2 with hf2 | ⟨hsp2, hbl2, _, _, _⟩
     · have hx0 : x = [] := by simpa using hf2
       subst hx0
       exact .inl ⟨some a2, cap, rfl, rfl⟩
     · obtain ⟨b2, o2, sp2⟩ := a2
       dsimp only at hsp2 hbl2 hcells
       subst hsp2
       refine .inr ⟨b2, o2, cap, by rw [hzl], hbl2, fun j hj => ?_⟩
       have hj' : j < x.length := by omega
       obtain ⟨u, h5, h6⟩ := z0h hcells (i := j) (p := .val (.string (ba x[j]))) (by rw [List.getElem?_map, List.getElem?_eq_getElem hj']; rfl)
       obtain ⟨rfl, _⟩ := z3h.1 h6
       have e4 : (x.map byts)[j]?.getD [] = byts x[j] := by rw [List.getElem?_map, List.getElem?_eq_getElem hj']; rfl
       rw [e4, zoe]
       exact h5
 refine (zv3 Bs 0 sv (x.map byts) (by rw [hzl]; omega) w hbl e3' hT).mono ?_
 rintro e w' ⟨v, rfl, hrow, hbel⟩
 have hrow' : w'.ownsRow w.heap.size 9 1 v (sortL x).length ((sortL x).map fun s => Value.string (ba s)) := by
   have e1 : (sortL x).length = (x.map byts).length := by simp [sortL]
   have e2 : ((sortL x).map fun s => Value.string (ba s)) = ((x.map byts).mergeSort fun x y => decide (x ≤ y)).map encStr := by
     unfold sortL
     rw [List.map_map]
     exact List.map_congr_left fun b _ => by simp only [Function.comp]; exact zop b
   rw [e1, e2]
   exact hrow
 obtain ⟨c', g', hvr, hx⟩ := zyj g hbel hrow' 1
 exact ⟨v, .sl 1 0 (sortL x).length 1, [.row [pvU (.sl .str) x] 22, .row (rowU .str (sortL x)) 9], c', rfl, ⟨rfl, rfl⟩, g', hvr, hx⟩
theorem zu7 : FnOK Tryz.prog zno zl7 where
 can := by kernel_rfl
 ret := fun x y hy _ hw => by
   have hy' : (bif Nat.ble (List.length x) 4398046511104 then some (x, sortL x) else none) = some y := hy
   cases hb : Nat.ble (List.length x) 4398046511104 with
   | false => rw [hb] at hy'; cases hy'
   | true =>
     rw [hb] at hy'
     cases hy'
     refine ⟨?_, fun o ho => ?_⟩
     · show TV.wf (.os 1 _ _ _ _ _)
       simp only [TV.wf]
     · have ho' : o ∈ [TOb.ob 22 (.var (.v (.sl .str) x)), TOb.ob 9 (.row .str (sortL x))] := ho
       simp only [List.mem_cons, List.not_mem_nil, or_false] at ho'
       rcases ho' with rfl | rfl
       · exact hw _ (List.mem_singleton.2 rfl)
       · show ∀ z, z ∈ sortL x → wfU .str z
         intro z hz
         simp only [sortL, List.mem_map] at hz
         obtain ⟨b, _, rfl⟩ := hz
         exact zs3 b
 calls := fun x y hy _ hw => by
   have hy' : (bif Nat.ble (List.length x) 4398046511104 then some (x, sortL x) else none) = some y := hy
   cases hb : Nat.ble (List.length x) 4398046511104 with
   | false => rw [hb] at hy'; cases hy'
   | true =>
     rw [hb] at hy'
     cases hy'
     exact zpa x (Nat.le_of_ble_eq_true hb)
 open' := fun R y k => rfl
def compL (l : List (List Int)) : List (List Int) := (Lib.compact (l.map byts)).map nums
def zer (l : List (List Int)) : Option (List (List Int)) := bif Nat.ble (List.length l) 4398046511104 then some (compL l) else none
def zlb : Sig := ⟨18, [.wn 0 .str], [.row 9 .str], 0, libX (.sl .str)⟩
def zji (x : List (List Int)) : Option (List (List Int)) := zer x
theorem zo7 (x : List (List Int)) (hlen : List.length x ≤ 4398046511104) : zqv Tryz.prog 18 0 [.sl 0 0 (List.length x) 1] [.row (rowU .str x) 9] fun p H' => p = pvU (.sl .str) (compL x) ∧ H' = [] := by
 intro w c vs g hp hs hv
 have g0 : Ab.Good w c [.row (rowU .str x) 9] [] := g
 have hs1 : vs.size = 1 := hs
 have hv1 : VRs w c [.sl 0 0 (List.length x) 1] (fun i => vs[i]?) := hv
 simp only [VRs] at hv1
 obtain ⟨⟨v1, e1, hvr⟩, _⟩ := hv1
 have hvs : vs = #[v1] := by
   apply Array.ext (by simp [hs1])
   intro i hi hi'
   have : i = 0 := by omega
   subst this
   have := (Array.getElem?_eq_some_iff.1 e1).2
   simpa using this
 rw [hvs]
 have hzl : (x.map byts).length = x.length := by simp
 rcases z13e g0 hvr with ⟨ad, rfl, hx0⟩ | ⟨k, cap, rfl, hcap, hH, hm, hk⟩
 · subst hx0
   refine (Any.slices_Compact_string_empty zyi ad 0 w).mono ?_
   rintro e w' ⟨rfl, rfl⟩
   obtain ⟨g', hx⟩ := taken (w' := w') g0 hp rfl rfl rfl rfl (fun _ _ => rfl) fun k vs e fr h => ⟨vs, fr, h, rfl⟩
   refine ⟨_, pvU (.sl .str) (compL []), [], { c with m := [] }, rfl, ⟨rfl, rfl⟩, g', ?_, hx⟩
   show VR w' { c with m := [] } (.tr 0 [] .no) _
   simp only [VR]
   cases ad with
   | none => exact .inl (by simp [Tail.isTok])
   | some a => exact .inr ⟨a, 0, rfl, Nat.le_refl _, .inl rfl, trivial, (fun p hp => by cases hp), by simp only [VRs]⟩
 · have hc := Any.slices_Compact_string zyi k 0 cap (x.map byts) w hH (by rw [hzl]; omega) (by rw [hzl]; exact hcap)
   rw [hzl] at hc
   refine Calls.mono hc ?_
   rintro e w' ⟨rfl, q, rfl⟩
   have hcl := Lib.compact_length_le (x.map byts)
   rw [hzl] at hcl
   obtain ⟨g', hvr', hx⟩ := z15r (e := 9) (l := x) (q := q) (cap := cap) (m := Lib.compact (x.map byts)) (d := (Lib.compact (x.map byts) ++ List.replicate (x.length - (Lib.compact (x.map byts)).length) []).toArray) g0 hp hm hk hH (by simp; omega) hcl
     (fun j z hj => by
       have hj' := (List.getElem?_eq_some_iff.1 hj).1
       rw [getElem!_pos _ j (by simp; omega)]
       simp only [List.getElem_toArray]
       rw [List.getElem_append_left hj']
       exact (List.getElem?_eq_some_iff.1 hj).2) (by omega)
   exact ⟨_, _, [], _, rfl, ⟨rfl, rfl⟩, g', hvr', hx⟩
theorem zry : FnOK Tryz.prog zlb zji where
 can := by kernel_rfl
 ret := fun x y hy hw _ => by
   have hy' : (bif Nat.ble (List.length x) 4398046511104 then some (compL x) else none) = some y := hy
   cases hb : Nat.ble (List.length x) 4398046511104 with
   | false => rw [hb] at hy'; cases hy'
   | true =>
     rw [hb] at hy'
     cases hy'
     refine ⟨?_, fun o ho => by cases ho⟩
     show TV.wf (.v (.sl .str) (compL x))
     simp only [TV.wf]
     show ∀ z, z ∈ compL x → wfU .str z
     intro z hz
     simp only [compL, List.mem_map] at hz
     obtain ⟨b, _, rfl⟩ := hz
     exact zs3 b
 calls := fun x y hy hw _ => by
   have hy' : (bif Nat.ble (List.length x) 4398046511104 then some (compL x) else none) = some y := hy
   cases hb : Nat.ble (List.length x) 4398046511104 with
   | false => rw [hb] at hy'; cases hy'
   | true =>
     rw [hb] at hy'
     cases hy'
     exact zo7 x (Nat.le_of_ble_eq_true hb)
 open' := fun R y k => rfl
end Go.Proofs.YtomgkgngbpnngaaGreatDoor
set_option linter.unusedVariables false
set_option linter.unusedSimpArgs false
namespace Go.Proofs.YtomgkgngbpnngaaGreatDoor
open Go.Tm Go.Ab Go.Lib
def Bs (s : List Int) : Prop := ∀ x, x ∈ s → 0 ≤ x ∧ x < 256
def isD (x : Int) : Bool := decide (48 ≤ x ∧ x ≤ 57)
def val (a : Int) : List Int → Int
 | [] => a
 | x :: l => val (10 * a + (x - 48)) l
def lead (l : List Int) : Bool := decide (2 ≤ l.length) && decide (l.head? = some 48)
def canon (l : List Int) : Bool := !l.isEmpty && l.all isD && !lead l && decide (val 0 l ≤ 4294967295)
def b8 (x : Int) : UInt8 := UInt8.ofNat x.toNat
theorem ze9 (s : List Int) : byts s = s.map b8 := by
 unfold byts ba
 simp [b8]
theorem zaz {x : Int} (h : 0 ≤ x ∧ x < 256) : ((b8 x).toNat : Int) = x := by
 unfold b8
 rw [UInt8.toNat_ofNat']
 omega
theorem z6q {x : Int} : isD x = true ↔ 48 ≤ x ∧ x ≤ 57 := by simp [isD]
theorem zmq : ∀ (s : List Int) (a : Int), 0 ≤ a → s.all isD = true → a ≤ val a s
 | [], a, _, _ => Int.le_refl _
 | x :: l, a, ha, hd => by
   rw [List.all_cons, Bool.and_eq_true, z6q] at hd
   have := zmq l (10 * a + (x - 48)) (by omega) hd.2
   rw [val]
   omega
theorem zpd : ∀ (s : List Int) (a x : Int), val a (s ++ [x]) = 10 * val a s + (x - 48)
 | [], a, x => rfl
 | y :: l, a, x => by rw [List.cons_append, val, val, zpd l]
theorem zui : ∀ (s : List Int) (a : Nat), Bs s → s.all isD = true → val a s ≤ 4294967295 → parseUintM 4294967295 a (s.map b8) = .ok (val a s).toNat
 | [], a, _, _, _ => by simp [parseUintM, val]
 | x :: l, a, hb, hd, hv => by
   rw [List.all_cons, Bool.and_eq_true, z6q] at hd
   have hx := zaz (hb x (by simp))
   have hn : (10 * (a : Int) + (x - 48)) = ((a * 10 + ((b8 x).toNat - 48) : Nat) : Int) := by omega
   rw [val, hn] at hv ⊢
   have ih := zui l _ (fun y hy => hb y (by simp [hy])) hd.2 hv
   have hge := zmq l ((a * 10 + ((b8 x).toNat - 48) : Nat) : Int) (by omega) hd.2
   rw [List.map_cons, parseUintM, if_pos (by omega), if_neg (by omega), if_neg (by omega)]
   exact ih
theorem ztd : ∀ (s : List Int) (a u : Nat), Bs s → a ≤ 4294967295 → parseUintM 4294967295 a (s.map b8) = .ok u → s.all isD = true ∧ (u : Int) = val a s ∧ u ≤ 4294967295
 | [], a, u, _, ha, h => by
   simp only [List.map_nil, parseUintM] at h
   cases h
   exact ⟨rfl, rfl, ha⟩
 | x :: l, a, u, hb, ha, h => by
   have hx := zaz (hb x (by simp))
   rw [List.map_cons, parseUintM] at h
   split at h
   · rename_i hd
     split at h
     · cases h
     · split at h
       · cases h
       · rename_i h1 h2
         obtain ⟨g1, g2, g3⟩ := ztd l _ u (fun y hy => hb y (by simp [hy])) (by omega) h
         refine ⟨?_, ?_, g3⟩
         · rw [List.all_cons, g1, Bool.and_true, z6q]; omega
         · rw [g2, val]; congr 1; omega
   · cases h
theorem zvt : ∀ (n u : Nat), u ≤ n → (2 ≤ (decDigits u).length → (decDigits u).head? ≠ some 48) ∧ decDigits u ≠ []
 | 0, u, h => by
   have : u = 0 := by omega
   subst this
   rw [decDigits_one (by omega)]
   exact ⟨fun h => by simp at h, by simp⟩
 | n + 1, u, h => by
   by_cases h1 : u < 10
   · rw [decDigits_one h1]
     exact ⟨fun h => by simp at h, by simp⟩
   · have ih := zvt n (u / 10) (by omega)
     rw [decDigits, dif_neg h1]
     refine ⟨fun _ => ?_, by simp⟩
     by_cases h2 : u / 10 < 10
     · rw [decDigits_one h2]
       simp only [List.cons_append, List.head?_cons]
       intro e
       have e := Option.some.inj e
       have := congrArg UInt8.toNat e
       rw [UInt8.toNat_ofNat'] at this
       have h48 : (48 : UInt8).toNat = 48 := rfl
       omega
     · have hl : 2 ≤ (decDigits (u / 10)).length := by
         rw [decDigits_length, nDigits_big h2]
         have : 1 ≤ nDigits (u / 10 / 10) := by
           by_cases h3 : u / 10 / 10 < 10
           · rw [nDigits_small h3]; exact Nat.le_refl _
           · rw [nDigits_big h3]; omega
         omega
       have := ih.1 hl
       cases hd : decDigits (u / 10) with
       | nil => exact absurd hd ih.2
       | cons y l => rw [hd] at this; simpa using this
theorem z11j : ∀ (n : Nat) (s : List Int), s.length = n → Bs s → s ≠ [] → s.all isD = true → lead s = false → decDigits (val 0 s).toNat = s.map b8
 | 0, s, hn, _, hne, _, _ => absurd (List.length_eq_zero_iff.1 hn) hne
 | n + 1, s, hn, hb, hne, hd, hl => by
   obtain ⟨t, x, rfl⟩ : ∃ t x, s = t ++ [x] := ⟨s.dropLast, s.getLast hne, (List.dropLast_concat_getLast hne).symm⟩
   rw [List.all_append, Bool.and_eq_true] at hd
   have hx := (List.all_cons .. ▸ hd.2 : (isD x && List.all [] isD) = true)
   rw [Bool.and_eq_true, z6q] at hx
   have hbx := zaz (hb x (by simp))
   rw [zpd, List.map_append, List.map_cons, List.map_nil]
   have hb8 : ∀ k : Nat, (k : Int) = x - 48 → UInt8.ofNat (48 + k) = b8 x := fun k hk => by
     unfold b8
     congr 1
     omega
   by_cases ht : t = []
   · subst ht
     have hv : (10 * val 0 [] + (x - 48)).toNat = (x - 48).toNat := by simp [val]
     rw [hv, decDigits_one (by omega), hb8 _ (by omega)]; rfl
   · have htl : 1 ≤ t.length := by
       cases t with
       | nil => exact absurd rfl ht
       | cons y l => simp
     have hth : t.head? ≠ some 48 := by
       intro e
       unfold lead at hl
       rw [decide_eq_true (by simp; omega), Bool.true_and, decide_eq_false_iff_not] at hl
       apply hl
       cases t with
       | nil => exact absurd rfl ht
       | cons y l => simpa using e
     have hlt : lead t = false := by
       unfold lead
       rw [decide_eq_false (p := t.head? = some 48) hth, Bool.and_false]
     have ih := z11j n t (by simp at hn; exact hn) (fun y hy => hb y (by simp [hy])) ht hd.1 hlt
     have hv1 : 1 ≤ val 0 t := by
       cases t with
       | nil => exact absurd rfl ht
       | cons y l =>
         rw [List.all_cons, Bool.and_eq_true, z6q] at hd
         have hy : y ≠ 48 := fun e => hth (by rw [e]; rfl)
         have := zmq l (10 * 0 + (y - 48)) (by omega) hd.1.2
         rw [val]
         omega
     rw [decDigits, dif_neg (by omega)]
     have e1 : (10 * val 0 t + (x - 48)).toNat / 10 = (val 0 t).toNat := by omega
     have e2 : (((10 * val 0 t + (x - 48)).toNat % 10 : Nat) : Int) = x - 48 := by omega
     rw [e1, ih, hb8 _ e2]
theorem zj8 {x y : Int} (hx : 0 ≤ x ∧ x < 256) (hy : 0 ≤ y ∧ y < 256) (h : b8 x = b8 y) : x = y := by
 rw [← zaz hx, ← zaz hy, h]
theorem z12a {s : List Int} (hb : Bs s) : zgu (ba s) = canon s := by
 unfold zgu
 have e0 : (ba s).data.toList = s.map b8 := ze9 s
 rw [e0]
 unfold parseUintB
 by_cases hs : s = []
 · subst hs; rfl
 · rw [if_neg (by simpa using hs)]
   have hbad : (∀ u, parseUintM (2 ^ 32 - 1) 0 (s.map b8) ≠ .ok u) → canon s = false := fun hn => by
     cases hc : canon s with
     | false => rfl
     | true =>
       unfold canon at hc
       simp only [Bool.and_eq_true, decide_eq_true_eq] at hc
       exact absurd (zui s 0 hb hc.1.1.2 hc.2) (hn _)
   cases hp : parseUintM (2 ^ 32 - 1) 0 (s.map b8)
   · rename_i u
     obtain ⟨h1, h2, h3⟩ := ztd s 0 u hb (by omega) hp
     have hu : (val 0 s).toNat = u := by rw [show val 0 s = val ((0 : Nat) : Int) s from rfl, ← h2]; rfl
     have hv : val 0 s ≤ 4294967295 := by rw [show val 0 s = val ((0 : Nat) : Int) s from rfl, ← h2]; omega
     dsimp only
     rw [Bool.eq_iff_iff, beq_iff_eq]
     unfold canon
     rw [h1, decide_eq_true hv]
     simp only [Bool.and_true, Bool.and_eq_true, Bool.not_eq_true', List.isEmpty_eq_false_iff]
     constructor
     · intro e
       refine ⟨hs, ?_⟩
       have := (zvt u u (Nat.le_refl _)).1
       rw [e] at this
       unfold lead
       by_cases h2 : 2 ≤ s.length
       · have h3 := this (by simpa using h2)
         rw [decide_eq_true h2, Bool.true_and, decide_eq_false_iff_not]
         intro e2
         apply h3
         cases s with
         | nil => exact absurd rfl hs
         | cons y l => simp at e2; subst e2; rfl
       · rw [decide_eq_false h2]; rfl
     · rintro ⟨_, hl⟩
       rw [← hu]
       exact z11j s.length s rfl hb hs h1 hl
   all_goals exact (hbad fun u hu => by rw [hp] at hu; cases hu).symm
end Go.Proofs.YtomgkgngbpnngaaGreatDoor
set_option maxRecDepth 100000
set_option linter.unusedVariables false
noncomputable section
namespace Go.Proofs.YtomgkgngbpnngaaGreatDoor
open Go.Tm Go.Ab
def zoa : Env := ⟨[], [], []⟩
theorem zlq : EnvsOK Tryz.prog zoa := ⟨z1m _, z1c _, z1a _⟩
def ze0 : Shp := ⟨1, 0, [(0, .fn 30 [.pt 0 (.one .leaf) []])], [.var 22 (.d (.sl .str))]⟩
def zfq : XS := .one .ret ze0.xe
theorem zkn : zfq.OK := XS.one_ok (z0c ze0)
def zd4 (t0 : List (List Int)) : Option (((List (List Int)))) :=
 some t0
def zfp : Sig := ⟨20, [.d (.sl .str)], [], 0, zfq⟩
def zez (x : (List (List Int))) : Option (((List (List Int)))) := zd4 x
theorem zm7 : FnOK Tryz.prog zfp zez :=
 fn_ok zlq (h := .no) Tryz.func20 (z0u [] (by kernel_rfl) trivial) (by kernel_rfl) zkn (fun x => by kernel_rfl)
def zci : Env := ⟨[], [], []⟩
theorem zbg : EnvsOK Tryz.prog zci := ⟨z1m _, z1c _, z1a _⟩
def z6f : Shp := ⟨1, 0, [(0, .d .bool)], []⟩
def z7a : XS := .one .ret z6f.xe
theorem zba : z7a.OK := XS.one_ok (z0c z6f)
def z5a (t0 : List Int) (t1 : List Int) : Option ((Bool)) :=
 z0j (List.length t0) (
 z0j (List.length t1) (
 bif leI (List.length t1 : Nat) (List.length t0 : Nat) then
 z0j (List.length t1) (
 bif subOk 0 (List.length t1 : Nat) (List.length t0) then
 some (eqS (subL t0 0 (List.length t1 : Nat)) t1)
 else none)
 else
 some false))
def z6r : Sig := ⟨41, [.d .str, .d .str], [], 0, z7a⟩
def z6l (x : (List Int) × (List Int)) : Option ((Bool)) := z5a x.1 x.2
theorem zbr : FnOK Tryz.prog z6r z6l :=
 fn_ok zbg (h := .no) Tryz.func41 (z0u [] (by kernel_rfl) trivial) (by kernel_rfl) zba (fun x => by kernel_rfl)
def zlr : Env := ⟨[(entQ z6r z6l)], [], []⟩
theorem zjy : EnvsOK Tryz.prog zlr := ⟨z0n (z0x zbr) (z1m _), z1c _, z1a _⟩
def zcn : Shp := ⟨1, 0, [(0, .d .bool)], []⟩
def zdz : XS := .one .ret zcn.xe
theorem zik : zdz.OK := XS.one_ok (z0c zcn)
def z8t (t0 : List Int) (t1 : List Int) : Option ((Bool)) :=
 (z5a t0 t1).bind fun r =>
 some r
def zdw : Sig := ⟨31, [.d .str, .d .str], [], 0, zdz⟩
def zd6 (x : (List Int) × (List Int)) : Option ((Bool)) := z8t x.1 x.2
theorem zkv : FnOK Tryz.prog zdw zd6 :=
 fn_ok zjy (h := .no) Tryz.func31 (z0u [] (by kernel_rfl) trivial) (by kernel_rfl) zik (fun x => by kernel_rfl)
def z5r : Ent := zpt 98
theorem za7 : EntOK Tryz.prog z5r := zxb Tryz.func98 (by kernel_rfl) (by kernel_rfl) (by kernel_rfl) (by kernel_rfl)
def zc6 : Env := ⟨[z5r], [], []⟩
theorem zbh : EnvsOK Tryz.prog zc6 := ⟨z0n za7 (z1m _), z1c _, z1a _⟩
def z6g : Shp := ⟨1, 0, [(0, .d (.int .i64))], []⟩
def z6u : XS := .one .ret z6g.xe
theorem zb7 : z6u.OK := XS.one_ok (z0c z6g)
def z3f (t0 : List Int) (c : Int) : Option ((Int)) :=
 z0j (List.length t0) (
 some (zix t0 c))
def z6w : Sig := ⟨82, [.d .str, .d (.int .u8)], [], 0, z6u⟩
def z6m (x : (List Int) × Int) : Option ((Int)) := z3f x.1 x.2
theorem zbw : FnOK Tryz.prog z6w z6m :=
 fn_ok zbh (h := .no) Tryz.func82 (z0u [] (by kernel_rfl) trivial) (by kernel_rfl) zb7 (fun x => by kernel_rfl)
def zef : Env := ⟨[(entQ z6w z6m)], [], []⟩
theorem zde : EnvsOK Tryz.prog zef := ⟨z0n (z0x zbw) (z1m _), z1c _, z1a _⟩
def z5p : Shp := ⟨143, 0, [(0, .d .str), (1, .d .str), (5, .d (.int .i64)), (16, .d .bool)], []⟩
def z3x : XS := .one .normal z5p.xe
theorem za8 : z3x.OK := XS.one_ok (z0c z5p)
def z8d : Shp := ⟨1, 0, [(0, .d (.int .i64))], []⟩
def z9c : XS := .one .ret z8d.xe
theorem zcx : z9c.OK := XS.one_ok (z0c z8d)
def z4p (t0 : List Int) (substr : List Int) : Option ((Int)) :=
 z0j (List.length substr) (
 (show Option (((List Int) × (List Int) × Int × Bool)) from
 bif eqI (List.length substr : Nat) 0 then
 some (t0, substr, (List.length substr : Nat), true)
 else
 some (t0, substr, (List.length substr : Nat), eqS substr t0)).bind fun j =>
 bif j.2.2.2 then
 some 0
 else
 bif eqI j.2.2.1 1 then
 (idxI j.2.1 0).bind fun x =>
 (z3f j.1 x).bind fun r =>
 some r
 else
 z0j (List.length j.1) (
 bif leI (List.length j.1 : Nat) j.2.2.1 then
 some (-1)
 else
 none))
def z9a : Sig := ⟨75, [.d .str, .d .str], [], 0, z9c⟩
def z8q (x : (List Int) × (List Int)) : Option ((Int)) := z4p x.1 x.2
theorem zdu : FnOK Tryz.prog z9a z8q :=
 fn_ok zde (h := (.two .no (.two .no (.two (.join (fun _ => z3x) .no .no) .no)))) Tryz.func75 (z0u [.xs (fun _ => z3x)] (by kernel_rfl) ⟨(zsl za8), trivial⟩) (by kernel_rfl) zcx (fun x => by kernel_rfl)
def zfm : Env := ⟨[(entQ z9a z8q)], [], []⟩
theorem zee : EnvsOK Tryz.prog zfm := ⟨z0n (z0x zdu) (z1m _), z1c _, z1a _⟩
def z9e : Shp := ⟨1, 0, [(0, .tu [.d .str, .d .str, .d .bool])], []⟩
def z9w : XS := .one .ret z9e.xe
theorem zdt : z9w.OK := XS.one_ok (z0c z9e)
def z4x (t0 : List Int) (sep : List Int) : Option (((List Int) × (List Int) × Bool)) :=
 (z4p t0 sep).bind fun r =>
 bif leI 0 r then
 bif subOk 0 r (List.length t0) then
 z0j (List.length sep) (
 bif subOk (W64 (r + (List.length sep : Nat))) (List.length t0 : Nat) (List.length t0) then
 some ((subL t0 0 r, subL t0 (W64 (r + (List.length sep : Nat))) (List.length t0 : Nat), true))
 else none)
 else none
 else
 some (t0, ([] : List Int), false)
def z9x : Sig := ⟨61, [.d .str, .d .str], [], 0, z9w⟩
def z9k (x : (List Int) × (List Int)) : Option (((List Int) × (List Int) × Bool)) := z4x x.1 x.2
theorem zf6 : FnOK Tryz.prog z9x z9k :=
 fn_ok zee (h := .no) Tryz.func61 (z0u [] (by kernel_rfl) trivial) (by kernel_rfl) zdt (fun x => by kernel_rfl)
def zu4 : Env := ⟨[(entQ z9x z9k)], [], []⟩
theorem zrj : EnvsOK Tryz.prog zu4 := ⟨z0n (z0x zf6) (z1m _), z1c _, z1a _⟩
def zig : Shp := ⟨1, 0, [(0, .tu [.d .str, .d .str, .d .bool])], []⟩
def zl6 : XS := .one .ret zig.xe
theorem zpi : zl6.OK := XS.one_ok (z0c zig)
def zc1 (t0 : List Int) (sep : List Int) : Option (((List Int) × (List Int) × Bool)) :=
 (z4x t0 sep).bind fun r =>
 some (r.1, r.2.1, r.2.2)
def zlo : Sig := ⟨43, [.d .str, .d .str], [], 0, zl6⟩
def zja (x : (List Int) × (List Int)) : Option (((List Int) × (List Int) × Bool)) := zc1 x.1 x.2
theorem zsd : FnOK Tryz.prog zlo zja :=
 fn_ok zrj (h := .no) Tryz.func43 (z0u [] (by kernel_rfl) trivial) (by kernel_rfl) zpi (fun x => by kernel_rfl)
def zxt : Env := ⟨[(entQ zlo zja), (entQ zrp zof), (entQ zn8 zla)], [], []⟩
theorem zub : EnvsOK Tryz.prog zxt := ⟨z0n (z0x zsd) (z0n (z0x zxe) (z0n (z0x zty) (z1m _))), z1c _, z1a _⟩
def zlj : Shp := ⟨1, 0, [(0, .d .bool)], []⟩
def zoo : XS := .one .ret zlj.xe
theorem zs8 : zoo.OK := XS.one_ok (z0c zlj)
def zib (t0 : List Int) : Option ((Bool)) :=
 bif eqS t0 ([108, 111, 115, 116, 43, 102, 111, 117, 110, 100] : List Int) then
 some true
 else
 (zc1 t0 ([126] : List Int)).bind fun r =>
 (zl1 r.1).bind fun r2 =>
 bif !r2 then
 some false
 else
 (zc1 r.2.1 ([46] : List Int)).bind fun r3 =>
 bif !r.2.2 then
 some true
 else
 bif r3.2.2 then
 (zdf r3.1).bind fun r4 =>
 bif r4 then
 (zdf r3.2.1).bind fun r5 =>
 some r5
 else
 some false
 else
 some false
def zp1 : Sig := ⟨33, [.d .str], [], 0, zoo⟩
def zlx (x : (List Int)) : Option ((Bool)) := zib x
theorem zwh : FnOK Tryz.prog zp1 zlx :=
 fn_ok zub (h := .no) Tryz.func33 (z0u [] (by kernel_rfl) trivial) (by kernel_rfl) zs8 (fun x => by kernel_rfl)
def zvm : Env := ⟨[(entQ zdw zd6), (entQ zoy zml), (entQ zp1 zlx)], [], []⟩
theorem zjo : EnvsOK Tryz.prog zvm := ⟨z0n (z0x zkv) (z0n (z0x zwd) (z0n (z0x zwh) (z1m _))), z1c _, z1a _⟩
def z7p : Shp := ⟨34, 0, [(4, .d (.sl .str))], []⟩
def z8c : Shp := ⟨34, 0, [(2, .d (.sl .str)), (3, .d (.int .i64))], []⟩
def z2k : XS := .or (.exit 0) z7p.xe (.one .ret z8c.xe)
theorem zcy : z2k.OK := XS.or_ok (z0c z7p) (XS.one_ok (z0c z8c))
def z2i : Shp := ⟨34, 0, [(4, .d (.sl .str)), (23, .d (.sl .str)), (24, .d (.int .i64)), (25, .d (.int .i64))], []⟩
abbrev z5i := (List (List Int)) × (List (List Int)) × Int × Int
abbrev z8y := ((List (List Int))) ⊕ ((List (List Int)) × Int)
def z5j (l : List (List Int)) (t23 : List (List Int)) (t24 : Int) (t25 : Int) : Option (z5i ⊕ z8y) :=
 bif ltI t25 t24 then
 (idxI t23 t25).bind fun x =>
 (zib x).bind fun r =>
 bif !r then
 some (.inr (.inr ([], 20)))
 else
 some (.inl (l, t23, t24, W64 (t25 + 1)))
 else
 some (.inr (.inl l))
def z0r (s : z5i) : Option (z5i ⊕ z8y) := z5j s.1 s.2.1 s.2.2.1 s.2.2.2
theorem zd2 : SoundD Tryz.prog (.loop (subC (bodyC Tryz.f21) [1, 1, 1, 1, 1, 0, 1, 0, 0])) (loopD z2i.xe z2k (loopC z0r)) :=
 z3v (S := z2i.xe) (X := z2k) zjo (h := .no) (z0u [] (by kernel_rfl) trivial) (z0c z2i) zcy z0r (fun s => by kernel_rfl)
def zjw : Shp := ⟨1, 0, [(0, .tu [.d (.sl .str), .d (.int .i64)])], []⟩
def zm3 : XS := .one .ret zjw.xe
theorem zro : zm3.OK := XS.one_ok (z0c zjw)
def zb3 (t0 : List Int) : Option (((List (List Int)) × Int)) :=
 z0j (List.length t0) (
 bif ltI 120 (List.length t0 : Nat) then
 some ([], 20)
 else
 (z8t t0 ([47] : List Int)).bind fun r =>
 bif !r then
 some ([], 20)
 else
 bif eqS t0 ([47] : List Int) then
 some ([], 0)
 else
 bif subOk 1 (List.length t0 : Nat) (List.length t0) then
 (zcs (subL t0 1 (List.length t0 : Nat)) ([47] : List Int)).bind fun r2 =>
 z0j (List.length r2) (
 bif ltI 10 (List.length r2 : Nat) then
 some ([], 20)
 else
 z0j (List.length r2) (
 (loopC z0r (r2, r2, (List.length r2 : Nat), 0)).bind fun o =>
 Sum.elim (fun y =>
 some (y, 0)) (fun y2 =>
 some (y2.1, y2.2)) o))
 else none)
def zhp : Sig := ⟨21, [.d .str], [], 0, zm3⟩
def zfo (x : (List Int)) : Option (((List (List Int)) × Int)) := zb3 x
theorem zlp : FnOK Tryz.prog zhp zfo :=
 fn_ok zjo (h := (.two .no (.two .no (.two .no (.two .no (.two .no (.two (.two .no (.over (loopD z2i.xe z2k (loopC z0r)))) .no))))))) Tryz.func21 (z0u [.den (.loop (subC (bodyC Tryz.f21) [1, 1, 1, 1, 1, 0, 1, 0, 0])) (loopD z2i.xe z2k (loopC z0r))] (by kernel_rfl) ⟨zd2, trivial⟩) (by kernel_rfl) zro (fun x => by kernel_rfl)
def zu9 : Env := ⟨[(entQ zhp zfo)], [], []⟩
theorem zhw : EnvsOK Tryz.prog zu9 := ⟨z0n (z0x zlp) (z1m _), z1c _, z1a _⟩
def z8p : Shp := ⟨48, 0, [], []⟩
def z8s : Shp := ⟨48, 0, [(4, .d .bool)], []⟩
def z2q : XS := .or (.exit 0) z8p.xe (.one .ret z8s.xe)
theorem zdp : z2q.OK := XS.or_ok (z0c z8p) (XS.one_ok (z0c z8s))
def z2r : Shp := ⟨48, 0, [(5, .d (.sl .str)), (34, .d (.sl .str)), (35, .d (.int .i64)), (36, .d (.int .i64))], []⟩
abbrev z5w := (List (List Int)) × (List (List Int)) × Int × Int
abbrev z9l := (Unit) ⊕ (Bool)
def z5t (a : List (List Int)) (t34 : List (List Int)) (t35 : Int) (t36 : Int) : Option (z5w ⊕ z9l) :=
 bif ltI t36 t35 then
 (idxI t34 t36).bind fun x =>
 (idxI a t36).bind fun x2 =>
 bif !(eqS x2 x) then
 some (.inr (.inr false))
 else
 some (.inl (a, t34, t35, W64 (t36 + 1)))
 else
 some (.inr (.inl ()))
def z0v (s : z5w) : Option (z5w ⊕ z9l) := z5t s.1 s.2.1 s.2.2.1 s.2.2.2
theorem zdv : SoundD Tryz.prog (.loop (subC (bodyC Tryz.f22) [1, 1, 1, 1, 0, 1, 0, 0])) (loopD z2r.xe z2q (loopC z0v)) :=
 z3v (S := z2r.xe) (X := z2q) zhw (h := .no) (z0u [] (by kernel_rfl) trivial) (z0c z2r) zdp z0v (fun s => by kernel_rfl)
def zi5 : Shp := ⟨1, 0, [(0, .d .bool)], []⟩
def zld : XS := .one .ret zi5.xe
theorem zpx : zld.OK := XS.one_ok (z0c zi5)
def za5 (t0 : List Int) (top : List Int) : Option ((Bool)) :=
 (zb3 t0).bind fun r =>
 (zb3 top).bind fun r2 =>
 bif neI r.2 0 then
 some false
 else
 bif neI r2.2 0 then
 some false
 else
 z0j (List.length r.1) (
 z0j (List.length r2.1) (
 bif ltI (List.length r.1 : Nat) (List.length r2.1 : Nat) then
 some false
 else
 z0j (List.length r2.1) (
 (loopC z0v (r.1, r2.1, (List.length r2.1 : Nat), 0)).bind fun o =>
 Sum.elim (fun y =>
 some true) (fun y2 =>
 some y2) o)))
def zc4 : Sig := ⟨22, [.d .str, .d .str], [], 0, zld⟩
def zb4 (x : (List Int) × (List Int)) : Option ((Bool)) := za5 x.1 x.2
theorem zeh : FnOK Tryz.prog zc4 zb4 :=
 fn_ok zhw (h := (.two .no (.two .no (.two .no (.two .no (.two (.two .no (.over (loopD z2r.xe z2q (loopC z0v)))) .no)))))) Tryz.func22 (z0u [.den (.loop (subC (bodyC Tryz.f22) [1, 1, 1, 1, 0, 1, 0, 0])) (loopD z2r.xe z2q (loopC z0v))] (by kernel_rfl) ⟨zdv, trivial⟩) (by kernel_rfl) zpx (fun x => by kernel_rfl)
def zsn : Env := ⟨[(entQ zhp zfo), (entQ zc4 zb4)], [(entP zfp zez), (entP zno zl7), (entP zlb zji)], []⟩
theorem zca : EnvsOK Tryz.prog zsn := ⟨z0n (z0x zlp) (z0n (z0x zeh) (z1m _)), zng (zs7 zm7) (zng (zs7 zu7) (zng (zs7 zry) (z1c _))), z1a _⟩
def z2t : Shp := ⟨54, 0, [(4, .d (.sl .str)), (5, .wn 0 .str), (16, .d (.sl .str)), (17, .d (.int .i64)), (18, .d (.int .i64)), (40, .d .str), (41, .d .str), (42, .d .bool)], [.row 9 .str]⟩
def z2v : Shp := ⟨54, 0, [(4, .d (.sl .str)), (5, .wn 0 .str), (7, .d .str), (16, .d (.sl .str)), (17, .d (.int .i64)), (18, .d (.int .i64))], [.row 9 .str]⟩
def z0l : XS := .or (.exit 1) z2t.xe (.one (.exit 2) z2v.xe)
theorem z5x : z0l.OK := XS.or_ok (z0c z2t) (XS.one_ok (z0c z2v))
def z0k : Shp := ⟨54, 0, [(4, .d (.sl .str)), (5, .wn 0 .str), (7, .d .str), (16, .d (.sl .str)), (17, .d (.int .i64)), (18, .d (.int .i64)), (30, .d (.sl .str)), (31, .d (.int .i64)), (32, .d (.int .i64))], [.row 9 .str]⟩
abbrev z1k := (List (List Int)) × (List Int) × (List (List Int)) × Int × Int × (List (List Int)) × Int × Int × (List (List Int))
abbrev z1j := ((List (List Int)) × (List (List Int)) × Int × Int × (List Int) × (List Int) × Bool × (List (List Int))) ⊕ ((List (List Int)) × (List Int) × (List (List Int)) × Int × Int × (List (List Int)))
def z1i (sorted : List (List Int)) (t7 : List Int) (t16 : List (List Int)) (t17 : Int) (t18 : Int) (t30 : List (List Int)) (t31 : Int) (t32 : Int) (out : List (List Int)) : Option (z1k ⊕ z1j) :=
 bif ltI t32 t31 then
 (idxI t30 t32).bind fun x =>
 bif !(eqS x t7) then
 (za5 t7 x).bind fun r =>
 bif r then
 bif Nat.beq (List.length out) (List.length out) then
 some (.inr (.inl (sorted, t16, t17, t18, t7, x, r, out)))
 else none
 else
 bif Nat.beq (List.length out) (List.length out) then
 some (.inl (sorted, t7, t16, t17, t18, t30, t31, W64 (t32 + 1), out))
 else none
 else
 bif Nat.beq (List.length out) (List.length out) then
 some (.inl (sorted, t7, t16, t17, t18, t30, t31, W64 (t32 + 1), out))
 else none
 else
 bif Nat.beq (List.length out) (List.length out) then
 some (.inr (.inr (sorted, t7, t16, t17, t18, out)))
 else none
def z0a (s : z1k) : Option (z1k ⊕ z1j) := z1i s.1 s.2.1 s.2.2.1 s.2.2.2.1 s.2.2.2.2.1 s.2.2.2.2.2.1 s.2.2.2.2.2.2.1 s.2.2.2.2.2.2.2.1 s.2.2.2.2.2.2.2.2
theorem z6b : SoundD Tryz.prog (.loop (subC (bodyC Tryz.f8) [1, 0, 1, 1, 1, 0, 1, 0, 0, 1, 1, 0, 0, 1, 1, 0, 1, 0, 0])) (loopD z0k.xe z0l (loopC z0a)) :=
 z3v (S := z0k.xe) (X := z0l) zca (h := .no) (z0u [] (by kernel_rfl) trivial) (z0c z0k) z5x z0a (fun s => by kernel_rfl)
def z6t : Shp := ⟨54, 0, [(5, .wn 0 .str)], [.row 9 .str]⟩
def z6s : Shp := ⟨54, 0, [(2, .d (.sl .str)), (3, .d (.int .i64))], []⟩
def z1v : XS := .or (.exit 0) z6t.xe (.one .ret z6s.xe)
theorem zbl : z1v.OK := XS.or_ok (z0c z6t) (XS.one_ok (z0c z6s))
def z1z : Shp := ⟨54, 0, [(4, .d (.sl .str)), (5, .wn 0 .str), (16, .d (.sl .str)), (17, .d (.int .i64)), (18, .d (.int .i64))], [.row 9 .str]⟩
abbrev z4w := (List (List Int)) × (List (List Int)) × Int × Int × (List (List Int))
abbrev z0w := ((List (List Int))) ⊕ ((List (List Int)) × Int)
def z2a (sorted : List (List Int)) (t16 : List (List Int)) (t17 : Int) (t18 : Int) (out : List (List Int)) : Option (z4w ⊕ z0w) :=
 bif ltI t18 t17 then
 (idxI t16 t18).bind fun x =>
 (zb3 x).bind fun r =>
 bif neI r.2 0 then
 some (.inr (.inr ([], r.2)))
 else
 z0j (List.length sorted) (
 bif Nat.beq (List.length out) (List.length out) then
 (loopC z0a (sorted, x, t16, t17, t18, sorted, (List.length sorted : Nat), 0, out)).bind fun o =>
 Sum.elim (fun y =>
 bif Nat.beq (List.length y.2.2.2.2.2.2.2) (List.length y.2.2.2.2.2.2.2) then
 some (.inl (y.1, y.2.1, y.2.2.1, W64 (y.2.2.2.1 + 1), y.2.2.2.2.2.2.2))
 else none) (fun y2 =>
 bif Nat.beq (List.length y2.2.2.2.2.2) (List.length y2.2.2.2.2.2) then
 appG (List.length y2.2.2.2.2.2) (List.length ([y2.2.1] : List (List Int))) 16 fun _ =>
 bif Nat.beq (List.length (y2.2.2.2.2.2 ++ ([y2.2.1] : List (List Int)))) (List.length (y2.2.2.2.2.2 ++ ([y2.2.1] : List (List Int)))) then
 some (.inl (y2.1, y2.2.2.1, y2.2.2.2.1, W64 (y2.2.2.2.2.1 + 1), y2.2.2.2.2.2 ++ ([y2.2.1] : List (List Int))))
 else none
 else none) o
 else none)
 else
 bif Nat.beq (List.length out) (List.length out) then
 some (.inr (.inl out))
 else none
def z0g (s : z4w) : Option (z4w ⊕ z0w) := z2a s.1 s.2.1 s.2.2.1 s.2.2.2.1 s.2.2.2.2
theorem zcf : SoundD Tryz.prog (.loop (subC (bodyC Tryz.f8) [1, 0, 1, 1, 1, 0, 1, 0, 0])) (loopD z1z.xe z1v (loopC z0g)) :=
 z3v (S := z1z.xe) (X := z1v) zca (h := (.two .no (.two .no (.two (.two .no (.two .no (.two (.two .no (.over (loopD z0k.xe z0l (loopC z0a)))) .no))) .no)))) (z0u [.den (.loop (subC (bodyC Tryz.f8) [1, 0, 1, 1, 1, 0, 1, 0, 0, 1, 1, 0, 0, 1, 1, 0, 1, 0, 0])) (loopD z0k.xe z0l (loopC z0a))] (by kernel_rfl) ⟨z6b, trivial⟩) (z0c z1z) zbl z0g (fun s => by kernel_rfl)
def zh4 : Shp := ⟨1, 0, [(0, .tu [.d (.sl .str), .d (.int .i64)])], []⟩
def zjh : XS := .one .ret zh4.xe
theorem zod : zjh.OK := XS.one_ok (z0c zh4)
def zda (l : List (List Int)) : Option (((List (List Int)) × Int)) :=
 (zd4 l).bind fun r =>
 (zga r).bind fun r2 =>
 bif Nat.beq (List.length r2.2) (List.length r2.2) then
 (zer r2.2).bind fun r3 =>
 z0j (List.length r3) (
 bif Nat.beq 0 (List.length ([] : List (List Int))) then
 (loopC z0g (r3, r3, (List.length r3 : Nat), 0, ([] : List (List Int)))).bind fun o =>
 Sum.elim (fun y =>
 z0j (List.length y) (
 bif ltI 8 (List.length y : Nat) then
 some ([], 4)
 else
 winK y 0 (List.length y) fun w =>
 some (w, 0))) (fun y2 =>
 some (y2.1, y2.2)) o
 else none)
 else none
def zjs : Sig := ⟨8, [.d (.sl .str)], [], 0, zjh⟩
def zi4 (x : (List (List Int))) : Option (((List (List Int)) × Int)) := zda x
theorem zq9 : FnOK Tryz.prog zjs zi4 :=
 fn_ok zca (h := (.two .no (.two .no (.two .no (.two .no (.two (.two .no (.over (loopD z1z.xe z1v (loopC z0g)))) .no)))))) Tryz.func8 (z0u [.den (.loop (subC (bodyC Tryz.f8) [1, 0, 1, 1, 1, 0, 1, 0, 0])) (loopD z1z.xe z1v (loopC z0g))] (by kernel_rfl) ⟨zcf, trivial⟩) (by kernel_rfl) zod (fun x => by kernel_rfl)
def zrx : Env := ⟨[(entQ zc4 zb4)], [], []⟩
theorem zps : EnvsOK Tryz.prog zrx := ⟨z0n (z0x zeh) (z1m _), z1c _, z1a _⟩
def zh9 : Shp := ⟨1, 0, [(0, .d .bool)], []⟩
def zjm : XS := .one .ret zh9.xe
theorem zoc : zjm.OK := XS.one_ok (z0c zh9)
def zhn (t0 : List Int) (t1 : List Int) : Option ((Bool)) :=
 (za5 t1 t0).bind fun r =>
 some r
def zj5 : Sig := ⟨24, [.d .str, .rf (.d .str)], [], 0, zjm⟩
def zhv (x : (List Int) × (List Int)) : Option ((Bool)) := zhn x.1 x.2
theorem zrh : FnOK Tryz.prog zj5 zhv :=
 fn_ok zps (h := .no) Tryz.func24 (z0u [] (by kernel_rfl) trivial) (by kernel_rfl) zoc (fun x => by kernel_rfl)
def zm1 : Env := ⟨[(entQ zj5 zhv)], [], []⟩
theorem zd9 : EnvsOK Tryz.prog zm1 := ⟨z0n (z0x zrh) (z1m _), z1c _, z1a _⟩
def z9d : Shp := ⟨19, 0, [], []⟩
def z8v : Shp := ⟨19, 0, [(4, .d (.int .i64))], []⟩
def z2w : XS := .or (.exit 0) z9d.xe (.one .ret z8v.xe)
theorem zds : z2w.OK := XS.or_ok (z0c z9d) (XS.one_ok (z0c z8v))
def z2u : Shp := ⟨19, 0, [(0, .d (.sl .str)), (1, .fn 24 [.rf (.d .str)]), (7, .d (.int .i64)), (8, .d (.int .i64))], []⟩
abbrev z6c := (List (List Int)) × (List Int) × Int × Int
abbrev z6e := (Unit) ⊕ (Int)
def z6d (t0 : List (List Int)) (f : List Int) (t7 : Int) (t8 : Int) : Option (z6c ⊕ z6e) :=
 bif ltI t8 t7 then
 (idxI t0 t8).bind fun x =>
 (zhn x f).bind fun r =>
 bif r then
 some (.inr (.inr t8))
 else
 some (.inl (t0, f, t7, W64 (t8 + 1)))
 else
 some (.inr (.inl ()))
def z0y (s : z6c) : Option (z6c ⊕ z6e) := z6d s.1 s.2.1 s.2.2.1 s.2.2.2
theorem ze5 : SoundD Tryz.prog (.loop (subC (bodyC Tryz.f34) [1, 0, 1, 0, 0])) (loopD z2u.xe z2w (loopC z0y)) :=
 z3v (S := z2u.xe) (X := z2w) zd9 (h := .no) (z0u [] (by kernel_rfl) trivial) (z0c z2u) zds z0y (fun s => by kernel_rfl)
def zdo : Shp := ⟨1, 0, [(0, .d (.int .i64))], []⟩
def zf3 : XS := .one .ret zdo.xe
theorem ziu : zf3.OK := XS.one_ok (z0c zdo)
def zc5 (t0 : List (List Int)) (f : List Int) : Option ((Int)) :=
 z0j (List.length t0) (
 (loopC z0y (t0, f, (List.length t0 : Nat), 0)).bind fun o =>
 Sum.elim (fun y =>
 some (-1)) (fun y2 =>
 some y2) o)
def zf0 : Sig := ⟨34, [.d (.sl .str), .fn 24 [.rf (.d .str)]], [], 0, zf3⟩
def zdx (x : (List (List Int)) × (List Int)) : Option ((Int)) := zc5 x.1 x.2
theorem zlt : FnOK Tryz.prog zf0 zdx :=
 fn_ok zd9 (h := (.two .no (.two (.two .no (.over (loopD z2u.xe z2w (loopC z0y)))) .no))) Tryz.func34 (z0u [.den (.loop (subC (bodyC Tryz.f34) [1, 0, 1, 0, 0])) (loopD z2u.xe z2w (loopC z0y))] (by kernel_rfl) ⟨ze5, trivial⟩) (by kernel_rfl) ziu (fun x => by kernel_rfl)
def zjk : Env := ⟨[(entQ zf0 zdx)], [], []⟩
theorem zhr : EnvsOK Tryz.prog zjk := ⟨z0n (z0x zlt) (z1m _), z1c _, z1a _⟩
def zbf : Shp := ⟨1, 0, [(0, .d .bool)], []⟩
def zcp : XS := .one .ret zbf.xe
theorem zh0 : zcp.OK := XS.one_ok (z0c zbf)
def z7c (t0 : List (List Int)) (f : List Int) : Option ((Bool)) :=
 (zc5 t0 f).bind fun r =>
 some (leI 0 r)
def zck : Sig := ⟨23, [.d (.sl .str), .fn 24 [.rf (.d .str)]], [], 0, zcp⟩
def zbn (x : (List (List Int)) × (List Int)) : Option ((Bool)) := z7c x.1 x.2
theorem ziq : FnOK Tryz.prog zck zbn :=
 fn_ok zhr (h := .no) Tryz.func23 (z0u [] (by kernel_rfl) trivial) (by kernel_rfl) zh0 (fun x => by kernel_rfl)
def zvr : Env := ⟨[(entQ zck zbn)], [], []⟩
theorem zrw : EnvsOK Tryz.prog zvr := ⟨z0n (z0x ziq) (z1m _), z1c _, z1a _⟩
def zjj : Shp := ⟨1, 0, [(0, .d .bool)], []⟩
def zn0 : XS := .one .ret zjj.xe
theorem zqn : zn0.OK := XS.one_ok (z0c zjj)
def zd0 (l : List (List Int)) (t1 : List Int) : Option ((Bool)) :=
 z0j (List.length l) (
 bif eqI (List.length l : Nat) 0 then
 some true
 else
 (z7c l t1).bind fun r =>
 some r)
def zh5 : Sig := ⟨9, [.d (.sl .str), .d .str], [], 0, zn0⟩
def zfh (x : (List (List Int)) × (List Int)) : Option ((Bool)) := zd0 x.1 x.2
theorem zlm : FnOK Tryz.prog zh5 zfh :=
 fn_ok zrw (h := .no) Tryz.func9 (z0u [] (by kernel_rfl) trivial) (by kernel_rfl) zqn (fun x => by kernel_rfl)
def zpm : Env := ⟨[(entQ zc4 zb4)], [], []⟩
theorem znf : EnvsOK Tryz.prog zpm := ⟨z0n (z0x zeh) (z1m _), z1c _, z1a _⟩
def zf9 : Shp := ⟨1, 0, [(0, .d .bool)], []⟩
def zhl : XS := .one .ret zf9.xe
theorem zlu : zhl.OK := XS.one_ok (z0c zf9)
def zed (t0 : List Int) (t1 : List Int) : Option ((Bool)) :=
 (za5 t0 t1).bind fun r =>
 some r
def zh6 : Sig := ⟨25, [.d .str, .rf (.d .str)], [], 0, zhl⟩
def zfs (x : (List Int) × (List Int)) : Option ((Bool)) := zed x.1 x.2
theorem zob : FnOK Tryz.prog zh6 zfs :=
 fn_ok znf (h := .no) Tryz.func25 (z0u [] (by kernel_rfl) trivial) (by kernel_rfl) zlu (fun x => by kernel_rfl)
def zkx : Env := ⟨[(entQ zh6 zfs)], [], []⟩
theorem zbj : EnvsOK Tryz.prog zkx := ⟨z0n (z0x zob) (z1m _), z1c _, z1a _⟩
def z7s : Shp := ⟨19, 0, [], []⟩
def z7u : Shp := ⟨19, 0, [(4, .d (.int .i64))], []⟩
def z2o : XS := .or (.exit 0) z7s.xe (.one .ret z7u.xe)
theorem zcw : z2o.OK := XS.or_ok (z0c z7s) (XS.one_ok (z0c z7u))
def z2n : Shp := ⟨19, 0, [(0, .d (.sl .str)), (1, .fn 25 [.rf (.d .str)]), (7, .d (.int .i64)), (8, .d (.int .i64))], []⟩
abbrev z5n := (List (List Int)) × (List Int) × Int × Int
abbrev z5m := (Unit) ⊕ (Int)
def z5k (t0 : List (List Int)) (f : List Int) (t7 : Int) (t8 : Int) : Option (z5n ⊕ z5m) :=
 bif ltI t8 t7 then
 (idxI t0 t8).bind fun x =>
 (zed x f).bind fun r =>
 bif r then
 some (.inr (.inr t8))
 else
 some (.inl (t0, f, t7, W64 (t8 + 1)))
 else
 some (.inr (.inl ()))
def z0s (s : z5n) : Option (z5n ⊕ z5m) := z5k s.1 s.2.1 s.2.2.1 s.2.2.2
theorem zdq : SoundD Tryz.prog (.loop (subC (bodyC Tryz.f34) [1, 0, 1, 0, 0])) (loopD z2n.xe z2o (loopC z0s)) :=
 z3v (S := z2n.xe) (X := z2o) zbj (h := .no) (z0u [] (by kernel_rfl) trivial) (z0c z2n) zcw z0s (fun s => by kernel_rfl)
def zbo : Shp := ⟨1, 0, [(0, .d (.int .i64))], []⟩
def zdb : XS := .one .ret zbo.xe
theorem zhs : zdb.OK := XS.one_ok (z0c zbo)
def zaq (t0 : List (List Int)) (f : List Int) : Option ((Int)) :=
 z0j (List.length t0) (
 (loopC z0s (t0, f, (List.length t0 : Nat), 0)).bind fun o =>
 Sum.elim (fun y =>
 some (-1)) (fun y2 =>
 some y2) o)
def zd5 : Sig := ⟨34, [.d (.sl .str), .fn 25 [.rf (.d .str)]], [], 0, zdb⟩
def zct (x : (List (List Int)) × (List Int)) : Option ((Int)) := zaq x.1 x.2
theorem zjl : FnOK Tryz.prog zd5 zct :=
 fn_ok zbj (h := (.two .no (.two (.two .no (.over (loopD z2n.xe z2o (loopC z0s)))) .no))) Tryz.func34 (z0u [.den (.loop (subC (bodyC Tryz.f34) [1, 0, 1, 0, 0])) (loopD z2n.xe z2o (loopC z0s))] (by kernel_rfl) ⟨zdq, trivial⟩) (by kernel_rfl) zhs (fun x => by kernel_rfl)
def zht : Env := ⟨[(entQ zd5 zct)], [], []⟩
theorem zg9 : EnvsOK Tryz.prog zht := ⟨z0n (z0x zjl) (z1m _), z1c _, z1a _⟩
def zaa : Shp := ⟨1, 0, [(0, .d .bool)], []⟩
def zbc : XS := .one .ret zaa.xe
theorem zfj : zbc.OK := XS.one_ok (z0c zaa)
def z5y (t0 : List (List Int)) (f : List Int) : Option ((Bool)) :=
 (zaq t0 f).bind fun r =>
 some (leI 0 r)
def zbe : Sig := ⟨23, [.d (.sl .str), .fn 25 [.rf (.d .str)]], [], 0, zbc⟩
def zae (x : (List (List Int)) × (List Int)) : Option ((Bool)) := z5y x.1 x.2
theorem zha : FnOK Tryz.prog zbe zae :=
 fn_ok zg9 (h := .no) Tryz.func23 (z0u [] (by kernel_rfl) trivial) (by kernel_rfl) zfj (fun x => by kernel_rfl)
def zrv : Env := ⟨[(entQ zh5 zfh), (entQ zbe zae)], [], []⟩
theorem zpe : EnvsOK Tryz.prog zrv := ⟨z0n (z0x zlm) (z0n (z0x zha) (z1m _)), z1c _, z1a _⟩
def zgy : Shp := ⟨1, 0, [(0, .d .bool)], []⟩
def zjq : XS := .one .ret zgy.xe
theorem zo6 : zjq.OK := XS.one_ok (z0c zgy)
def z9h (l : List (List Int)) (t1 : List Int) : Option ((Bool)) :=
 (zd0 l t1).bind fun r =>
 bif r then
 some true
 else
 (z5y l t1).bind fun r2 =>
 some r2
def zei : Sig := ⟨10, [.d (.sl .str), .d .str], [], 0, zjq⟩
def zcz (x : (List (List Int)) × (List Int)) : Option ((Bool)) := z9h x.1 x.2
theorem zhu : FnOK Tryz.prog zei zcz :=
 fn_ok zpe (h := .no) Tryz.func10 (z0u [] (by kernel_rfl) trivial) (by kernel_rfl) zo6 (fun x => by kernel_rfl)
def zu0 : Env := ⟨[(entQ zjs zi4), (entQ zh5 zfh), (entQ zei zcz)], [], []⟩
theorem zrg : EnvsOK Tryz.prog zu0 := ⟨z0n (z0x zq9) (z0n (z0x zlm) (z0n (z0x zhu) (z1m _))), z1c _, z1a _⟩
def zif : Shp := ⟨1, 0, [(0, .d .bool)], []⟩
def zll : XS := .one .ret zif.xe
theorem zq2 : zll.OK := XS.one_ok (z0c zif)
def z6o  : Option ((Bool)) :=
 (zda ([([47, 98] : List Int), ([47, 97, 47, 99] : List Int), ([47, 97] : List Int)] : List (List Int))).bind fun r =>
 bif eqI r.2 0 then
 z0j (List.length r.1) (
 bif eqI (List.length r.1 : Nat) 2 then
 (idxI r.1 0).bind fun x =>
 bif eqS x ([47, 97] : List Int) then
 (idxI r.1 1).bind fun x2 =>
 bif eqS x2 ([47, 98] : List Int) then
 (zd0 r.1 ([47, 97, 47, 120] : List Int)).bind fun r2 =>
 bif r2 then
 (z9h [] ([47] : List Int)).bind fun r3 =>
 some r3
 else
 some false
 else
 some false
 else
 some false
 else
 some false)
 else
 some false
def zl9 : Sig := ⟨6, [], [], 0, zll⟩
def ziy (x : Unit) : Option ((Bool)) := z6o 
theorem zse : FnOK Tryz.prog zl9 ziy :=
 fn_ok zrg (h := .no) Tryz.func6 (z0u [] (by kernel_rfl) trivial) (by kernel_rfl) zq2 (fun x => by kernel_rfl)
def zu1 : Env := ⟨[], [], []⟩
theorem zi7 : EnvsOK Tryz.prog zu1 := ⟨z1m _, z1c _, z1a _⟩
def zab : Shp := ⟨18, 0, [], []⟩
def za9 : Shp := ⟨18, 0, [(2, .d .bool)], []⟩
def z4a : XS := .or (.exit 0) zab.xe (.one .ret za9.xe)
theorem zfl : z4a.OK := XS.or_ok (z0c zab) (XS.one_ok (z0c za9))
def z4b : Shp := ⟨18, 0, [(8, .d (.sl .str)), (9, .d (.int .i64)), (10, .d (.int .i64))], []⟩
abbrev z7f := (List (List Int)) × Int × Int
abbrev zbd := (Unit) ⊕ (Bool)
def z7g (t8 : List (List Int)) (t9 : Int) (t10 : Int) : Option (z7f ⊕ zbd) :=
 bif ltI t10 t9 then
 (idxI t8 t10).bind fun x =>
 z0j (List.length x) (
 bif ltI 200 (List.length x : Nat) then
 some (.inr (.inr false))
 else
 some (.inl (t8, t9, W64 (t10 + 1))))
 else
 some (.inr (.inl ()))
def z1g (s : z7f) : Option (z7f ⊕ zbd) := z7g s.1 s.2.1 s.2.2
theorem zgh : SoundD Tryz.prog (.loop (subC (bodyC Tryz.f7) [1, 1, 0, 1, 0, 0])) (loopD z4b.xe z4a (loopC z1g)) :=
 z3v (S := z4b.xe) (X := z4a) zi7 (h := .no) (z0u [] (by kernel_rfl) trivial) (z0c z4b) zfl z1g (fun s => by kernel_rfl)
def zi9 : Shp := ⟨1, 0, [(0, .d .bool)], []⟩
def zlg : XS := .one .ret zi9.xe
theorem zpn : zlg.OK := XS.one_ok (z0c zi9)
def za6 (l : List (List Int)) : Option ((Bool)) :=
 z0j (List.length l) (
 bif ltI 20 (List.length l : Nat) then
 some false
 else
 z0j (List.length l) (
 (loopC z1g (l, (List.length l : Nat), 0)).bind fun o =>
 Sum.elim (fun y =>
 some true) (fun y2 =>
 some y2) o))
def zl4 : Sig := ⟨7, [.d (.sl .str)], [], 0, zlg⟩
def zj1 (x : (List (List Int))) : Option ((Bool)) := za6 x
theorem zs1 : FnOK Tryz.prog zl4 zj1 :=
 fn_ok zi7 (h := (.two .no (.two .no (.two (.two .no (.over (loopD z4b.xe z4a (loopC z1g)))) .no)))) Tryz.func7 (z0u [.den (.loop (subC (bodyC Tryz.f7) [1, 1, 0, 1, 0, 0])) (loopD z4b.xe z4a (loopC z1g))] (by kernel_rfl) ⟨zgh, trivial⟩) (by kernel_rfl) zpn (fun x => by kernel_rfl)
def zvu : Env := ⟨[], [], []⟩
theorem zj6 : EnvsOK Tryz.prog zvu := ⟨z1m _, z1c _, z1a _⟩
def z6k : Shp := ⟨72, 0, [(0, .d .str), (3, .d (.int .i64)), (4, .d (.int .u8)), (5, .d .bool), (6, .d .bool), (7, .d .bool)], []⟩
def z4s : XS := .one .normal z6k.xe
theorem zbi : z4s.OK := XS.one_ok (z0c z6k)
def zar : Shp := ⟨72, 0, [], []⟩
def zax : Shp := ⟨72, 0, [(2, .d .bool)], []⟩
def z4n : XS := .or (.exit 0) zar.xe (.one .ret zax.xe)
theorem zgb : z4n.OK := XS.or_ok (z0c zar) (XS.one_ok (z0c zax))
def z4k : Shp := ⟨72, 0, [(0, .d .str), (3, .d (.int .i64))], []⟩
abbrev z8m := (List Int) × Int
abbrev zbp := (Unit) ⊕ (Bool)
def z8g (t0 : List Int) (i : Int) : Option (z8m ⊕ zbp) :=
 z0j (List.length t0) (
 bif ltI i (List.length t0 : Nat) then
 (idxI t0 i).bind fun x =>
 (show Option (((List Int) × Int × Int × Bool × Bool × Bool)) from
 bif leI 97 x then
 bif leI 65 x then
 bif leI 48 x then
 some (t0, i, x, leI x 122, leI x 90, leI x 57)
 else
 some (t0, i, x, leI x 122, leI x 90, false)
 else
 bif leI 48 x then
 some (t0, i, x, leI x 122, false, leI x 57)
 else
 some (t0, i, x, leI x 122, false, false)
 else
 bif leI 65 x then
 bif leI 48 x then
 some (t0, i, x, false, leI x 90, leI x 57)
 else
 some (t0, i, x, false, leI x 90, false)
 else
 bif leI 48 x then
 some (t0, i, x, false, false, leI x 57)
 else
 some (t0, i, x, false, false, false)).bind fun j =>
 bif !j.2.2.2.1 then
 bif !j.2.2.2.2.1 then
 bif !j.2.2.2.2.2 then
 bif neI j.2.2.1 46 then
 bif neI j.2.2.1 95 then
 bif neI j.2.2.1 45 then
 some (.inr (.inr false))
 else
 some (.inl (j.1, W64 (j.2.1 + 1)))
 else
 some (.inl (j.1, W64 (j.2.1 + 1)))
 else
 some (.inl (j.1, W64 (j.2.1 + 1)))
 else
 some (.inl (j.1, W64 (j.2.1 + 1)))
 else
 some (.inl (j.1, W64 (j.2.1 + 1)))
 else
 some (.inl (j.1, W64 (j.2.1 + 1)))
 else
 some (.inr (.inl ())))
def z2d (s : z8m) : Option (z8m ⊕ zbp) := z8g s.1 s.2
theorem zhk : SoundD Tryz.prog (.loop (subC (bodyC Tryz.f35) [1, 1, 0, 1, 0, 0])) (loopD z4k.xe z4n (loopC z2d)) :=
 z3v (S := z4k.xe) (X := z4n) zj6 (h := (.two .no (.two (.two .no (.join (fun _ => z4s) .no .no)) .no))) (z0u [.xs (fun _ => z4s)] (by kernel_rfl) ⟨(zsl zbi), trivial⟩) (z0c z4k) zgb z2d (fun s => by kernel_rfl)
def zk4 : Shp := ⟨1, 0, [(0, .d .bool)], []⟩
def zmr : XS := .one .ret zk4.xe
theorem zrm : zmr.OK := XS.one_ok (z0c zk4)
def zd1 (t0 : List Int) : Option ((Bool)) :=
 bif eqS t0 ([] : List Int) then
 some false
 else
 z0j (List.length t0) (
 bif ltI 12 (List.length t0 : Nat) then
 some false
 else
 bif eqS t0 ([46] : List Int) then
 some false
 else
 bif eqS t0 ([46, 46] : List Int) then
 some false
 else
 (loopC z2d (t0, 0)).bind fun o =>
 Sum.elim (fun y =>
 some true) (fun y2 =>
 some y2) o)
def znd : Sig := ⟨35, [.d .str], [], 0, zmr⟩
def zl5 (x : (List Int)) : Option ((Bool)) := zd1 x
theorem zu2 : FnOK Tryz.prog znd zl5 :=
 fn_ok zj6 (h := (.two .no (.two .no (.two (.two .no (.over (loopD z4k.xe z4n (loopC z2d)))) .no)))) Tryz.func35 (z0u [.den (.loop (subC (bodyC Tryz.f35) [1, 1, 0, 1, 0, 0])) (loopD z4k.xe z4n (loopC z2d))] (by kernel_rfl) ⟨zhk, trivial⟩) (by kernel_rfl) zrm (fun x => by kernel_rfl)
def zs4 : Env := ⟨[], [], []⟩
theorem zhb : EnvsOK Tryz.prog zs4 := ⟨z1m _, z1c _, z1a _⟩
def zak : Shp := ⟨52, 0, [(1, .d (.int .i64)), (6, .d (.int .i64))], []⟩
def zb0 : Shp := ⟨52, 0, [(4, .d (.int .i64))], []⟩
def z4g : XS := .or (.exit 0) zak.xe (.one .ret zb0.xe)
theorem zfy : z4g.OK := XS.or_ok (z0c zak) (XS.one_ok (z0c zb0))
def z4j : Shp := ⟨52, 0, [(0, .d .str), (1, .d (.int .i64)), (5, .d (.int .i64)), (6, .d (.int .i64))], []⟩
abbrev z8i := (List Int) × Int × Int × Int
abbrev zbu := (Int × Int) ⊕ (Int)
def z8l (t0 : List Int) (t1 : Int) (n : Int) (t6 : Int) : Option (z8i ⊕ zbu) :=
 z0j (List.length t0) (
 bif ltI t6 (List.length t0 : Nat) then
 (idxI t0 t6).bind fun x =>
 bif leI 48 x then
 (idxI t0 t6).bind fun x2 =>
 bif leI x2 57 then
 (idxI t0 t6).bind fun x3 =>
 bif ltI 4294967295 (W64 ((W64 (10 * n)) + (W64 (WU8 (x3 - 48))))) then
 some (.inr (.inr (-1)))
 else
 bif ltI (W64 (t1 + 1)) (W64 (t6 + 1)) then
 (idxI t0 t1).bind fun x4 =>
 bif eqI x4 48 then
 some (.inr (.inr (-1)))
 else
 some (.inl ((t0, t1, W64 ((W64 (10 * n)) + (W64 (WU8 (x3 - 48)))), W64 (t6 + 1))))
 else
 some (.inl ((t0, t1, W64 ((W64 (10 * n)) + (W64 (WU8 (x3 - 48)))), W64 (t6 + 1))))
 else
 some (.inr (.inl (t1, t6)))
 else
 some (.inr (.inl (t1, t6)))
 else
 some (.inr (.inl (t1, t6))))
def z2b (s : z8i) : Option (z8i ⊕ zbu) := z8l s.1 s.2.1 s.2.2.1 s.2.2.2
theorem zhj : SoundD Tryz.prog (.loop (subC (bodyC Tryz.f36) [1, 1, 0, 0, 0])) (loopD z4j.xe z4g (loopC z2b)) :=
 z3v (S := z4j.xe) (X := z4g) zhb (h := .no) (z0u [] (by kernel_rfl) trivial) (z0c z4j) zfy z2b (fun s => by kernel_rfl)
def zhi : Shp := ⟨1, 0, [(0, .d (.int .i64))], []⟩
def zjb : XS := .one .ret zhi.xe
theorem zo9 : zjb.OK := XS.one_ok (z0c zhi)
def zao (t0 : List Int) (t1 : Int) : Option ((Int)) :=
 (loopC z2b (t0, t1, 0, t1)).bind fun o =>
 Sum.elim (fun y =>
 bif eqI y.2 y.1 then
 some (-1)
 else
 some y.2) (fun y2 =>
 some y2) o
def ziv : Sig := ⟨36, [.d .str, .d (.int .i64)], [], 0, zjb⟩
def zhy (x : (List Int) × Int) : Option ((Int)) := zao x.1 x.2
theorem zrn : FnOK Tryz.prog ziv zhy :=
 fn_ok zhb (h := (.two .no (.two .no (.two (.over (loopD z4j.xe z4g (loopC z2b))) .no)))) Tryz.func36 (z0u [.den (.loop (subC (bodyC Tryz.f36) [1, 1, 0, 0, 0])) (loopD z4j.xe z4g (loopC z2b))] (by kernel_rfl) ⟨zhj, trivial⟩) (by kernel_rfl) zo9 (fun x => by kernel_rfl)
def zw9 : Env := ⟨[(entQ znd zl5), (entQ ziv zhy)], [], []⟩
theorem zk3 : EnvsOK Tryz.prog zw9 := ⟨z0n (z0x zu2) (z0n (z0x zrn) (z1m _)), z1c _, z1a _⟩
def zah : Shp := ⟨53, 0, [], []⟩
def zaw : Shp := ⟨53, 0, [(2, .d .bool)], []⟩
def z4i : XS := .or (.exit 0) zah.xe (.one .ret zaw.xe)
theorem zg2 : z4i.OK := XS.or_ok (z0c zah) (XS.one_ok (z0c zaw))
def z4l : Shp := ⟨53, 0, [(0, .d .str), (3, .d (.int .i64))], []⟩
abbrev z8f := (List Int) × Int
abbrev zbq := (Unit) ⊕ (Bool)
def z8n (t0 : List Int) (i : Int) : Option (z8f ⊕ zbq) :=
 z0j (List.length t0) (
 bif ltI i (List.length t0 : Nat) then
 (idxI t0 i).bind fun x =>
 bif neI x 126 then
 some (.inl (t0, W64 (i + 1)))
 else
 (zao t0 (W64 (i + 1))).bind fun r =>
 bif subOk 0 i (List.length t0) then
 (zd1 (subL t0 0 i)).bind fun r2 =>
 bif !r2 then
 some (.inr (.inr false))
 else
 bif ltI r 0 then
 some (.inr (.inr false))
 else
 z0j (List.length t0) (
 bif leI (List.length t0 : Nat) r then
 some (.inr (.inr false))
 else
 (idxI t0 r).bind fun x2 =>
 bif neI x2 46 then
 some (.inr (.inr false))
 else
 (zao t0 (W64 (r + 1))).bind fun r3 =>
 z0j (List.length t0) (
 some (.inr (.inr (eqI r3 (List.length t0 : Nat))))))
 else none
 else
 some (.inr (.inl ())))
def z2e (s : z8f) : Option (z8f ⊕ zbq) := z8n s.1 s.2
theorem zhf : SoundD Tryz.prog (.loop (subC (bodyC Tryz.f26) [1, 1, 0, 1, 0, 0])) (loopD z4l.xe z4i (loopC z2e)) :=
 z3v (S := z4l.xe) (X := z4i) zk3 (h := .no) (z0u [] (by kernel_rfl) trivial) (z0c z4l) zg2 z2e (fun s => by kernel_rfl)
def zj2 : Shp := ⟨1, 0, [(0, .d .bool)], []⟩
def zn4 : XS := .one .ret zj2.xe
theorem zrl : zn4.OK := XS.one_ok (z0c zj2)
def zg5 (t0 : List Int) : Option ((Bool)) :=
 bif eqS t0 ([108, 111, 115, 116, 43, 102, 111, 117, 110, 100] : List Int) then
 some true
 else
 (zd1 t0).bind fun r =>
 bif r then
 some true
 else
 (loopC z2e (t0, 0)).bind fun o =>
 Sum.elim (fun y =>
 some false) (fun y2 =>
 some y2) o
def zm9 : Sig := ⟨26, [.d .str], [], 0, zn4⟩
def zli (x : (List Int)) : Option ((Bool)) := zg5 x
theorem zu3 : FnOK Tryz.prog zm9 zli :=
 fn_ok zk3 (h := (.two .no (.two .no (.two (.two .no (.over (loopD z4l.xe z4i (loopC z2e)))) .no)))) Tryz.func26 (z0u [.den (.loop (subC (bodyC Tryz.f26) [1, 1, 0, 1, 0, 0])) (loopD z4l.xe z4i (loopC z2e))] (by kernel_rfl) ⟨zhf, trivial⟩) (by kernel_rfl) zrl (fun x => by kernel_rfl)
def zu6 : Env := ⟨[(entQ zm9 zli)], [], []⟩
theorem zid : EnvsOK Tryz.prog zu6 := ⟨z0n (z0x zu3) (z1m _), z1c _, z1a _⟩
def z5g : Shp := ⟨58, 0, [(0, .d .str), (4, .wn 0 .str), (5, .d (.int .i64)), (6, .d (.int .i64))], [.row 9 .str]⟩
def z5h : Shp := ⟨58, 0, [(0, .d .str), (4, .wn 0 .str), (5, .d (.int .i64)), (6, .d (.int .i64)), (32, .d .str), (33, .d (.int .i64)), (34, .d (.int .u8)), (35, .d .bool)], [.row 9 .str]⟩
def z3r : XS := .or .normal z5g.xe (.one (.exit 1) z5h.xe)
theorem za4 : z3r.OK := XS.or_ok (z0c z5g) (XS.one_ok (z0c z5h))
def z7e : Shp := ⟨58, 0, [(4, .wn 0 .str)], [.row 9 .str]⟩
def z7d : Shp := ⟨58, 0, [(2, .d (.sl .str)), (3, .d (.int .i64))], []⟩
def z2g : XS := .or (.exit 0) z7e.xe (.one .ret z7d.xe)
theorem zcb : z2g.OK := XS.or_ok (z0c z7e) (XS.one_ok (z0c z7d))
def z2f : Shp := ⟨58, 0, [(0, .d .str), (4, .wn 0 .str), (5, .d (.int .i64)), (6, .d (.int .i64))], [.row 9 .str]⟩
abbrev z5f := (List Int) × Int × Int × (List (List Int))
abbrev z8r := ((List (List Int))) ⊕ ((List (List Int)) × Int)
def z5e (t0 : List Int) (t5 : Int) (i : Int) (out : List (List Int)) : Option (z5f ⊕ z8r) :=
 z0j (List.length t0) (
 bif leI i (List.length t0 : Nat) then
 (show Option (((List Int) × Int × Int × (List (List Int))) ⊕ ((List Int) × Int × Int × (List Int) × Int × Int × Bool × (List (List Int)))) from
 z0j (List.length t0) (
 bif ltI i (List.length t0 : Nat) then
 (idxI t0 i).bind fun x =>
 bif neI x 47 then
 bif Nat.beq (List.length out) (List.length out) then
 some (.inr (t0, t5, i, t0, i, x, neI x 47, out))
 else none
 else
 bif Nat.beq (List.length out) (List.length out) then
 some (.inl (t0, t5, i, out))
 else none
 else
 bif Nat.beq (List.length out) (List.length out) then
 some (.inl (t0, t5, i, out))
 else none)).bind fun j =>
 Sum.elim (fun y =>
 bif subOk y.2.1 y.2.2.1 (List.length y.1) then
 (zg5 (subL y.1 y.2.1 y.2.2.1)).bind fun r =>
 bif !r then
 some (.inr (.inr ([], 20)))
 else
 z0j (List.length y.2.2.2) (
 bif eqI (List.length y.2.2.2 : Nat) 10 then
 some (.inr (.inr ([], 20)))
 else
 bif subOk y.2.1 y.2.2.1 (List.length y.1) then
 bif Nat.beq (List.length y.2.2.2) (List.length y.2.2.2) then
 appG (List.length y.2.2.2) (List.length ([subL y.1 y.2.1 y.2.2.1] : List (List Int))) 16 fun _ =>
 bif Nat.beq (List.length (y.2.2.2 ++ ([subL y.1 y.2.1 y.2.2.1] : List (List Int)))) (List.length (y.2.2.2 ++ ([subL y.1 y.2.1 y.2.2.1] : List (List Int)))) then
 some (.inl (y.1, W64 (y.2.2.1 + 1), W64 (y.2.2.1 + 1), y.2.2.2 ++ ([subL y.1 y.2.1 y.2.2.1] : List (List Int))))
 else none
 else none
 else none)
 else none) (fun y2 =>
 bif Nat.beq (List.length y2.2.2.2.2.2.2.2) (List.length y2.2.2.2.2.2.2.2) then
 some (.inl (y2.1, y2.2.1, W64 (y2.2.2.1 + 1), y2.2.2.2.2.2.2.2))
 else none) j
 else
 bif Nat.beq (List.length out) (List.length out) then
 some (.inr (.inl out))
 else none)
def z0z (s : z5f) : Option (z5f ⊕ z8r) := z5e s.1 s.2.1 s.2.2.1 s.2.2.2
theorem zcv : SoundD Tryz.prog (.loop (subC (bodyC Tryz.f12) [1, 1, 1, 1, 1, 0, 1, 0, 0])) (loopD z2f.xe z2g (loopC z0z)) :=
 z3v (S := z2f.xe) (X := z2g) zid (h := (.two .no (.two (.join (fun _ => z3r) .no .no) .no))) (z0u [.xs (fun _ => z3r)] (by kernel_rfl) ⟨(zsl za4), trivial⟩) (z0c z2f) zcb z0z (fun s => by kernel_rfl)
def zia : Shp := ⟨1, 0, [(0, .tu [.d (.sl .str), .d (.int .i64)])], []⟩
def zlh : XS := .one .ret zia.xe
theorem zpv : zlh.OK := XS.one_ok (z0c zia)
def zet (t0 : List Int) : Option (((List (List Int)) × Int)) :=
 bif eqS t0 ([47] : List Int) then
 some ([], 0)
 else
 bif eqS t0 ([] : List Int) then
 some ([], 20)
 else
 z0j (List.length t0) (
 bif ltI 120 (List.length t0 : Nat) then
 some ([], 20)
 else
 (idxI t0 0).bind fun x =>
 bif neI x 47 then
 some ([], 20)
 else
 bif Nat.beq 0 (List.length ([] : List (List Int))) then
 (loopC z0z (t0, 1, 1, ([] : List (List Int)))).bind fun o =>
 Sum.elim (fun y =>
 winK y 0 (List.length y) fun w =>
 some (w, 0)) (fun y2 =>
 some (y2.1, y2.2)) o
 else none)
def zln : Sig := ⟨12, [.d .str], [], 0, zlh⟩
def zj7 (x : (List Int)) : Option (((List (List Int)) × Int)) := zet x
theorem zs0 : FnOK Tryz.prog zln zj7 :=
 fn_ok zid (h := (.two .no (.two .no (.two .no (.two .no (.two .no (.two (.two .no (.over (loopD z2f.xe z2g (loopC z0z)))) .no))))))) Tryz.func12 (z0u [.den (.loop (subC (bodyC Tryz.f12) [1, 1, 1, 1, 1, 0, 1, 0, 0])) (loopD z2f.xe z2g (loopC z0z))] (by kernel_rfl) ⟨zcv, trivial⟩) (by kernel_rfl) zpv (fun x => by kernel_rfl)
end Go.Proofs.YtomgkgngbpnngaaGreatDoor
set_option maxRecDepth 100000
set_option linter.unusedVariables false
set_option linter.unusedSimpArgs false
namespace Go.Proofs.YtomgkgngbpnngaaGreatDoor
open Go.Tm Go.Ab Go.Lib
def okI (x : Int) : Bool := z9g x || decide (48 ≤ x ∧ x ≤ 57) || (decide (x = 46) || decide (x = 95) || decide (x = 45))
def nameI (s : List Int) : Bool := decide (1 ≤ s.length ∧ s.length ≤ 12) && !decide (s = [46]) && !decide (s = [46, 46]) && s.all okI
theorem b8_eq {x : Int} (hx : 0 ≤ x ∧ x < 256) (c : UInt8) : (b8 x == c) = decide (x = c.toNat) := by
 rw [Bool.eq_iff_iff, beq_iff_eq, decide_eq_true_eq]
 constructor
 · intro e; rw [← e, zaz hx]
 · intro e
   apply UInt8.toNat_inj.1
   have := zaz hx
   omega
theorem z10r {x : Int} (hx : 0 ≤ x ∧ x < 256) : okc (b8 x) = okI x := by
 unfold okc okI
 have h := zaz hx
 rw [h, b8_eq hx, b8_eq hx, b8_eq hx]
 have : decide (48 ≤ (b8 x).toNat ∧ (b8 x).toNat ≤ 57) = decide (48 ≤ x ∧ x ≤ 57) := by
   rw [Bool.eq_iff_iff, decide_eq_true_eq, decide_eq_true_eq]; omega
 rw [this]; rfl
theorem z11i {s t : List Int} (hs : Bs s) (ht : Bs t) : s.map b8 = t.map b8 ↔ s = t := by
 constructor
 · intro h
   induction s generalizing t with
   | nil => cases t with
     | nil => rfl
     | cons y t => simp at h
   | cons x s ih => cases t with
     | nil => simp at h
     | cons y t =>
       simp only [List.map_cons, List.cons.injEq] at h
       rw [zj8 (hs x (by simp)) (ht y (by simp)) h.1, ih (fun z hz => hs z (by simp [hz])) (fun z hz => ht z (by simp [hz])) h.2]
 · rintro rfl; rfl
theorem z17r {s : List Int} (hb : Bs s) : nameB (ba s) = nameI s := by
 unfold nameB nameI
 have e0 : (ba s).data.toList = s.map b8 := ze9 s
 rw [e0, z7i]
 have h1 : (s.map b8 == [46]) = decide (s = [46]) := by
   rw [Bool.eq_iff_iff, beq_iff_eq, decide_eq_true_eq]
   exact z11i (t := [46]) hb (fun x hx => by simp at hx; subst hx; decide)
 have h2 : (s.map b8 == [46, 46]) = decide (s = [46, 46]) := by
   rw [Bool.eq_iff_iff, beq_iff_eq, decide_eq_true_eq]
   exact z11i (t := [46, 46]) hb (fun x hx => by simp at hx; subst hx; decide)
 have h3 : (s.map b8).all okc = s.all okI := by
   rw [List.all_map]
   rw [Bool.eq_iff_iff, List.all_eq_true, List.all_eq_true]
   constructor
   · intro h x hx; rw [← z10r (hb x hx)]; exact h x hx
   · intro h x hx; show okc (b8 x) = true; rw [z10r (hb x hx)]; exact h x hx
 rw [h1, h2, h3]
theorem zza {s : List Int} (hb : Bs s) (hl : s.length ≤ 1000) : zl1 s = some (nameI s) := by
 unfold zl1 zf5
 rw [ble_t (by omega), z17r hb]; rfl
theorem znh {s : List Int} (hb : Bs s) (hl : s.length ≤ 1000) : zdf s = some (canon s) := by
 unfold zdf zf5
 rw [ble_t (by omega), z12a hb]; rfl
theorem zrf {s : List Int} (hb : Bs s) (hl : s.length ≤ 1000) : zd1 s = some (nameI s) := by
 refine ok_is ?_
 unfold zd1 nameI
 repeat' first
   | (dsimp only [Int.toNat_natCast, List.length_nil])
   | with_reducible first | refine z2j ?_ | refine z2l ?_ | refine z1b ?_ | refine z2p ?_ | refine z1n ?_ | refine z3i ?_ | refine qs ?_ | refine qb ?_ | refine z3o ?_ | refine qw ?_ | refine z3p ?_ | refine z3l ?_ | refine qi ?_ | refine qg (h := ?_) | refine qx (h := ?_) | refine qy (h := ?_) | refine qa ?_ | refine qc ?_ | refine ql ?_ | refine qp ?_ | refine z1t ?_ | rfl
   | (with_reducible first | refine ok_lt ?_ ?_ | refine ok_le ?_ ?_ | refine z3k ?_ ?_ | refine z3n ?_ ?_ | refine z3q ?_ ?_ | refine qu ?_ ?_ | refine ok_if ?_ ?_) <;> intro _ <;> try (exfalso; omega)
 · rename_i h; subst h; rfl
 · rename_i h1 h2; rw [decide_eq_false (p := 1 ≤ s.length ∧ _) (by omega)]; rfl
 · rename_i h1 h2 h3; subst h3; rfl
 · rename_i h1 h2 h3 h4; subst h4; rfl
 · rename_i h1 h2 h3 h4
   have hpos : 1 ≤ s.length := by
     cases s with
     | nil => exact absurd rfl h1
     | cons x l => simp
   have e : (decide (1 ≤ s.length ∧ s.length ≤ 12) && !decide (s = [46]) && !decide (s = [46, 46]) && s.all okI) = s.all okI := by
     rw [decide_eq_true (p := 1 ≤ s.length ∧ _) ⟨hpos, by omega⟩, decide_eq_false h3, decide_eq_false h4]; simp
   rw [e]
   refine zn6 s.length (fun i _ => (s, (i : Int))) (fun i (_ : Unit) => (s.take i).all okI = true) () rfl rfl (fun _ hall => ?_) fun i _ hi hall => ?_
   · unfold z2d z8g
     dsimp only
     repeat' first
       | (dsimp only [Int.toNat_natCast, List.length_nil])
       | with_reducible first | refine z2j ?_ | refine z2l ?_ | refine z1b ?_ | refine z2p ?_ | refine z1n ?_ | refine z3i ?_ | refine qs ?_ | refine qb ?_ | refine z3o ?_ | refine qw ?_ | refine z3p ?_ | refine z3l ?_ | refine qi ?_ | refine qg (h := ?_) | refine qx (h := ?_) | refine qy (h := ?_) | refine qa ?_ | refine qc ?_ | refine ql ?_ | refine qp ?_ | refine z1t ?_ | rfl
       | (with_reducible first | refine ok_lt ?_ ?_ | refine ok_le ?_ ?_ | refine z3k ?_ ?_ | refine z3n ?_ ?_ | refine z3q ?_ ?_ | refine qu ?_ ?_ | refine ok_if ?_ ?_) <;> intro _ <;> try (exfalso; omega)
     rw [List.take_length] at hall
     exact hall.symm
   · unfold z2d z8g
     dsimp only
     have hx := hb s[i] (List.getElem_mem hi)
     have hstep : okI s[i] = true → (s.take (i + 1)).all okI = true := fun h => by
       rw [List.take_succ_eq_append_getElem hi, List.all_append, hall, List.all_cons, h]; rfl
     have hno : okI s[i] = false → s.all okI = false := fun h => by
       rw [List.all_eq_false]; exact ⟨s[i], List.getElem_mem hi, by simp [h]⟩
     have hok : okI s[i] = (decide (97 ≤ s[i] ∧ s[i] ≤ 122) || decide (65 ≤ s[i] ∧ s[i] ≤ 90) || decide (48 ≤ s[i] ∧ s[i] ≤ 57) || (decide (s[i] = 46) || decide (s[i] = 95) || decide (s[i] = 45))) := rfl
     repeat' first
       | (dsimp only [Int.toNat_natCast, List.length_nil])
       | with_reducible first | refine z2j ?_ | refine z2l ?_ | refine z1b ?_ | refine z2p ?_ | refine z1n ?_ | refine z3i ?_ | refine qs ?_ | refine qb ?_ | refine z3o ?_ | refine qw ?_ | refine z3p ?_ | refine z3l ?_ | refine qi ?_ | refine qg (h := ?_) | refine qx (h := ?_) | refine qy (h := ?_) | refine qa ?_ | refine qc ?_ | refine ql ?_ | refine qp ?_ | refine z1t ?_ | rfl
       | (with_reducible first | refine ok_lt ?_ ?_ | refine ok_le ?_ ?_ | refine z3k ?_ ?_ | refine z3n ?_ ?_ | refine z3q ?_ ?_ | refine qu ?_ ?_ | refine ok_if ?_ ?_) <;> intro _ <;> try (exfalso; omega)
     all_goals first
       | (refine ⟨(), by rw [z8u (by omega)]; rfl, hstep ?_⟩; rw [hok]; simp only [Bool.or_eq_true, decide_eq_true_eq, Bool.not_eq_true', Bool.not_eq_false', decide_eq_false_iff_not] at *; omega)
       | (refine (hno ?_).symm; rw [hok]; simp only [Bool.or_eq_false_iff, Bool.or_eq_true, decide_eq_true_eq, Bool.not_eq_true', Bool.not_eq_false', decide_eq_false_iff_not] at *; omega)
end Go.Proofs.YtomgkgngbpnngaaGreatDoor