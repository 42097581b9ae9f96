import Derived.Test.YtomgkgngbpnngaaGreatDoorCzW3toCzW7
import Derived.Test.YtomgkgngbpnngaaGreatDoorTm26to29
import Derived.Shelf.Strings.Split
import Derived.Test.YtomgkgngbpnngaaGreatDoorCzLtoCzW2
import Derived.Lib.RowBridge
import Derived.Test.YtomgkgngbpnngaaGreatDoorTm21to25
import Derived.Test.YtomgkgngbpnngaaGreatDoorProg
set_option linter.unusedVariables false
set_option linter.unusedSimpArgs false
namespace Go.Proofs.YtomgkgngbpnngaaGreatDoor
open Go.Shelf Go.Proofs Go.RowKit Go.Sort Go.Lib Go.Ab Go.Tm
theorem z12l {w : World} {c : Cx} {H : List AObj} {ts : List Bool} (g : Ab.Good w c H ts) : Glob w := g.gl.var
def zkp (s : List Int) : Option Bool := zex (List.length s) (some (nameB (ba s)))
def zqk : Sig := libS 44 [.d .str] .bool
def zoj (x : List Int) : Option Bool := zkp x
theorem zww : FnOK Tryz.prog zqk zoj := zxq (u := .str) (B := .bool) (by kernel_rfl) fun x y hy hx => by
 obtain ⟨hl, h2⟩ := zol (show zex (List.length x) (some (nameB (ba x))) = some y from hy)
 cases h2
 refine ⟨trivial, fun w c vs g hs hv => ?_⟩
 rw [vals1 hs hv]
 refine (zz9 (ba x) (by rw [z6z]; omega) w).mono ?_
 rintro e w' ⟨rfl, hb⟩
 exact ⟨_, rfl, hb, fun _ => by simp only [pvU, VR]; exact ⟨trivial, rfl⟩⟩
def zcn (s : List Int) : Option Bool := zex (List.length s) (some (zga (ba s)))
def zmw : Sig := libS 45 [.d .str] .bool
def zl5 (x : List Int) : Option Bool := zcn x
theorem zti : FnOK Tryz.prog zmw zl5 := zxq (u := .str) (B := .bool) (by kernel_rfl) fun x y hy hx => by
 obtain ⟨hl, h2⟩ := zol (show zex (List.length x) (some (zga (ba x))) = some y from hy)
 cases h2
 refine ⟨trivial, fun w c vs g hs hv => ?_⟩
 rw [vals1 hs hv]
 refine (zw2 (ba x) (by rw [z6z]; omega) w g.gl.sz (z12l g)).mono ?_
 rintro e w' ⟨rfl, hb⟩
 exact ⟨_, rfl, hb, fun _ => by simp only [pvU, VR]; exact ⟨trivial, rfl⟩⟩
theorem zqw (l : List (List Int)) : List.flatMap (fun x => cellU .str x) l = (l.map ba).map fun b => PV.val (.string b) := by
 induction l with
 | nil => rfl
 | cons x l ih => rw [List.flatMap_cons, ih]; rfl
theorem zx0 (s : ByteArray) (c : UInt8) (hs : s.size < 4294967281) (w : World) :
   Calls Tryz.prog 32 #[.string s, .string ⟨#[c]⟩] w fun e w' => e = .returned (.slice (some ⟨w.heap.size, 0, none⟩) (Lib.countB s ⟨#[c]⟩ + 1) (Lib.countB s ⟨#[c]⟩ + 1)) ∧
     w' = w.alloc (.cells ((Lib.splitB ⟨#[c]⟩ 0 (Lib.countB s ⟨#[c]⟩) s).map Value.string).toArray 9) := by
 have hle := Lib.countB_le ⟨#[c]⟩ (Nat.le_refl 1) s.size s (Nat.le_refl _)
 have hlen := Lib.splitB_all ⟨#[c]⟩ (Nat.le_refl 1) 0 _ s rfl
 have hcnt : Calls Tryz.prog 59 #[.string s, .string ⟨#[c]⟩] w fun e w' => e = .returned (.int .i64 (Lib.countB s ⟨#[c]⟩)) ∧ w' = w := by
   refine (Any.strings_Count_one z15t s c w).mono fun e w' ⟨he, hw⟩ => ⟨?_, hw⟩
   rw [he]
   show _ = Ending.returned (Value.int .i64 ((Lib.count s.data.toList [c] : Nat) : Int))
   rw [Lib.count_one]
   rfl
 have hidx : ∀ (x : ByteArray) (cs : Array Value), x.size ≤ s.size → Calls Tryz.prog 60 #[.string x, .string ⟨#[c]⟩] (w.alloc (.cells cs 9)) fun e w' => e = .returned (.int .i64 (Lib.indexB x ⟨#[c]⟩)) ∧ w' = w.alloc (.cells cs 9) := fun x cs _ => by
   refine (Any.strings_Index_one z15n x c _).mono fun e w' ⟨he, hw⟩ => ⟨?_, hw⟩
   rw [he]
   show _ = Ending.returned (Value.int .i64 (Lib.index x.data.toList [c]))
   rw [Lib.index_one]
 have h := Any.strings_genSplit_core z16s (by kernel_rfl) s ⟨#[c]⟩ 0 (-1) (Lib.countB s ⟨#[c]⟩ + 1) w hs (Nat.le_refl 1) (Nat.zero_le _) hidx hcnt (by decide) (by decide) (by rw [if_pos (by decide)]; omega)
 rw [Nat.add_sub_cancel, hlen] at h
 have e2 : Lib.cellsOf (Lib.splitB ⟨#[c]⟩ 0 (Lib.countB s ⟨#[c]⟩) s) (Lib.countB s ⟨#[c]⟩ + 1) = ((Lib.splitB ⟨#[c]⟩ 0 (Lib.countB s ⟨#[c]⟩) s).map Value.string).toArray := by rw [← hlen]; exact Lib.cellsOf_full _
 rw [e2] at h
 go_enter Tryz.func32, Tryz.ntmps32
 go_wp2_with (go_at_call 42; refine h.mono ?_; rintro e w' ⟨rfl, hw⟩; rw [hw])
 go_ret
 exact ⟨rfl, rfl⟩
def zf2 (c : Int) (s : List Int) : List (List Int) := (Lib.splitB ⟨#[c.toNat.toUInt8]⟩ 0 (Lib.countB (ba s) ⟨#[c.toNat.toUInt8]⟩) (ba s)).map fun b => nums b.data.toList
def zch (s sep : List Int) : Option (List (List Int)) := match sep with
 | [c] => bif Nat.ble (List.length s) 4294967280 then some (zf2 c s) else none
 | _ => none
def zoi : Sig := libS 32 [.d .str, .d .str] (.sl .str)
def zlu (x : List Int × List Int) : Option (List (List Int)) := zch x.1 x.2
theorem z11v (c : Int) (s : List Int) : (zf2 c s).map ba = Lib.splitB ⟨#[c.toNat.toUInt8]⟩ 0 (Lib.countB (ba s) ⟨#[c.toNat.toUInt8]⟩) (ba s) := by
 unfold zf2
 rw [List.map_map]
 have : (ba ∘ fun b : ByteArray => nums b.data.toList) = id := by
   funext b
   simp [zrn]
 rw [this, List.map_id]
theorem z14w {w : World} (cs : List Value) (t : TypeId) (i : Nat) : (w.alloc (.cells cs.toArray t)).cell? ⟨w.heap.size, 0 + i, none⟩ = cs[i]? := by
 rw [World.cell?_alloc_new]
 simp
theorem zva : FnOK Tryz.prog zoi zlu := z15i (u := .str) (v := .str) (B := .sl .str) (by kernel_rfl) fun x z y hy hx hz => by
 have hy' : zch x z = some y := hy
 unfold zch at hy'
 split at hy'
 · rename_i c
   cases hb : Nat.ble (List.length x) 4294967280 with
   | false => rw [hb] at hy'; cases hy'
   | true =>
     rw [hb] at hy'
     cases hy'
     have hl := Nat.le_of_ble_eq_true hb
     refine ⟨fun l hl => ?_, fun w cx vs g hs hv => ?_⟩
     · simp only [zf2, List.mem_map] at hl
       obtain ⟨b, _, rfl⟩ := hl
       exact zs1 _
     rw [vals2 hs hv]
     have hsep : ba [c] = ⟨#[c.toNat.toUInt8]⟩ := rfl
     rw [hsep]
     have hx2 : (ba x).size < 4294967281 := by rw [z6z]; omega
     have hlen := Lib.splitB_all ⟨#[c.toNat.toUInt8]⟩ (Nat.le_refl 1) 0 _ (ba x) rfl
     refine (zx0 (ba x) c.toNat.toUInt8 hx2 w).mono ?_
     rintro e w' ⟨rfl, rfl⟩
     rw [← z11v] at hlen ⊢
     rw [List.length_map] at hlen
     refine ⟨_, rfl, ⟨rfl, rfl, rfl, by show w.heap.size ≤ (w.heap.push _).size; rw [Array.size_push]; omega, fun k hk => RowKit.Below.heap_alloc w _ k hk⟩, fun g' => ?_⟩
     simp only [pvU, VR]
     refine .inr ⟨_, _, by rw [← hlen], by rw [hlen]; exact Nat.le_refl _, ?_, trivial, ?_, ?_⟩
     · exact Foot.new g (by show w.heap.size < (w.heap.push _).size; rw [Array.size_push]; omega) _ 0 _ rfl
     · intro p hp
       rw [zqw] at hp
       simp only [List.mem_map] at hp
       obtain ⟨b, _, rfl⟩ := hp
       rfl
     · rw [zqw]
       refine Ab.VRs_mk fun i q hq => ?_
       rw [List.getElem?_map] at hq
       cases hb : ((zf2 c x).map ba)[i]? with
       | none => rw [hb] at hq; cases hq
       | some b =>
         rw [hb] at hq
         cases hq
         refine ⟨.string b, ?_, by simp only [VR]; exact ⟨trivial, rfl⟩⟩
         show (w.alloc (.cells (((zf2 c x).map ba).map Value.string).toArray 9)).cell? ⟨w.heap.size, 0 + i, none⟩ = _
         rw [z14w, List.getElem?_map, hb]; rfl
 · cases hy'
end Go.Proofs.YtomgkgngbpnngaaGreatDoor
set_option linter.unusedVariables false
set_option linter.unusedSimpArgs false
namespace Go.Proofs.YtomgkgngbpnngaaGreatDoor
open Go.Shelf Go.Proofs Go.RowKit Go.Sort Go.Lib Go.Ab Go.Tm
theorem zx8 (l : List (List Int)) : List.flatMap (fun x => cellU .str x) l = l.map fun s => PV.val (.string (ba s)) := zc3 l
def sortL (l : List (List Int)) : List (List Int) := ((l.map byts).mergeSort fun x y => decide (x ≤ y)).map nums
def zft (l : List (List Int)) : Option (List (List Int) × List (List Int)) := bif Nat.ble (List.length l) 4398046511104 then some (l, sortL l) else none
def zlm : Sig := ⟨19, [.fn 30 [.pt 0 (.one .leaf) []]], [.var 22 (.d (.sl .str))], 1, ownX 1 [.var 22 (.d (.sl .str))] 9⟩
def zl3 (x : List (List Int)) : Option (List (List Int) × List (List Int)) := zft x
theorem zpi (x : List (List Int)) (hlen : List.length x ≤ 4398046511104) : zqa Tryz.prog 19 1 [.fn 30 [.ptr 0 0]] [.row [pvU (.sl .str) x] 22] fun p H' => p = .sl 1 0 (sortL x).length 1 ∧ H' = [.row [pvU (.sl .str) x] 22, .row (rowU .str (sortL x)) 9] := by
 intro w c vs g hp hs hv
 have hs1 : vs.size = 1 := hs
 simp only [VRs, VR] at hv
 obtain ⟨⟨v1, e1, cv, rfl, hcs, ⟨v2, e2, Bs, hk, rfl⟩, _⟩, _⟩ := hv
 have hcs1 : cv.size = 1 := hcs
 have hcv : cv = #[.pointer (some ⟨Bs, 0, none⟩)] := by
   apply Array.ext (by simp [hcs1])
   intro i hi hi'
   have : i = 0 := by omega
   subst this
   have := (Array.getElem?_eq_some_iff.1 e2).2
   simpa using this
 subst hcv
 have hvs : vs = #[.func (.func 30) #[] #[.pointer (some ⟨Bs, 0, none⟩)]] := by
   apply Array.ext (by simp [hs1])
   intro i hi hi'
   have : i = 0 := by omega
   subst this
   have := (Array.getElem?_eq_some_iff.1 e1).2
   simpa using this
 rw [hvs]
 have hbl := ObjC.lt g hk
 obtain ⟨bs, fr, h2, hf, h3, hl, h4⟩ := ObjC.row (g.obj 0 _ rfl) hk
 simp only [VRs, pvU, VR] at h4
 obtain ⟨⟨sv, e3, htr⟩, _⟩ := h4
 have e3' : w.cell? ⟨Bs, 0, none⟩ = some sv := by rw [z6n h2]; exact e3
 have hzl : (x.map byts).length = x.length := by simp
 have hT : TextsAt w.heap.size w sv (x.map byts) := by
   rcases htr with ⟨rfl, hl0, _, _⟩ | ⟨a2, cap, rfl, hcap, hf2, _, _, hcells⟩
   · exact .inl ⟨none, 0, rfl, by rw [List.length_eq_zero_iff.1 hl0]; rfl⟩
   · rw [zx8] at hf2 hcells
     rcases hf2 with hf2 | ⟨hsp2, hbl2, _, _, _⟩
     · have hx0 : x = [] := by simpa using hf2
       subst hx0
       exact .inl ⟨some a2, cap, rfl, rfl⟩
     · obtain ⟨b2, o2, sp2⟩ := a2
       dsimp only at hsp2 hbl2 hcells
       subst hsp2
       refine .inr ⟨b2, o2, cap, by rw [hzl], hbl2, fun j hj => ?_⟩
       have hj' : j < x.length := by omega
       obtain ⟨u, h5, h6⟩ := z0g hcells (i := j) (p := .val (.string (ba x[j]))) (by rw [List.getElem?_map, List.getElem?_eq_getElem hj']; rfl)
       obtain ⟨rfl, _⟩ := z2z.1 h6
       have e4 : (x.map byts)[j]?.getD [] = byts x[j] := by rw [List.getElem?_map, List.getElem?_eq_getElem hj']; rfl
       rw [e4, zoh]
       exact h5
 refine (zvs Bs 0 sv (x.map byts) (by rw [hzl]; omega) w hbl e3' hT).mono ?_
 rintro e w' ⟨v, rfl, hrow, hbel⟩
 have hrow' : w'.ownsRow w.heap.size 9 1 v (sortL x).length ((sortL x).map fun s => Value.string (ba s)) := by
   have e1 : (sortL x).length = (x.map byts).length := by simp [sortL]
   have e2 : ((sortL x).map fun s => Value.string (ba s)) = ((x.map byts).mergeSort fun x y => decide (x ≤ y)).map encStr := by
     unfold sortL
     rw [List.map_map]
     exact List.map_congr_left fun b _ => by simp only [Function.comp]; exact zoa b
   rw [e1, e2]
   exact hrow
 obtain ⟨c', g', hvr, hx⟩ := zz5 g hbel hrow' 1
 exact ⟨v, .sl 1 0 (sortL x).length 1, [.row [pvU (.sl .str) x] 22, .row (rowU .str (sortL x)) 9], c', rfl, ⟨rfl, rfl⟩, g', hvr, hx⟩
theorem ztq : FnOK Tryz.prog zlm zl3 where
 can := by kernel_rfl
 ret := fun x y hy _ hw => by
   have hy' : (bif Nat.ble (List.length x) 4398046511104 then some (x, sortL x) else none) = some y := hy
   cases hb : Nat.ble (List.length x) 4398046511104 with
   | false => rw [hb] at hy'; cases hy'
   | true =>
     rw [hb] at hy'
     cases hy'
     refine ⟨?_, fun o ho => ?_⟩
     · show TV.wf (.os 1 _ _ _ _ _)
       simp only [TV.wf]
     · have ho' : o ∈ [TOb.ob 22 (.var (.v (.sl .str) x)), TOb.ob 9 (.row .str (sortL x))] := ho
       simp only [List.mem_cons, List.not_mem_nil, or_false] at ho'
       rcases ho' with rfl | rfl
       · exact hw _ (List.mem_singleton.2 rfl)
       · show ∀ z, z ∈ sortL x → wfU .str z
         intro z hz
         simp only [sortL, List.mem_map] at hz
         obtain ⟨b, _, rfl⟩ := hz
         exact zs1 b
 calls := fun x y hy _ hw => by
   have hy' : (bif Nat.ble (List.length x) 4398046511104 then some (x, sortL x) else none) = some y := hy
   cases hb : Nat.ble (List.length x) 4398046511104 with
   | false => rw [hb] at hy'; cases hy'
   | true =>
     rw [hb] at hy'
     cases hy'
     exact zpi x (Nat.le_of_ble_eq_true hb)
 open' := fun R y k => rfl
def compL (l : List (List Int)) : List (List Int) := (Lib.compact (l.map byts)).map nums
def zeh (l : List (List Int)) : Option (List (List Int)) := bif Nat.ble (List.length l) 4398046511104 then some (compL l) else none
def zl1 : Sig := ⟨18, [.wn 0 .str], [.row 9 .str], 0, libX (.sl .str)⟩
def zjl (x : List (List Int)) : Option (List (List Int)) := zeh x
theorem znu (x : List (List Int)) (hlen : List.length x ≤ 4398046511104) : zqa Tryz.prog 18 0 [.sl 0 0 (List.length x) 1] [.row (rowU .str x) 9] fun p H' => p = pvU (.sl .str) (compL x) ∧ H' = [] := by
 intro w c vs g hp hs hv
 have g0 : Ab.Good w c [.row (rowU .str x) 9] [] := g
 have hs1 : vs.size = 1 := hs
 have hv1 : VRs w c [.sl 0 0 (List.length x) 1] (fun i => vs[i]?) := hv
 simp only [VRs] at hv1
 obtain ⟨⟨v1, e1, hvr⟩, _⟩ := hv1
 have hvs : vs = #[v1] := by
   apply Array.ext (by simp [hs1])
   intro i hi hi'
   have : i = 0 := by omega
   subst this
   have := (Array.getElem?_eq_some_iff.1 e1).2
   simpa using this
 rw [hvs]
 have hzl : (x.map byts).length = x.length := by simp
 rcases zzs g0 hvr with ⟨ad, rfl, hx0⟩ | ⟨k, cap, rfl, hcap, hH, hm, hk⟩
 · subst hx0
   refine (Any.slices_Compact_string_empty zxx ad 0 w).mono ?_
   rintro e w' ⟨rfl, rfl⟩
   obtain ⟨g', hx⟩ := taken (w' := w') g0 hp rfl rfl rfl rfl (fun _ _ => rfl) fun k vs e fr h => ⟨vs, fr, h, rfl⟩
   refine ⟨_, pvU (.sl .str) (compL []), [], { c with m := [] }, rfl, ⟨rfl, rfl⟩, g', ?_, hx⟩
   show VR w' { c with m := [] } (.tr 0 [] .no) _
   simp only [VR]
   cases ad with
   | none => exact .inl (by simp [Tail.isTok])
   | some a => exact .inr ⟨a, 0, rfl, Nat.le_refl _, .inl rfl, trivial, (fun p hp => by cases hp), by simp only [VRs]⟩
 · have hc := Any.slices_Compact_string zxx k 0 cap (x.map byts) w hH (by rw [hzl]; omega) (by rw [hzl]; exact hcap)
   rw [hzl] at hc
   refine Calls.mono hc ?_
   rintro e w' ⟨rfl, q, rfl⟩
   have hcl := Lib.compact_length_le (x.map byts)
   rw [hzl] at hcl
   obtain ⟨g', hvr', hx⟩ := z14i (e := 9) (l := x) (q := q) (cap := cap) (m := Lib.compact (x.map byts)) (d := (Lib.compact (x.map byts) ++ List.replicate (x.length - (Lib.compact (x.map byts)).length) []).toArray) g0 hp hm hk hH (by simp; omega) hcl
     (fun j z hj => by
       have hj' := (List.getElem?_eq_some_iff.1 hj).1
       rw [getElem!_pos _ j (by simp; omega)]
       simp only [List.getElem_toArray]
       rw [List.getElem_append_left hj']
       exact (List.getElem?_eq_some_iff.1 hj).2) (by omega)
   exact ⟨_, _, [], _, rfl, ⟨rfl, rfl⟩, g', hvr', hx⟩
theorem zrh : FnOK Tryz.prog zl1 zjl where
 can := by kernel_rfl
 ret := fun x y hy hw _ => by
   have hy' : (bif Nat.ble (List.length x) 4398046511104 then some (compL x) else none) = some y := hy
   cases hb : Nat.ble (List.length x) 4398046511104 with
   | false => rw [hb] at hy'; cases hy'
   | true =>
     rw [hb] at hy'
     cases hy'
     refine ⟨?_, fun o ho => by cases ho⟩
     show TV.wf (.v (.sl .str) (compL x))
     simp only [TV.wf]
     show ∀ z, z ∈ compL x → wfU .str z
     intro z hz
     simp only [compL, List.mem_map] at hz
     obtain ⟨b, _, rfl⟩ := hz
     exact zs1 b
 calls := fun x y hy hw _ => by
   have hy' : (bif Nat.ble (List.length x) 4398046511104 then some (compL x) else none) = some y := hy
   cases hb : Nat.ble (List.length x) 4398046511104 with
   | false => rw [hb] at hy'; cases hy'
   | true =>
     rw [hb] at hy'
     cases hy'
     exact znu x (Nat.le_of_ble_eq_true hb)
 open' := fun R y k => rfl
end Go.Proofs.YtomgkgngbpnngaaGreatDoor
set_option linter.unusedVariables false
set_option linter.unusedSimpArgs false
namespace Go.Proofs.YtomgkgngbpnngaaGreatDoor
open Go.Tm Go.Ab Go.Lib
def Bs (s : List Int) : Prop := ∀ x, x ∈ s → 0 ≤ x ∧ x < 256
def isD (x : Int) : Bool := decide (48 ≤ x ∧ x ≤ 57)
def val (a : Int) : List Int → Int
 | [] => a
 | x :: l => val (10 * a + (x - 48)) l
def lead (l : List Int) : Bool := decide (2 ≤ l.length) && decide (l.head? = some 48)
def canon (l : List Int) : Bool := !l.isEmpty && l.all isD && !lead l && decide (val 0 l ≤ 4294967295)
def b8 (x : Int) : UInt8 := UInt8.ofNat x.toNat
theorem zed (s : List Int) : byts s = s.map b8 := by
 unfold byts ba
 simp [b8]
theorem za5 {x : Int} (h : 0 ≤ x ∧ x < 256) : ((b8 x).toNat : Int) = x := by
 unfold b8
 rw [UInt8.toNat_ofNat']
 omega
theorem z6i {x : Int} : isD x = true ↔ 48 ≤ x ∧ x ≤ 57 := by simp [isD]
theorem zmj : ∀ (s : List Int) (a : Int), 0 ≤ a → s.all isD = true → a ≤ val a s
 | [], a, _, _ => Int.le_refl _
 | x :: l, a, ha, hd => by
   rw [List.all_cons, Bool.and_eq_true, z6i] at hd
   have := zmj l (10 * a + (x - 48)) (by omega) hd.2
   rw [val]
   omega
theorem zow : ∀ (s : List Int) (a x : Int), val a (s ++ [x]) = 10 * val a s + (x - 48)
 | [], a, x => rfl
 | y :: l, a, x => by rw [List.cons_append, val, val, zow l]
theorem zwi : ∀ (s : List Int) (a : Nat), Bs s → s.all isD = true → val a s ≤ 4294967295 → parseUintM 4294967295 a (s.map b8) = .ok (val a s).toNat
 | [], a, _, _, _ => by simp [parseUintM, val]
 | x :: l, a, hb, hd, hv => by
   rw [List.all_cons, Bool.and_eq_true, z6i] at hd
   have hx := za5 (hb x (by simp))
   have hn : (10 * (a : Int) + (x - 48)) = ((a * 10 + ((b8 x).toNat - 48) : Nat) : Int) := by omega
   rw [val, hn] at hv ⊢
   have ih := zwi l _ (fun y hy => hb y (by simp [hy])) hd.2 hv
   have hge := zmj l ((a * 10 + ((b8 x).toNat - 48) : Nat) : Int) (by omega) hd.2
   rw [List.map_cons, parseUintM, if_pos (by omega), if_neg (by omega), if_neg (by omega)]
   exact ih
theorem zsz : ∀ (s : List Int) (a u : Nat), Bs s → a ≤ 4294967295 → parseUintM 4294967295 a (s.map b8) = .ok u → s.all isD = true ∧ (u : Int) = val a s ∧ u ≤ 4294967295
 | [], a, u, _, ha, h => by
   simp only [List.map_nil, parseUintM] at h
   cases h
   exact ⟨rfl, rfl, ha⟩
 | x :: l, a, u, hb, ha, h => by
   have hx := za5 (hb x (by simp))
   rw [List.map_cons, parseUintM] at h
   split at h
   · rename_i hd
     split at h
     · cases h
     · split at h
       · cases h
       · rename_i h1 h2
         obtain ⟨g1, g2, g3⟩ := zsz l _ u (fun y hy => hb y (by simp [hy])) (by omega) h
         refine ⟨?_, ?_, g3⟩
         · rw [List.all_cons, g1, Bool.and_true, z6i]; omega
         · rw [g2, val]; congr 1; omega
   · cases h
theorem zua : ∀ (n u : Nat), u ≤ n → (2 ≤ (decDigits u).length → (decDigits u).head? ≠ some 48) ∧ decDigits u ≠ []
 | 0, u, h => by
   have : u = 0 := by omega
   subst this
   rw [decDigits_one (by omega)]
   exact ⟨fun h => by simp at h, by simp⟩
 | n + 1, u, h => by
   by_cases h1 : u < 10
   · rw [decDigits_one h1]
     exact ⟨fun h => by simp at h, by simp⟩
   · have ih := zua n (u / 10) (by omega)
     rw [decDigits, dif_neg h1]
     refine ⟨fun _ => ?_, by simp⟩
     by_cases h2 : u / 10 < 10
     · rw [decDigits_one h2]
       simp only [List.cons_append, List.head?_cons]
       intro e
       have e := Option.some.inj e
       have := congrArg UInt8.toNat e
       rw [UInt8.toNat_ofNat'] at this
       have h48 : (48 : UInt8).toNat = 48 := rfl
       omega
     · have hl : 2 ≤ (decDigits (u / 10)).length := by
         rw [decDigits_length, nDigits_big h2]
         have : 1 ≤ nDigits (u / 10 / 10) := by
           by_cases h3 : u / 10 / 10 < 10
           · rw [nDigits_small h3]; exact Nat.le_refl _
           · rw [nDigits_big h3]; omega
         omega
       have := ih.1 hl
       cases hd : decDigits (u / 10) with
       | nil => exact absurd hd ih.2
       | cons y l => rw [hd] at this; simpa using this
theorem z11s : ∀ (n : Nat) (s : List Int), s.length = n → Bs s → s ≠ [] → s.all isD = true → lead s = false → decDigits (val 0 s).toNat = s.map b8
 | 0, s, hn, _, hne, _, _ => absurd (List.length_eq_zero_iff.1 hn) hne
 | n + 1, s, hn, hb, hne, hd, hl => by
   obtain ⟨t, x, rfl⟩ : ∃ t x, s = t ++ [x] := ⟨s.dropLast, s.getLast hne, (List.dropLast_concat_getLast hne).symm⟩
   rw [List.all_append, Bool.and_eq_true] at hd
   have hx := (List.all_cons .. ▸ hd.2 : (isD x && List.all [] isD) = true)
   rw [Bool.and_eq_true, z6i] at hx
   have hbx := za5 (hb x (by simp))
   rw [zow, List.map_append, List.map_cons, List.map_nil]
   have hb8 : ∀ k : Nat, (k : Int) = x - 48 → UInt8.ofNat (48 + k) = b8 x := fun k hk => by
     unfold b8
     congr 1
     omega
   by_cases ht : t = []
   · subst ht
     have hv : (10 * val 0 [] + (x - 48)).toNat = (x - 48).toNat := by simp [val]
     rw [hv, decDigits_one (by omega), hb8 _ (by omega)]; rfl
   · have htl : 1 ≤ t.length := by
       cases t with
       | nil => exact absurd rfl ht
       | cons y l => simp
     have hth : t.head? ≠ some 48 := by
       intro e
       unfold lead at hl
       rw [decide_eq_true (by simp; omega), Bool.true_and, decide_eq_false_iff_not] at hl
       apply hl
       cases t with
       | nil => exact absurd rfl ht
       | cons y l => simpa using e
     have hlt : lead t = false := by
       unfold lead
       rw [decide_eq_false (p := t.head? = some 48) hth, Bool.and_false]
     have ih := z11s n t (by simp at hn; exact hn) (fun y hy => hb y (by simp [hy])) ht hd.1 hlt
     have hv1 : 1 ≤ val 0 t := by
       cases t with
       | nil => exact absurd rfl ht
       | cons y l =>
         rw [List.all_cons, Bool.and_eq_true, z6i] at hd
         have hy : y ≠ 48 := fun e => hth (by rw [e]; rfl)
         have := zmj l (10 * 0 + (y - 48)) (by omega) hd.1.2
         rw [val]
         omega
     rw [decDigits, dif_neg (by omega)]
     have e1 : (10 * val 0 t + (x - 48)).toNat / 10 = (val 0 t).toNat := by omega
     have e2 : (((10 * val 0 t + (x - 48)).toNat % 10 : Nat) : Int) = x - 48 := by omega
     rw [e1, ih, hb8 _ e2]
theorem zjh {x y : Int} (hx : 0 ≤ x ∧ x < 256) (hy : 0 ≤ y ∧ y < 256) (h : b8 x = b8 y) : x = y := by
 rw [← za5 hx, ← za5 hy, h]
theorem z12v {s : List Int} (hb : Bs s) : zga (ba s) = canon s := by
 unfold zga
 have e0 : (ba s).data.toList = s.map b8 := zed s
 rw [e0]
 unfold parseUintB
 by_cases hs : s = []
 · subst hs; rfl
 · rw [if_neg (by simpa using hs)]
   have hbad : (∀ u, parseUintM (2 ^ 32 - 1) 0 (s.map b8) ≠ .ok u) → canon s = false := fun hn => by
     cases hc : canon s with
     | false => rfl
     | true =>
       unfold canon at hc
       simp only [Bool.and_eq_true, decide_eq_true_eq] at hc
       exact absurd (zwi s 0 hb hc.1.1.2 hc.2) (hn _)
   cases hp : parseUintM (2 ^ 32 - 1) 0 (s.map b8)
   · rename_i u
     obtain ⟨h1, h2, h3⟩ := zsz s 0 u hb (by omega) hp
     have hu : (val 0 s).toNat = u := by rw [show val 0 s = val ((0 : Nat) : Int) s from rfl, ← h2]; rfl
     have hv : val 0 s ≤ 4294967295 := by rw [show val 0 s = val ((0 : Nat) : Int) s from rfl, ← h2]; omega
     dsimp only
     rw [Bool.eq_iff_iff, beq_iff_eq]
     unfold canon
     rw [h1, decide_eq_true hv]
     simp only [Bool.and_true, Bool.and_eq_true, Bool.not_eq_true', List.isEmpty_eq_false_iff]
     constructor
     · intro e
       refine ⟨hs, ?_⟩
       have := (zua u u (Nat.le_refl _)).1
       rw [e] at this
       unfold lead
       by_cases h2 : 2 ≤ s.length
       · have h3 := this (by simpa using h2)
         rw [decide_eq_true h2, Bool.true_and, decide_eq_false_iff_not]
         intro e2
         apply h3
         cases s with
         | nil => exact absurd rfl hs
         | cons y l => simp at e2; subst e2; rfl
       · rw [decide_eq_false h2]; rfl
     · rintro ⟨_, hl⟩
       rw [← hu]
       exact z11s s.length s rfl hb hs h1 hl
   all_goals exact (hbad fun u hu => by rw [hp] at hu; cases hu).symm
end Go.Proofs.YtomgkgngbpnngaaGreatDoor
set_option maxRecDepth 100000
set_option linter.unusedVariables false
noncomputable section
namespace Go.Proofs.YtomgkgngbpnngaaGreatDoor
open Go.Tm Go.Ab
def znz : Env := ⟨[], [], []⟩
theorem zlc : EnvsOK Tryz.prog znz := ⟨z1l _, z1b _, z1a _⟩
def zdp : Shp := ⟨1, 0, [(0, .fn 30 [.pt 0 (.one .leaf) []])], [.var 22 (.d (.sl .str))]⟩
def zff : XS := .one .ret zdp.xe
theorem zko : zff.OK := XS.one_ok (z0d zdp)
def zdb (t0 : List (List Int)) : Option (((List (List Int)))) :=
 some t0
def zfe : Sig := ⟨20, [.d (.sl .str)], [], 0, zff⟩
def zeq (x : (List (List Int))) : Option (((List (List Int)))) := zdb x
theorem zmo : FnOK Tryz.prog zfe zeq :=
 fn_ok zlc (h := .no) Tryz.func20 (z0x [] (by kernel_rfl) trivial) (by kernel_rfl) zko (fun x => by kernel_rfl)
def zc6 : Env := ⟨[], [], []⟩
theorem zb6 : EnvsOK Tryz.prog zc6 := ⟨z1l _, z1b _, z1a _⟩
def z5v : Shp := ⟨1, 0, [(0, .d .bool)], []⟩
def z6j : XS := .one .ret z5v.xe
theorem zar : z6j.OK := XS.one_ok (z0d z5v)
def z4u (t0 : List Int) (t1 : List Int) : Option ((Bool)) :=
 z0l (List.length t0) (
 z0l (List.length t1) (
 bif leI (List.length t1 : Nat) (List.length t0 : Nat) then
 z0l (List.length t1) (
 bif subOk 0 (List.length t1 : Nat) (List.length t0) then
 some (eqS (subL t0 0 (List.length t1 : Nat)) t1)
 else none)
 else
 some false))
def z6k : Sig := ⟨41, [.d .str, .d .str], [], 0, z6j⟩
def z6b (x : (List Int) × (List Int)) : Option ((Bool)) := z4u x.1 x.2
theorem zbe : FnOK Tryz.prog z6k z6b :=
 fn_ok zb6 (h := .no) Tryz.func41 (z0x [] (by kernel_rfl) trivial) (by kernel_rfl) zar (fun x => by kernel_rfl)
def zlh : Env := ⟨[(entQ z6k z6b)], [], []⟩
theorem zj0 : EnvsOK Tryz.prog zlh := ⟨z0k (z0s zbe) (z1l _), z1b _, z1a _⟩
def zcd : Shp := ⟨1, 0, [(0, .d .bool)], []⟩
def zdk : XS := .one .ret zcd.xe
theorem zif : zdk.OK := XS.one_ok (z0d zcd)
def z8h (t0 : List Int) (t1 : List Int) : Option ((Bool)) :=
 (z4u t0 t1).bind fun r =>
 some r
def zdn : Sig := ⟨31, [.d .str, .d .str], [], 0, zdk⟩
def zd1 (x : (List Int) × (List Int)) : Option ((Bool)) := z8h x.1 x.2
theorem zki : FnOK Tryz.prog zdn zd1 :=
 fn_ok zj0 (h := .no) Tryz.func31 (z0x [] (by kernel_rfl) trivial) (by kernel_rfl) zif (fun x => by kernel_rfl)
def z5g : Ent := zp1 98
theorem z9v : EntOK Tryz.prog z5g := zxh Tryz.func98 (by kernel_rfl) (by kernel_rfl) (by kernel_rfl) (by kernel_rfl)
def zc0 : Env := ⟨[z5g], [], []⟩
theorem zb8 : EnvsOK Tryz.prog zc0 := ⟨z0k z9v (z1l _), z1b _, z1a _⟩
def z5u : Shp := ⟨1, 0, [(0, .d (.int .i64))], []⟩
def z6m : XS := .one .ret z5u.xe
theorem zaw : z6m.OK := XS.one_ok (z0d z5u)
def z2y (t0 : List Int) (c : Int) : Option ((Int)) :=
 z0l (List.length t0) (
 some (zij t0 c))
def z6r : Sig := ⟨82, [.d .str, .d (.int .u8)], [], 0, z6m⟩
def z6a (x : (List Int) × Int) : Option ((Int)) := z2y x.1 x.2
theorem zba : FnOK Tryz.prog z6r z6a :=
 fn_ok zb8 (h := .no) Tryz.func82 (z0x [] (by kernel_rfl) trivial) (by kernel_rfl) zaw (fun x => by kernel_rfl)
def zdx : Env := ⟨[(entQ z6r z6a)], [], []⟩
theorem zd2 : EnvsOK Tryz.prog zdx := ⟨z0k (z0s zba) (z1l _), z1b _, z1a _⟩
def z5f : Shp := ⟨143, 0, [(0, .d .str), (1, .d .str), (5, .d (.int .i64)), (16, .d .bool)], []⟩
def z3l : XS := .one .normal z5f.xe
theorem z9w : z3l.OK := XS.one_ok (z0d z5f)
def z7c : Shp := ⟨1, 0, [(0, .d (.int .i64))], []⟩
def z8k : XS := .one .ret z7c.xe
theorem zck : z8k.OK := XS.one_ok (z0d z7c)
def z4g (t0 : List Int) (substr : List Int) : Option ((Int)) :=
 z0l (List.length substr) (
 (show Option (((List Int) × (List Int) × Int × Bool)) from
 bif eqI (List.length substr : Nat) 0 then
 some (t0, substr, (List.length substr : Nat), true)
 else
 some (t0, substr, (List.length substr : Nat), eqS substr t0)).bind fun j =>
 bif j.2.2.2 then
 some 0
 else
 bif eqI j.2.2.1 1 then
 (idxI j.2.1 0).bind fun x =>
 (z2y j.1 x).bind fun r =>
 some r
 else
 z0l (List.length j.1) (
 bif leI (List.length j.1 : Nat) j.2.2.1 then
 some (-1)
 else
 none))
def z8n : Sig := ⟨75, [.d .str, .d .str], [], 0, z8k⟩
def z8d (x : (List Int) × (List Int)) : Option ((Int)) := z4g x.1 x.2
theorem zdj : FnOK Tryz.prog z8n z8d :=
 fn_ok zd2 (h := (.two .no (.two .no (.two (.join (fun _ => z3l) .no .no) .no)))) Tryz.func75 (z0x [.xs (fun _ => z3l)] (by kernel_rfl) ⟨(zrf z9w), trivial⟩) (by kernel_rfl) zck (fun x => by kernel_rfl)
def zf6 : Env := ⟨[(entQ z8n z8d)], [], []⟩
theorem ze7 : EnvsOK Tryz.prog zf6 := ⟨z0k (z0s zdj) (z1l _), z1b _, z1a _⟩
def z8i : Shp := ⟨1, 0, [(0, .tu [.d .str, .d .str, .d .bool])], []⟩
def z9l : XS := .one .ret z8i.xe
theorem zdi : z9l.OK := XS.one_ok (z0d z8i)
def z4t (t0 : List Int) (sep : List Int) : Option (((List Int) × (List Int) × Bool)) :=
 (z4g t0 sep).bind fun r =>
 bif leI 0 r then
 bif subOk 0 r (List.length t0) then
 z0l (List.length sep) (
 bif subOk (W64 (r + (List.length sep : Nat))) (List.length t0 : Nat) (List.length t0) then
 some ((subL t0 0 r, subL t0 (W64 (r + (List.length sep : Nat))) (List.length t0 : Nat), true))
 else none)
 else none
 else
 some (t0, ([] : List Int), false)
def z9r : Sig := ⟨61, [.d .str, .d .str], [], 0, z9l⟩
def z9c (x : (List Int) × (List Int)) : Option (((List Int) × (List Int) × Bool)) := z4t x.1 x.2
theorem zeo : FnOK Tryz.prog z9r z9c :=
 fn_ok ze7 (h := .no) Tryz.func61 (z0x [] (by kernel_rfl) trivial) (by kernel_rfl) zdi (fun x => by kernel_rfl)
def ztk : Env := ⟨[(entQ z9r z9c)], [], []⟩
theorem zpq : EnvsOK Tryz.prog ztk := ⟨z0k (z0s zeo) (z1l _), z1b _, z1a _⟩
def zhr : Shp := ⟨1, 0, [(0, .tu [.d .str, .d .str, .d .bool])], []⟩
def zkr : XS := .one .ret zhr.xe
theorem zos : zkr.OK := XS.one_ok (z0d zhr)
def zbl (t0 : List Int) (sep : List Int) : Option (((List Int) × (List Int) × Bool)) :=
 (z4t t0 sep).bind fun r =>
 some (r.1, r.2.1, r.2.2)
def zl7 : Sig := ⟨43, [.d .str, .d .str], [], 0, zkr⟩
def ziq (x : (List Int) × (List Int)) : Option (((List Int) × (List Int) × Bool)) := zbl x.1 x.2
theorem zro : FnOK Tryz.prog zl7 ziq :=
 fn_ok zpq (h := .no) Tryz.func43 (z0x [] (by kernel_rfl) trivial) (by kernel_rfl) zos (fun x => by kernel_rfl)
def zx6 : Env := ⟨[(entQ zl7 ziq), (entQ zqk zoj), (entQ zmw zl5)], [], []⟩
theorem ztp : EnvsOK Tryz.prog zx6 := ⟨z0k (z0s zro) (z0k (z0s zww) (z0k (z0s zti) (z1l _))), z1b _, z1a _⟩
def zl9 : Shp := ⟨1, 0, [(0, .d .bool)], []⟩
def zoe : XS := .one .ret zl9.xe
theorem zrq : zoe.OK := XS.one_ok (z0d zl9)
def zhh (t0 : List Int) : Option ((Bool)) :=
 bif eqS t0 ([108, 111, 115, 116, 43, 102, 111, 117, 110, 100] : List Int) then
 some true
 else
 (zbl t0 ([126] : List Int)).bind fun r =>
 (zkp r.1).bind fun r2 =>
 bif !r2 then
 some false
 else
 (zbl r.2.1 ([46] : List Int)).bind fun r3 =>
 bif !r.2.2 then
 some true
 else
 bif r3.2.2 then
 (zcn r3.1).bind fun r4 =>
 bif r4 then
 (zcn r3.2.1).bind fun r5 =>
 some r5
 else
 some false
 else
 some false
def zo6 : Sig := ⟨33, [.d .str], [], 0, zoe⟩
def zlz (x : (List Int)) : Option ((Bool)) := zhh x
theorem zvd : FnOK Tryz.prog zo6 zlz :=
 fn_ok ztp (h := .no) Tryz.func33 (z0x [] (by kernel_rfl) trivial) (by kernel_rfl) zrq (fun x => by kernel_rfl)
def zug : Env := ⟨[(entQ zdn zd1), (entQ zoi zlu), (entQ zo6 zlz)], [], []⟩
theorem zj4 : EnvsOK Tryz.prog zug := ⟨z0k (z0s zki) (z0k (z0s zva) (z0k (z0s zvd) (z1l _))), z1b _, z1a _⟩
def z7m : Shp := ⟨34, 0, [(4, .d (.sl .str))], []⟩
def z7p : Shp := ⟨34, 0, [(2, .d (.sl .str)), (3, .d (.int .i64))], []⟩
def z2f : XS := .or (.exit 0) z7m.xe (.one .ret z7p.xe)
theorem zcl : z2f.OK := XS.or_ok (z0d z7m) (XS.one_ok (z0d z7p))
def z2h : Shp := ⟨34, 0, [(4, .d (.sl .str)), (23, .d (.sl .str)), (24, .d (.int .i64)), (25, .d (.int .i64))], []⟩
abbrev z5e := (List (List Int)) × (List (List Int)) × Int × Int
abbrev z8j := ((List (List Int))) ⊕ ((List (List Int)) × Int)
def z5b (l : List (List Int)) (t23 : List (List Int)) (t24 : Int) (t25 : Int) : Option (z5e ⊕ z8j) :=
 bif ltI t25 t24 then
 (idxI t23 t25).bind fun x =>
 (zhh x).bind fun r =>
 bif !r then
 some (.inr (.inr ([], 20)))
 else
 some (.inl (l, t23, t24, W64 (t25 + 1)))
 else
 some (.inr (.inl l))
def z0q (s : z5e) : Option (z5e ⊕ z8j) := z5b s.1 s.2.1 s.2.2.1 s.2.2.2
theorem zcy : SoundD Tryz.prog (.loop (subC (bodyC Tryz.f21) [1, 1, 1, 1, 1, 0, 1, 0, 0])) (loopD z2h.xe z2f (loopC z0q)) :=
 z4o (S := z2h.xe) (X := z2f) zj4 (h := .no) (z0x [] (by kernel_rfl) trivial) (z0d z2h) zcl z0q (fun s => by kernel_rfl)
def zj9 : Shp := ⟨1, 0, [(0, .tu [.d (.sl .str), .d (.int .i64)])], []⟩
def zm9 : XS := .one .ret zj9.xe
theorem zq4 : zm9.OK := XS.one_ok (z0d zj9)
def zat (t0 : List Int) : Option (((List (List Int)) × Int)) :=
 z0l (List.length t0) (
 bif ltI 120 (List.length t0 : Nat) then
 some ([], 20)
 else
 (z8h t0 ([47] : List Int)).bind fun r =>
 bif !r then
 some ([], 20)
 else
 bif eqS t0 ([47] : List Int) then
 some ([], 0)
 else
 bif subOk 1 (List.length t0 : Nat) (List.length t0) then
 (zch (subL t0 1 (List.length t0 : Nat)) ([47] : List Int)).bind fun r2 =>
 z0l (List.length r2) (
 bif ltI 10 (List.length r2 : Nat) then
 some ([], 20)
 else
 z0l (List.length r2) (
 (loopC z0q (r2, r2, (List.length r2 : Nat), 0)).bind fun o =>
 Sum.elim (fun y =>
 some (y, 0)) (fun y2 =>
 some (y2.1, y2.2)) o))
 else none)
def zh5 : Sig := ⟨21, [.d .str], [], 0, zm9⟩
def zf4 (x : (List Int)) : Option (((List (List Int)) × Int)) := zat x
theorem zkt : FnOK Tryz.prog zh5 zf4 :=
 fn_ok zj4 (h := (.two .no (.two .no (.two .no (.two .no (.two .no (.two (.two .no (.over (loopD z2h.xe z2f (loopC z0q)))) .no))))))) Tryz.func21 (z0x [.den (.loop (subC (bodyC Tryz.f21) [1, 1, 1, 1, 1, 0, 1, 0, 0])) (loopD z2h.xe z2f (loopC z0q))] (by kernel_rfl) ⟨zcy, trivial⟩) (by kernel_rfl) zq4 (fun x => by kernel_rfl)
def zts : Env := ⟨[(entQ zh5 zf4)], [], []⟩
theorem zhv : EnvsOK Tryz.prog zts := ⟨z0k (z0s zkt) (z1l _), z1b _, z1a _⟩
def z8e : Shp := ⟨48, 0, [], []⟩
def z8g : Shp := ⟨48, 0, [(4, .d .bool)], []⟩
def z2i : XS := .or (.exit 0) z8e.xe (.one .ret z8g.xe)
theorem zd7 : z2i.OK := XS.or_ok (z0d z8e) (XS.one_ok (z0d z8g))
def z2j : Shp := ⟨48, 0, [(5, .d (.sl .str)), (34, .d (.sl .str)), (35, .d (.int .i64)), (36, .d (.int .i64))], []⟩
abbrev z5l := (List (List Int)) × (List (List Int)) × Int × Int
abbrev z9a := (Unit) ⊕ (Bool)
def z5j (a : List (List Int)) (t34 : List (List Int)) (t35 : Int) (t36 : Int) : Option (z5l ⊕ z9a) :=
 bif ltI t36 t35 then
 (idxI t34 t36).bind fun x =>
 (idxI a t36).bind fun x2 =>
 bif !(eqS x2 x) then
 some (.inr (.inr false))
 else
 some (.inl (a, t34, t35, W64 (t36 + 1)))
 else
 some (.inr (.inl ()))
def z0u (s : z5l) : Option (z5l ⊕ z9a) := z5j s.1 s.2.1 s.2.2.1 s.2.2.2
theorem zdh : SoundD Tryz.prog (.loop (subC (bodyC Tryz.f22) [1, 1, 1, 1, 0, 1, 0, 0])) (loopD z2j.xe z2i (loopC z0u)) :=
 z4o (S := z2j.xe) (X := z2i) zhv (h := .no) (z0x [] (by kernel_rfl) trivial) (z0d z2j) zd7 z0u (fun s => by kernel_rfl)
def zhu : Shp := ⟨1, 0, [(0, .d .bool)], []⟩
def zla : XS := .one .ret zhu.xe
theorem zph : zla.OK := XS.one_ok (z0d zhu)
def z9u (t0 : List Int) (top : List Int) : Option ((Bool)) :=
 (zat t0).bind fun r =>
 (zat top).bind fun r2 =>
 bif neI r.2 0 then
 some false
 else
 bif neI r2.2 0 then
 some false
 else
 z0l (List.length r.1) (
 z0l (List.length r2.1) (
 bif ltI (List.length r.1 : Nat) (List.length r2.1 : Nat) then
 some false
 else
 z0l (List.length r2.1) (
 (loopC z0u (r.1, r2.1, (List.length r2.1 : Nat), 0)).bind fun o =>
 Sum.elim (fun y =>
 some true) (fun y2 =>
 some y2) o)))
def zbs : Sig := ⟨22, [.d .str, .d .str], [], 0, zla⟩
def zav (x : (List Int) × (List Int)) : Option ((Bool)) := z9u x.1 x.2
theorem ze8 : FnOK Tryz.prog zbs zav :=
 fn_ok zhv (h := (.two .no (.two .no (.two .no (.two .no (.two (.two .no (.over (loopD z2j.xe z2i (loopC z0u)))) .no)))))) Tryz.func22 (z0x [.den (.loop (subC (bodyC Tryz.f22) [1, 1, 1, 1, 0, 1, 0, 0])) (loopD z2j.xe z2i (loopC z0u))] (by kernel_rfl) ⟨zdh, trivial⟩) (by kernel_rfl) zph (fun x => by kernel_rfl)
def zry : Env := ⟨[(entQ zh5 zf4), (entQ zbs zav)], [(entP zfe zeq), (entP zlm zl3), (entP zl1 zjl)], []⟩
theorem zbt : EnvsOK Tryz.prog zry := ⟨z0k (z0s zkt) (z0k (z0s ze8) (z1l _)), zmh (zrx zmo) (zmh (zrx ztq) (zmh (zrx zrh) (z1b _))), z1a _⟩
def z2m : Shp := ⟨54, 0, [(4, .d (.sl .str)), (5, .wn 0 .str), (16, .d (.sl .str)), (17, .d (.int .i64)), (18, .d (.int .i64)), (40, .d .str), (41, .d .str), (42, .d .bool)], [.row 9 .str]⟩
def z2o : Shp := ⟨54, 0, [(4, .d (.sl .str)), (5, .wn 0 .str), (7, .d .str), (16, .d (.sl .str)), (17, .d (.int .i64)), (18, .d (.int .i64))], [.row 9 .str]⟩
def z0j : XS := .or (.exit 1) z2m.xe (.one (.exit 2) z2o.xe)
theorem z5m : z0j.OK := XS.or_ok (z0d z2m) (XS.one_ok (z0d z2o))
def z0i : Shp := ⟨54, 0, [(4, .d (.sl .str)), (5, .wn 0 .str), (7, .d .str), (16, .d (.sl .str)), (17, .d (.int .i64)), (18, .d (.int .i64)), (30, .d (.sl .str)), (31, .d (.int .i64)), (32, .d (.int .i64))], [.row 9 .str]⟩
abbrev z1h := (List (List Int)) × (List Int) × (List (List Int)) × Int × Int × (List (List Int)) × Int × Int × (List (List Int))
abbrev z1i := ((List (List Int)) × (List (List Int)) × Int × Int × (List Int) × (List Int) × Bool × (List (List Int))) ⊕ ((List (List Int)) × (List Int) × (List (List Int)) × Int × Int × (List (List Int)))
def z1j (sorted : List (List Int)) (t7 : List Int) (t16 : List (List Int)) (t17 : Int) (t18 : Int) (t30 : List (List Int)) (t31 : Int) (t32 : Int) (out : List (List Int)) : Option (z1h ⊕ z1i) :=
 bif ltI t32 t31 then
 (idxI t30 t32).bind fun x =>
 bif !(eqS x t7) then
 (z9u t7 x).bind fun r =>
 bif r then
 bif Nat.beq (List.length out) (List.length out) then
 some (.inr (.inl (sorted, t16, t17, t18, t7, x, r, out)))
 else none
 else
 bif Nat.beq (List.length out) (List.length out) then
 some (.inl (sorted, t7, t16, t17, t18, t30, t31, W64 (t32 + 1), out))
 else none
 else
 bif Nat.beq (List.length out) (List.length out) then
 some (.inl (sorted, t7, t16, t17, t18, t30, t31, W64 (t32 + 1), out))
 else none
 else
 bif Nat.beq (List.length out) (List.length out) then
 some (.inr (.inr (sorted, t7, t16, t17, t18, out)))
 else none
def z0a (s : z1h) : Option (z1h ⊕ z1i) := z1j s.1 s.2.1 s.2.2.1 s.2.2.2.1 s.2.2.2.2.1 s.2.2.2.2.2.1 s.2.2.2.2.2.2.1 s.2.2.2.2.2.2.2.1 s.2.2.2.2.2.2.2.2
theorem z5r : SoundD Tryz.prog (.loop (subC (bodyC Tryz.f8) [1, 0, 1, 1, 1, 0, 1, 0, 0, 1, 1, 0, 0, 1, 1, 0, 1, 0, 0])) (loopD z0i.xe z0j (loopC z0a)) :=
 z4o (S := z0i.xe) (X := z0j) zbt (h := .no) (z0x [] (by kernel_rfl) trivial) (z0d z0i) z5m z0a (fun s => by kernel_rfl)
def z6o : Shp := ⟨54, 0, [(5, .wn 0 .str)], [.row 9 .str]⟩
def z6l : Shp := ⟨54, 0, [(2, .d (.sl .str)), (3, .d (.int .i64))], []⟩
def z1u : XS := .or (.exit 0) z6o.xe (.one .ret z6l.xe)
theorem zbj : z1u.OK := XS.or_ok (z0d z6o) (XS.one_ok (z0d z6l))
def z1s : Shp := ⟨54, 0, [(4, .d (.sl .str)), (5, .wn 0 .str), (16, .d (.sl .str)), (17, .d (.int .i64)), (18, .d (.int .i64))], [.row 9 .str]⟩
abbrev z4s := (List (List Int)) × (List (List Int)) × Int × Int × (List (List Int))
abbrev z0v := ((List (List Int))) ⊕ ((List (List Int)) × Int)
def z1t (sorted : List (List Int)) (t16 : List (List Int)) (t17 : Int) (t18 : Int) (out : List (List Int)) : Option (z4s ⊕ z0v) :=
 bif ltI t18 t17 then
 (idxI t16 t18).bind fun x =>
 (zat x).bind fun r =>
 bif neI r.2 0 then
 some (.inr (.inr ([], r.2)))
 else
 z0l (List.length sorted) (
 bif Nat.beq (List.length out) (List.length out) then
 (loopC z0a (sorted, x, t16, t17, t18, sorted, (List.length sorted : Nat), 0, out)).bind fun o =>
 Sum.elim (fun y =>
 bif Nat.beq (List.length y.2.2.2.2.2.2.2) (List.length y.2.2.2.2.2.2.2) then
 some (.inl (y.1, y.2.1, y.2.2.1, W64 (y.2.2.2.1 + 1), y.2.2.2.2.2.2.2))
 else none) (fun y2 =>
 bif Nat.beq (List.length y2.2.2.2.2.2) (List.length y2.2.2.2.2.2) then
 appG (List.length y2.2.2.2.2.2) (List.length ([y2.2.1] : List (List Int))) 16 fun _ =>
 bif Nat.beq (List.length (y2.2.2.2.2.2 ++ ([y2.2.1] : List (List Int)))) (List.length (y2.2.2.2.2.2 ++ ([y2.2.1] : List (List Int)))) then
 some (.inl (y2.1, y2.2.2.1, y2.2.2.2.1, W64 (y2.2.2.2.2.1 + 1), y2.2.2.2.2.2 ++ ([y2.2.1] : List (List Int))))
 else none
 else none) o
 else none)
 else
 bif Nat.beq (List.length out) (List.length out) then
 some (.inr (.inl out))
 else none
def z0f (s : z4s) : Option (z4s ⊕ z0v) := z1t s.1 s.2.1 s.2.2.1 s.2.2.2.1 s.2.2.2.2
theorem zc4 : SoundD Tryz.prog (.loop (subC (bodyC Tryz.f8) [1, 0, 1, 1, 1, 0, 1, 0, 0])) (loopD z1s.xe z1u (loopC z0f)) :=
 z4o (S := z1s.xe) (X := z1u) zbt (h := (.two .no (.two .no (.two (.two .no (.two .no (.two (.two .no (.over (loopD z0i.xe z0j (loopC z0a)))) .no))) .no)))) (z0x [.den (.loop (subC (bodyC Tryz.f8) [1, 0, 1, 1, 1, 0, 1, 0, 0, 1, 1, 0, 0, 1, 1, 0, 1, 0, 0])) (loopD z0i.xe z0j (loopC z0a))] (by kernel_rfl) ⟨z5r, trivial⟩) (z0d z1s) zbj z0f (fun s => by kernel_rfl)
def zh4 : Shp := ⟨1, 0, [(0, .tu [.d (.sl .str), .d (.int .i64)])], []⟩
def zji : XS := .one .ret zh4.xe
theorem znx : zji.OK := XS.one_ok (z0d zh4)
def zak (l : List (List Int)) : Option (((List (List Int)) × Int)) :=
 (zdb l).bind fun r =>
 (zft r).bind fun r2 =>
 bif Nat.beq (List.length r2.2) (List.length r2.2) then
 (zeh r2.2).bind fun r3 =>
 z0l (List.length r3) (
 bif Nat.beq 0 (List.length ([] : List (List Int))) then
 (loopC z0f (r3, r3, (List.length r3 : Nat), 0, ([] : List (List Int)))).bind fun o =>
 Sum.elim (fun y =>
 z0l (List.length y) (
 bif ltI 8 (List.length y : Nat) then
 some ([], 4)
 else
 winK y 0 (List.length y) fun w =>
 some (w, 0))) (fun y2 =>
 some (y2.1, y2.2)) o
 else none)
 else none
def zdq : Sig := ⟨8, [.d (.sl .str)], [], 0, zji⟩
def zd0 (x : (List (List Int))) : Option (((List (List Int)) × Int)) := zak x
theorem zhw : FnOK Tryz.prog zdq zd0 :=
 fn_ok zbt (h := (.two .no (.two .no (.two .no (.two .no (.two (.two .no (.over (loopD z1s.xe z1u (loopC z0f)))) .no)))))) Tryz.func8 (z0x [.den (.loop (subC (bodyC Tryz.f8) [1, 0, 1, 1, 1, 0, 1, 0, 0])) (loopD z1s.xe z1u (loopC z0f))] (by kernel_rfl) ⟨zc4, trivial⟩) (by kernel_rfl) znx (fun x => by kernel_rfl)
def zrr : Env := ⟨[(entQ zbs zav)], [], []⟩
theorem zp4 : EnvsOK Tryz.prog zrr := ⟨z0k (z0s ze8) (z1l _), z1b _, z1a _⟩
def zgr : Shp := ⟨1, 0, [(0, .d .bool)], []⟩
def zik : XS := .one .ret zgr.xe
theorem znv : zik.OK := XS.one_ok (z0d zgr)
def zgj (t0 : List Int) (t1 : List Int) : Option ((Bool)) :=
 (z9u t1 t0).bind fun r =>
 some r
def ziz : Sig := ⟨24, [.d .str, .rf (.d .str)], [], 0, zik⟩
def zhe (x : (List Int) × (List Int)) : Option ((Bool)) := zgj x.1 x.2
theorem zqo : FnOK Tryz.prog ziz zhe :=
 fn_ok zp4 (h := .no) Tryz.func24 (z0x [] (by kernel_rfl) trivial) (by kernel_rfl) znv (fun x => by kernel_rfl)
def zn1 : Env := ⟨[(entQ ziz zhe)], [], []⟩
theorem zcx : EnvsOK Tryz.prog zn1 := ⟨z0k (z0s zqo) (z1l _), z1b _, z1a _⟩
def z8p : Shp := ⟨19, 0, [], []⟩
def z8q : Shp := ⟨19, 0, [(4, .d (.int .i64))], []⟩
def z2n : XS := .or (.exit 0) z8p.xe (.one .ret z8q.xe)
theorem zdg : z2n.OK := XS.or_ok (z0d z8p) (XS.one_ok (z0d z8q))
def z2p : Shp := ⟨19, 0, [(0, .d (.sl .str)), (1, .fn 24 [.rf (.d .str)]), (7, .d (.int .i64)), (8, .d (.int .i64))], []⟩
abbrev z5s := (List (List Int)) × (List Int) × Int × Int
abbrev z5p := (Unit) ⊕ (Int)
def z5q (t0 : List (List Int)) (f : List Int) (t7 : Int) (t8 : Int) : Option (z5s ⊕ z5p) :=
 bif ltI t8 t7 then
 (idxI t0 t8).bind fun x =>
 (zgj x f).bind fun r =>
 bif r then
 some (.inr (.inr t8))
 else
 some (.inl (t0, f, t7, W64 (t8 + 1)))
 else
 some (.inr (.inl ()))
def z0w (s : z5s) : Option (z5s ⊕ z5p) := z5q s.1 s.2.1 s.2.2.1 s.2.2.2
theorem zdr : SoundD Tryz.prog (.loop (subC (bodyC Tryz.f34) [1, 0, 1, 0, 0])) (loopD z2p.xe z2n (loopC z0w)) :=
 z4o (S := z2p.xe) (X := z2n) zcx (h := .no) (z0x [] (by kernel_rfl) trivial) (z0d z2p) zdg z0w (fun s => by kernel_rfl)
def zco : Shp := ⟨1, 0, [(0, .d (.int .i64))], []⟩
def zet : XS := .one .ret zco.xe
theorem zip : zet.OK := XS.one_ok (z0d zco)
def zbv (t0 : List (List Int)) (f : List Int) : Option ((Int)) :=
 z0l (List.length t0) (
 (loopC z0w (t0, f, (List.length t0 : Nat), 0)).bind fun o =>
 Sum.elim (fun y =>
 some (-1)) (fun y2 =>
 some y2) o)
def zf1 : Sig := ⟨34, [.d (.sl .str), .fn 24 [.rf (.d .str)]], [], 0, zet⟩
def zdm (x : (List (List Int)) × (List Int)) : Option ((Int)) := zbv x.1 x.2
theorem zlg : FnOK Tryz.prog zf1 zdm :=
 fn_ok zcx (h := (.two .no (.two (.two .no (.over (loopD z2p.xe z2n (loopC z0w)))) .no))) Tryz.func34 (z0x [.den (.loop (subC (bodyC Tryz.f34) [1, 0, 1, 0, 0])) (loopD z2p.xe z2n (loopC z0w))] (by kernel_rfl) ⟨zdr, trivial⟩) (by kernel_rfl) zip (fun x => by kernel_rfl)
def zix : Env := ⟨[(entQ zf1 zdm)], [], []⟩
theorem zhd : EnvsOK Tryz.prog zix := ⟨z0k (z0s zlg) (z1l _), z1b _, z1a _⟩
def zb1 : Shp := ⟨1, 0, [(0, .d .bool)], []⟩
def zc9 : XS := .one .ret zb1.xe
theorem zha : zc9.OK := XS.one_ok (z0d zb1)
def z6s (t0 : List (List Int)) (f : List Int) : Option ((Bool)) :=
 (zbv t0 f).bind fun r =>
 some (leI 0 r)
def zcg : Sig := ⟨23, [.d (.sl .str), .fn 24 [.rf (.d .str)]], [], 0, zc9⟩
def zbn (x : (List (List Int)) × (List Int)) : Option ((Bool)) := z6s x.1 x.2
theorem zi7 : FnOK Tryz.prog zcg zbn :=
 fn_ok zhd (h := .no) Tryz.func23 (z0x [] (by kernel_rfl) trivial) (by kernel_rfl) zha (fun x => by kernel_rfl)
def zv5 : Env := ⟨[(entQ zcg zbn)], [], []⟩
theorem zrm : EnvsOK Tryz.prog zv5 := ⟨z0k (z0s zi7) (z1l _), z1b _, z1a _⟩
def zin : Shp := ⟨1, 0, [(0, .d .bool)], []⟩
def zmc : XS := .one .ret zin.xe
theorem zr3 : zmc.OK := XS.one_ok (z0d zin)
def z5x (l : List (List Int)) (t1 : List Int) : Option ((Bool)) :=
 z0l (List.length l) (
 bif eqI (List.length l : Nat) 0 then
 some true
 else
 (z6s l t1).bind fun r =>
 some r)
def zcp : Sig := ⟨9, [.d (.sl .str), .d .str], [], 0, zmc⟩
def zbp (x : (List (List Int)) × (List Int)) : Option ((Bool)) := z5x x.1 x.2
theorem zf3 : FnOK Tryz.prog zcp zbp :=
 fn_ok zrm (h := .no) Tryz.func9 (z0x [] (by kernel_rfl) trivial) (by kernel_rfl) zr3 (fun x => by kernel_rfl)
def zoo : Env := ⟨[(entQ zbs zav)], [], []⟩
theorem zmk : EnvsOK Tryz.prog zoo := ⟨z0k (z0s ze8) (z1l _), z1b _, z1a _⟩
def zew : Shp := ⟨1, 0, [(0, .d .bool)], []⟩
def zh1 : XS := .one .ret zew.xe
theorem zle : zh1.OK := XS.one_ok (z0d zew)
def zdv (t0 : List Int) (t1 : List Int) : Option ((Bool)) :=
 (z9u t0 t1).bind fun r =>
 some r
def zgi : Sig := ⟨25, [.d .str, .rf (.d .str)], [], 0, zh1⟩
def zfc (x : (List Int) × (List Int)) : Option ((Bool)) := zdv x.1 x.2
theorem znw : FnOK Tryz.prog zgi zfc :=
 fn_ok zmk (h := .no) Tryz.func25 (z0x [] (by kernel_rfl) trivial) (by kernel_rfl) zle (fun x => by kernel_rfl)
def zkl : Env := ⟨[(entQ zgi zfc)], [], []⟩
theorem zbm : EnvsOK Tryz.prog zkl := ⟨z0k (z0s znw) (z1l _), z1b _, z1a _⟩
def z7s : Shp := ⟨19, 0, [], []⟩
def z7g : Shp := ⟨19, 0, [(4, .d (.int .i64))], []⟩
def z2c : XS := .or (.exit 0) z7s.xe (.one .ret z7g.xe)
theorem zcj : z2c.OK := XS.or_ok (z0d z7s) (XS.one_ok (z0d z7g))
def z2e : Shp := ⟨19, 0, [(0, .d (.sl .str)), (1, .fn 25 [.rf (.d .str)]), (7, .d (.int .i64)), (8, .d (.int .i64))], []⟩
abbrev z4z := (List (List Int)) × (List Int) × Int × Int
abbrev z5c := (Unit) ⊕ (Int)
def z5a (t0 : List (List Int)) (f : List Int) (t7 : Int) (t8 : Int) : Option (z4z ⊕ z5c) :=
 bif ltI t8 t7 then
 (idxI t0 t8).bind fun x =>
 (zdv x f).bind fun r =>
 bif r then
 some (.inr (.inr t8))
 else
 some (.inl (t0, f, t7, W64 (t8 + 1)))
 else
 some (.inr (.inl ()))
def z0p (s : z4z) : Option (z4z ⊕ z5c) := z5a s.1 s.2.1 s.2.2.1 s.2.2.2
theorem zda : SoundD Tryz.prog (.loop (subC (bodyC Tryz.f34) [1, 0, 1, 0, 0])) (loopD z2e.xe z2c (loopC z0p)) :=
 z4o (S := z2e.xe) (X := z2c) zbm (h := .no) (z0x [] (by kernel_rfl) trivial) (z0d z2e) zcj z0p (fun s => by kernel_rfl)
def zbi : Shp := ⟨1, 0, [(0, .d (.int .i64))], []⟩
def zcv : XS := .one .ret zbi.xe
theorem zhb : zcv.OK := XS.one_ok (z0d zbi)
def zac (t0 : List (List Int)) (f : List Int) : Option ((Int)) :=
 z0l (List.length t0) (
 (loopC z0p (t0, f, (List.length t0 : Nat), 0)).bind fun o =>
 Sum.elim (fun y =>
 some (-1)) (fun y2 =>
 some y2) o)
def zct : Sig := ⟨34, [.d (.sl .str), .fn 25 [.rf (.d .str)]], [], 0, zcv⟩
def zc7 (x : (List (List Int)) × (List Int)) : Option ((Int)) := zac x.1 x.2
theorem zjg : FnOK Tryz.prog zct zc7 :=
 fn_ok zbm (h := (.two .no (.two (.two .no (.over (loopD z2e.xe z2c (loopC z0p)))) .no))) Tryz.func34 (z0x [.den (.loop (subC (bodyC Tryz.f34) [1, 0, 1, 0, 0])) (loopD z2e.xe z2c (loopC z0p))] (by kernel_rfl) ⟨zda, trivial⟩) (by kernel_rfl) zhb (fun x => by kernel_rfl)
def zhc : Env := ⟨[(entQ zct zc7)], [], []⟩
theorem zfz : EnvsOK Tryz.prog zhc := ⟨z0k (z0s zjg) (z1l _), z1b _, z1a _⟩
def z9x : Shp := ⟨1, 0, [(0, .d .bool)], []⟩
def zb3 : XS := .one .ret z9x.xe
theorem zfa : zb3.OK := XS.one_ok (z0d z9x)
def z5n (t0 : List (List Int)) (f : List Int) : Option ((Bool)) :=
 (zac t0 f).bind fun r =>
 some (leI 0 r)
def zb2 : Sig := ⟨23, [.d (.sl .str), .fn 25 [.rf (.d .str)]], [], 0, zb3⟩
def zap (x : (List (List Int)) × (List Int)) : Option ((Bool)) := z5n x.1 x.2
theorem zgo : FnOK Tryz.prog zb2 zap :=
 fn_ok zfz (h := .no) Tryz.func23 (z0x [] (by kernel_rfl) trivial) (by kernel_rfl) zfa (fun x => by kernel_rfl)
def zs6 : Env := ⟨[(entQ zcp zbp), (entQ zb2 zap)], [], []⟩
theorem zpf : EnvsOK Tryz.prog zs6 := ⟨z0k (z0s zf3) (z0k (z0s zgo) (z1l _)), z1b _, z1a _⟩
def zh2 : Shp := ⟨1, 0, [(0, .d .bool)], []⟩
def zjf : XS := .one .ret zh2.xe
theorem zny : zjf.OK := XS.one_ok (z0d zh2)
def z8l (l : List (List Int)) (t1 : List Int) : Option ((Bool)) :=
 (z5x l t1).bind fun r =>
 bif r then
 some true
 else
 (z5n l t1).bind fun r2 =>
 some r2
def zdz : Sig := ⟨10, [.d (.sl .str), .d .str], [], 0, zjf⟩
def zdf (x : (List (List Int)) × (List Int)) : Option ((Bool)) := z8l x.1 x.2
theorem zho : FnOK Tryz.prog zdz zdf :=
 fn_ok zpf (h := .no) Tryz.func10 (z0x [] (by kernel_rfl) trivial) (by kernel_rfl) zny (fun x => by kernel_rfl)
def ztn : Env := ⟨[(entQ zdq zd0), (entQ zcp zbp), (entQ zdz zdf)], [], []⟩
theorem zr2 : EnvsOK Tryz.prog ztn := ⟨z0k (z0s zhw) (z0k (z0s zf3) (z0k (z0s zho) (z1l _))), z1b _, z1a _⟩
def zhj : Shp := ⟨1, 0, [(0, .d .bool)], []⟩
def zkw : XS := .one .ret zhj.xe
theorem zop : zkw.OK := XS.one_ok (z0d zhj)
def z8c  : Option ((Bool)) :=
 (zak ([([47, 98] : List Int), ([47, 97, 47, 99] : List Int), ([47, 97] : List Int)] : List (List Int))).bind fun r =>
 bif eqI r.2 0 then
 z0l (List.length r.1) (
 bif eqI (List.length r.1 : Nat) 2 then
 (idxI r.1 0).bind fun x =>
 bif eqS x ([47, 97] : List Int) then
 (idxI r.1 1).bind fun x2 =>
 bif eqS x2 ([47, 98] : List Int) then
 (z5x r.1 ([47, 97, 47, 120] : List Int)).bind fun r2 =>
 bif r2 then
 (z8l [] ([47] : List Int)).bind fun r3 =>
 some r3
 else
 some false
 else
 some false
 else
 some false
 else
 some false)
 else
 some false
def zky : Sig := ⟨6, [], [], 0, zkw⟩
def zim (x : Unit) : Option ((Bool)) := z8c 
theorem zru : FnOK Tryz.prog zky zim :=
 fn_ok zr2 (h := .no) Tryz.func6 (z0x [] (by kernel_rfl) trivial) (by kernel_rfl) zop (fun x => by kernel_rfl)
def ztx : Env := ⟨[], [], []⟩
theorem zhi : EnvsOK Tryz.prog ztx := ⟨z1l _, z1b _, z1a _⟩
def z9y : Shp := ⟨18, 0, [], []⟩
def za0 : Shp := ⟨18, 0, [(2, .d .bool)], []⟩
def z3p : XS := .or (.exit 0) z9y.xe (.one .ret za0.xe)
theorem zf5 : z3p.OK := XS.or_ok (z0d z9y) (XS.one_ok (z0d za0))
def z3o : Shp := ⟨18, 0, [(8, .d (.sl .str)), (9, .d (.int .i64)), (10, .d (.int .i64))], []⟩
abbrev z6v := (List (List Int)) × Int × Int
abbrev zb4 := (Unit) ⊕ (Bool)
def z6w (t8 : List (List Int)) (t9 : Int) (t10 : Int) : Option (z6v ⊕ zb4) :=
 bif ltI t10 t9 then
 (idxI t8 t10).bind fun x =>
 z0l (List.length x) (
 bif ltI 200 (List.length x : Nat) then
 some (.inr (.inr false))
 else
 some (.inl (t8, t9, W64 (t10 + 1))))
 else
 some (.inr (.inl ()))
def z1f (s : z6v) : Option (z6v ⊕ zb4) := z6w s.1 s.2.1 s.2.2
theorem zfq : SoundD Tryz.prog (.loop (subC (bodyC Tryz.f7) [1, 1, 0, 1, 0, 0])) (loopD z3o.xe z3p (loopC z1f)) :=
 z4o (S := z3o.xe) (X := z3p) zhi (h := .no) (z0x [] (by kernel_rfl) trivial) (z0d z3o) zf5 z1f (fun s => by kernel_rfl)
def zhq : Shp := ⟨1, 0, [(0, .d .bool)], []⟩
def zl8 : XS := .one .ret zhq.xe
theorem zpa : zl8.OK := XS.one_ok (z0d zhq)
def z9t (l : List (List Int)) : Option ((Bool)) :=
 z0l (List.length l) (
 bif ltI 20 (List.length l : Nat) then
 some false
 else
 z0l (List.length l) (
 (loopC z1f (l, (List.length l : Nat), 0)).bind fun o =>
 Sum.elim (fun y =>
 some true) (fun y2 =>
 some y2) o))
def zl6 : Sig := ⟨7, [.d (.sl .str)], [], 0, zl8⟩
def zii (x : (List (List Int))) : Option ((Bool)) := z9t x
theorem zrl : FnOK Tryz.prog zl6 zii :=
 fn_ok zhi (h := (.two .no (.two .no (.two (.two .no (.over (loopD z3o.xe z3p (loopC z1f)))) .no)))) Tryz.func7 (z0x [.den (.loop (subC (bodyC Tryz.f7) [1, 1, 0, 1, 0, 0])) (loopD z3o.xe z3p (loopC z1f))] (by kernel_rfl) ⟨zfq, trivial⟩) (by kernel_rfl) zpa (fun x => by kernel_rfl)
def zu0 : Env := ⟨[], [], []⟩
theorem zj2 : EnvsOK Tryz.prog zu0 := ⟨z1l _, z1b _, z1a _⟩
def z6d : Shp := ⟨72, 0, [(0, .d .str), (3, .d (.int .i64)), (4, .d (.int .u8)), (5, .d .bool), (6, .d .bool), (7, .d .bool)], []⟩
def z4l : XS := .one .normal z6d.xe
theorem zb7 : z4l.OK := XS.one_ok (z0d z6d)
def zan : Shp := ⟨72, 0, [], []⟩
def zam : Shp := ⟨72, 0, [(2, .d .bool)], []⟩
def z4b : XS := .or (.exit 0) zan.xe (.one .ret zam.xe)
theorem zfm : z4b.OK := XS.or_ok (z0d zan) (XS.one_ok (z0d zam))
def z3t : Shp := ⟨72, 0, [(0, .d .str), (3, .d (.int .i64))], []⟩
abbrev z8b := (List Int) × Int
abbrev zbd := (Unit) ⊕ (Bool)
def z7w (t0 : List Int) (i : Int) : Option (z8b ⊕ zbd) :=
 z0l (List.length t0) (
 bif ltI i (List.length t0 : Nat) then
 (idxI t0 i).bind fun x =>
 (show Option (((List Int) × Int × Int × Bool × Bool × Bool)) from
 bif leI 97 x then
 bif leI 65 x then
 bif leI 48 x then
 some (t0, i, x, leI x 122, leI x 90, leI x 57)
 else
 some (t0, i, x, leI x 122, leI x 90, false)
 else
 bif leI 48 x then
 some (t0, i, x, leI x 122, false, leI x 57)
 else
 some (t0, i, x, leI x 122, false, false)
 else
 bif leI 65 x then
 bif leI 48 x then
 some (t0, i, x, false, leI x 90, leI x 57)
 else
 some (t0, i, x, false, leI x 90, false)
 else
 bif leI 48 x then
 some (t0, i, x, false, false, leI x 57)
 else
 some (t0, i, x, false, false, false)).bind fun j =>
 bif !j.2.2.2.1 then
 bif !j.2.2.2.2.1 then
 bif !j.2.2.2.2.2 then
 bif neI j.2.2.1 46 then
 bif neI j.2.2.1 95 then
 bif neI j.2.2.1 45 then
 some (.inr (.inr false))
 else
 some (.inl (j.1, W64 (j.2.1 + 1)))
 else
 some (.inl (j.1, W64 (j.2.1 + 1)))
 else
 some (.inl (j.1, W64 (j.2.1 + 1)))
 else
 some (.inl (j.1, W64 (j.2.1 + 1)))
 else
 some (.inl (j.1, W64 (j.2.1 + 1)))
 else
 some (.inl (j.1, W64 (j.2.1 + 1)))
 else
 some (.inr (.inl ())))
def z1z (s : z8b) : Option (z8b ⊕ zbd) := z7w s.1 s.2
theorem zgu : SoundD Tryz.prog (.loop (subC (bodyC Tryz.f35) [1, 1, 0, 1, 0, 0])) (loopD z3t.xe z4b (loopC z1z)) :=
 z4o (S := z3t.xe) (X := z4b) zj2 (h := (.two .no (.two (.two .no (.join (fun _ => z4l) .no .no)) .no))) (z0x [.xs (fun _ => z4l)] (by kernel_rfl) ⟨(zrf zb7), trivial⟩) (z0d z3t) zfm z1z (fun s => by kernel_rfl)
def ziw : Shp := ⟨1, 0, [(0, .d .bool)], []⟩
def zmv : XS := .one .ret ziw.xe
theorem zqn : zmv.OK := XS.one_ok (z0d ziw)
def zdc (t0 : List Int) : Option ((Bool)) :=
 bif eqS t0 ([] : List Int) then
 some false
 else
 z0l (List.length t0) (
 bif ltI 12 (List.length t0 : Nat) then
 some false
 else
 bif eqS t0 ([46] : List Int) then
 some false
 else
 bif eqS t0 ([46, 46] : List Int) then
 some false
 else
 (loopC z1z (t0, 0)).bind fun o =>
 Sum.elim (fun y =>
 some true) (fun y2 =>
 some y2) o)
def zmy : Sig := ⟨35, [.d .str], [], 0, zmv⟩
def zlb (x : (List Int)) : Option ((Bool)) := zdc x
theorem ztr : FnOK Tryz.prog zmy zlb :=
 fn_ok zj2 (h := (.two .no (.two .no (.two (.two .no (.over (loopD z3t.xe z4b (loopC z1z)))) .no)))) Tryz.func35 (z0x [.den (.loop (subC (bodyC Tryz.f35) [1, 1, 0, 1, 0, 0])) (loopD z3t.xe z4b (loopC z1z))] (by kernel_rfl) ⟨zgu, trivial⟩) (by kernel_rfl) zqn (fun x => by kernel_rfl)
def zs4 : Env := ⟨[], [], []⟩
theorem zgz : EnvsOK Tryz.prog zs4 := ⟨z1l _, z1b _, z1a _⟩
def zai : Shp := ⟨52, 0, [(1, .d (.int .i64)), (6, .d (.int .i64))], []⟩
def za9 : Shp := ⟨52, 0, [(4, .d (.int .i64))], []⟩
def z3v : XS := .or (.exit 0) zai.xe (.one .ret za9.xe)
theorem zfh : z3v.OK := XS.or_ok (z0d zai) (XS.one_ok (z0d za9))
def z3w : Shp := ⟨52, 0, [(0, .d .str), (1, .d (.int .i64)), (5, .d (.int .i64)), (6, .d (.int .i64))], []⟩
abbrev z7y := (List Int) × Int × Int × Int
abbrev zbh := (Int × Int) ⊕ (Int)
def z7z (t0 : List Int) (t1 : Int) (n : Int) (t6 : Int) : Option (z7y ⊕ zbh) :=
 z0l (List.length t0) (
 bif ltI t6 (List.length t0 : Nat) then
 (idxI t0 t6).bind fun x =>
 bif leI 48 x then
 (idxI t0 t6).bind fun x2 =>
 bif leI x2 57 then
 (idxI t0 t6).bind fun x3 =>
 bif ltI 4294967295 (W64 ((W64 (10 * n)) + (W64 (WU8 (x3 - 48))))) then
 some (.inr (.inr (-1)))
 else
 bif ltI (W64 (t1 + 1)) (W64 (t6 + 1)) then
 (idxI t0 t1).bind fun x4 =>
 bif eqI x4 48 then
 some (.inr (.inr (-1)))
 else
 some (.inl ((t0, t1, W64 ((W64 (10 * n)) + (W64 (WU8 (x3 - 48)))), W64 (t6 + 1))))
 else
 some (.inl ((t0, t1, W64 ((W64 (10 * n)) + (W64 (WU8 (x3 - 48)))), W64 (t6 + 1))))
 else
 some (.inr (.inl (t1, t6)))
 else
 some (.inr (.inl (t1, t6)))
 else
 some (.inr (.inl (t1, t6))))
def z1y (s : z7y) : Option (z7y ⊕ zbh) := z7z s.1 s.2.1 s.2.2.1 s.2.2.2
theorem zh3 : SoundD Tryz.prog (.loop (subC (bodyC Tryz.f36) [1, 1, 0, 0, 0])) (loopD z3w.xe z3v (loopC z1y)) :=
 z4o (S := z3w.xe) (X := z3v) zgz (h := .no) (z0x [] (by kernel_rfl) trivial) (z0d z3w) zfh z1y (fun s => by kernel_rfl)
def zh9 : Shp := ⟨1, 0, [(0, .d (.int .i64))], []⟩
def ziy : XS := .one .ret zh9.xe
theorem znt : ziy.OK := XS.one_ok (z0d zh9)
def zaf (t0 : List Int) (t1 : Int) : Option ((Int)) :=
 (loopC z1y (t0, t1, 0, t1)).bind fun o =>
 Sum.elim (fun y =>
 bif eqI y.2 y.1 then
 some (-1)
 else
 some y.2) (fun y2 =>
 some y2) o
def zjj : Sig := ⟨36, [.d .str, .d (.int .i64)], [], 0, ziy⟩
def zhg (x : (List Int) × Int) : Option ((Int)) := zaf x.1 x.2
theorem zpm : FnOK Tryz.prog zjj zhg :=
 fn_ok zgz (h := (.two .no (.two .no (.two (.over (loopD z3w.xe z3v (loopC z1y))) .no)))) Tryz.func36 (z0x [.den (.loop (subC (bodyC Tryz.f36) [1, 1, 0, 0, 0])) (loopD z3w.xe z3v (loopC z1y))] (by kernel_rfl) ⟨zh3, trivial⟩) (by kernel_rfl) znt (fun x => by kernel_rfl)
def zw7 : Env := ⟨[(entQ zmy zlb), (entQ zjj zhg)], [], []⟩
theorem zjp : EnvsOK Tryz.prog zw7 := ⟨z0k (z0s ztr) (z0k (z0s zpm) (z1l _)), z1b _, z1a _⟩
def za2 : Shp := ⟨53, 0, [], []⟩
def zal : Shp := ⟨53, 0, [(2, .d .bool)], []⟩
def z4c : XS := .or (.exit 0) za2.xe (.one .ret zal.xe)
theorem zg2 : z4c.OK := XS.or_ok (z0d za2) (XS.one_ok (z0d zal))
def z3u : Shp := ⟨53, 0, [(0, .d .str), (3, .d (.int .i64))], []⟩
abbrev z7x := (List Int) × Int
abbrev zbg := (Unit) ⊕ (Bool)
def z7v (t0 : List Int) (i : Int) : Option (z7x ⊕ zbg) :=
 z0l (List.length t0) (
 bif ltI i (List.length t0 : Nat) then
 (idxI t0 i).bind fun x =>
 bif neI x 126 then
 some (.inl (t0, W64 (i + 1)))
 else
 (zaf t0 (W64 (i + 1))).bind fun r =>
 bif subOk 0 i (List.length t0) then
 (zdc (subL t0 0 i)).bind fun r2 =>
 bif !r2 then
 some (.inr (.inr false))
 else
 bif ltI r 0 then
 some (.inr (.inr false))
 else
 z0l (List.length t0) (
 bif leI (List.length t0 : Nat) r then
 some (.inr (.inr false))
 else
 (idxI t0 r).bind fun x2 =>
 bif neI x2 46 then
 some (.inr (.inr false))
 else
 (zaf t0 (W64 (r + 1))).bind fun r3 =>
 z0l (List.length t0) (
 some (.inr (.inr (eqI r3 (List.length t0 : Nat))))))
 else none
 else
 some (.inr (.inl ())))
def z1w (s : z7x) : Option (z7x ⊕ zbg) := z7v s.1 s.2
theorem zgx : SoundD Tryz.prog (.loop (subC (bodyC Tryz.f26) [1, 1, 0, 1, 0, 0])) (loopD z3u.xe z4c (loopC z1w)) :=
 z4o (S := z3u.xe) (X := z4c) zjp (h := .no) (z0x [] (by kernel_rfl) trivial) (z0d z3u) zg2 z1w (fun s => by kernel_rfl)
def zj1 : Shp := ⟨1, 0, [(0, .d .bool)], []⟩
def zmd : XS := .one .ret zj1.xe
theorem zq6 : zmd.OK := XS.one_ok (z0d zj1)
def zfo (t0 : List Int) : Option ((Bool)) :=
 bif eqS t0 ([108, 111, 115, 116, 43, 102, 111, 117, 110, 100] : List Int) then
 some true
 else
 (zdc t0).bind fun r =>
 bif r then
 some true
 else
 (loopC z1w (t0, 0)).bind fun o =>
 Sum.elim (fun y =>
 some false) (fun y2 =>
 some y2) o
def zna : Sig := ⟨26, [.d .str], [], 0, zmd⟩
def zl0 (x : (List Int)) : Option ((Bool)) := zfo x
theorem zty : FnOK Tryz.prog zna zl0 :=
 fn_ok zjp (h := (.two .no (.two .no (.two (.two .no (.over (loopD z3u.xe z4c (loopC z1w)))) .no)))) Tryz.func26 (z0x [.den (.loop (subC (bodyC Tryz.f26) [1, 1, 0, 1, 0, 0])) (loopD z3u.xe z4c (loopC z1w))] (by kernel_rfl) ⟨zgx, trivial⟩) (by kernel_rfl) zq6 (fun x => by kernel_rfl)
def ztw : Env := ⟨[(entQ zna zl0)], [], []⟩
theorem zhz : EnvsOK Tryz.prog ztw := ⟨z0k (z0s zty) (z1l _), z1b _, z1a _⟩
def z4y : Shp := ⟨58, 0, [(0, .d .str), (4, .wn 0 .str), (5, .d (.int .i64)), (6, .d (.int .i64))], [.row 9 .str]⟩
def z4x : Shp := ⟨58, 0, [(0, .d .str), (4, .wn 0 .str), (5, .d (.int .i64)), (6, .d (.int .i64)), (32, .d .str), (33, .d (.int .i64)), (34, .d (.int .u8)), (35, .d .bool)], [.row 9 .str]⟩
def z3g : XS := .or .normal z4y.xe (.one (.exit 1) z4x.xe)
theorem z9n : z3g.OK := XS.or_ok (z0d z4y) (XS.one_ok (z0d z4x))
def z6t : Shp := ⟨58, 0, [(4, .wn 0 .str)], [.row 9 .str]⟩
def z6u : Shp := ⟨58, 0, [(2, .d (.sl .str)), (3, .d (.int .i64))], []⟩
def z2a : XS := .or (.exit 0) z6t.xe (.one .ret z6u.xe)
theorem zc5 : z2a.OK := XS.or_ok (z0d z6t) (XS.one_ok (z0d z6u))
def z2b : Shp := ⟨58, 0, [(0, .d .str), (4, .wn 0 .str), (5, .d (.int .i64)), (6, .d (.int .i64))], [.row 9 .str]⟩
abbrev z4v := (List Int) × Int × Int × (List (List Int))
abbrev z8f := ((List (List Int))) ⊕ ((List (List Int)) × Int)
def z4w (t0 : List Int) (t5 : Int) (i : Int) (out : List (List Int)) : Option (z4v ⊕ z8f) :=
 z0l (List.length t0) (
 bif leI i (List.length t0 : Nat) then
 (show Option (((List Int) × Int × Int × (List (List Int))) ⊕ ((List Int) × Int × Int × (List Int) × Int × Int × Bool × (List (List Int)))) from
 z0l (List.length t0) (
 bif ltI i (List.length t0 : Nat) then
 (idxI t0 i).bind fun x =>
 bif neI x 47 then
 bif Nat.beq (List.length out) (List.length out) then
 some (.inr (t0, t5, i, t0, i, x, neI x 47, out))
 else none
 else
 bif Nat.beq (List.length out) (List.length out) then
 some (.inl (t0, t5, i, out))
 else none
 else
 bif Nat.beq (List.length out) (List.length out) then
 some (.inl (t0, t5, i, out))
 else none)).bind fun j =>
 Sum.elim (fun y =>
 bif subOk y.2.1 y.2.2.1 (List.length y.1) then
 (zfo (subL y.1 y.2.1 y.2.2.1)).bind fun r =>
 bif !r then
 some (.inr (.inr ([], 20)))
 else
 z0l (List.length y.2.2.2) (
 bif eqI (List.length y.2.2.2 : Nat) 10 then
 some (.inr (.inr ([], 20)))
 else
 bif subOk y.2.1 y.2.2.1 (List.length y.1) then
 bif Nat.beq (List.length y.2.2.2) (List.length y.2.2.2) then
 appG (List.length y.2.2.2) (List.length ([subL y.1 y.2.1 y.2.2.1] : List (List Int))) 16 fun _ =>
 bif Nat.beq (List.length (y.2.2.2 ++ ([subL y.1 y.2.1 y.2.2.1] : List (List Int)))) (List.length (y.2.2.2 ++ ([subL y.1 y.2.1 y.2.2.1] : List (List Int)))) then
 some (.inl (y.1, W64 (y.2.2.1 + 1), W64 (y.2.2.1 + 1), y.2.2.2 ++ ([subL y.1 y.2.1 y.2.2.1] : List (List Int))))
 else none
 else none
 else none)
 else none) (fun y2 =>
 bif Nat.beq (List.length y2.2.2.2.2.2.2.2) (List.length y2.2.2.2.2.2.2.2) then
 some (.inl (y2.1, y2.2.1, W64 (y2.2.2.1 + 1), y2.2.2.2.2.2.2.2))
 else none) j
 else
 bif Nat.beq (List.length out) (List.length out) then
 some (.inr (.inl out))
 else none)
def z0z (s : z4v) : Option (z4v ⊕ z8f) := z4w s.1 s.2.1 s.2.2.1 s.2.2.2
theorem zcm : SoundD Tryz.prog (.loop (subC (bodyC Tryz.f12) [1, 1, 1, 1, 1, 0, 1, 0, 0])) (loopD z2b.xe z2a (loopC z0z)) :=
 z4o (S := z2b.xe) (X := z2a) zhz (h := (.two .no (.two (.join (fun _ => z3g) .no .no) .no))) (z0x [.xs (fun _ => z3g)] (by kernel_rfl) ⟨(zrf z9n), trivial⟩) (z0d z2b) zc5 z0z (fun s => by kernel_rfl)
def zhl : Shp := ⟨1, 0, [(0, .tu [.d (.sl .str), .d (.int .i64)])], []⟩
def zkx : XS := .one .ret zhl.xe
theorem zp8 : zkx.OK := XS.one_ok (z0d zhl)
def zef (t0 : List Int) : Option (((List (List Int)) × Int)) :=
 bif eqS t0 ([47] : List Int) then
 some ([], 0)
 else
 bif eqS t0 ([] : List Int) then
 some ([], 20)
 else
 z0l (List.length t0) (
 bif ltI 120 (List.length t0 : Nat) then
 some ([], 20)
 else
 (idxI t0 0).bind fun x =>
 bif neI x 47 then
 some ([], 20)
 else
 bif Nat.beq 0 (List.length ([] : List (List Int))) then
 (loopC z0z (t0, 1, 1, ([] : List (List Int)))).bind fun o =>
 Sum.elim (fun y =>
 winK y 0 (List.length y) fun w =>
 some (w, 0)) (fun y2 =>
 some (y2.1, y2.2)) o
 else none)
def zkz : Sig := ⟨12, [.d .str], [], 0, zkx⟩
def zil (x : (List Int)) : Option (((List (List Int)) × Int)) := zef x
theorem zri : FnOK Tryz.prog zkz zil :=
 fn_ok zhz (h := (.two .no (.two .no (.two .no (.two .no (.two .no (.two (.two .no (.over (loopD z2b.xe z2a (loopC z0z)))) .no))))))) Tryz.func12 (z0x [.den (.loop (subC (bodyC Tryz.f12) [1, 1, 1, 1, 1, 0, 1, 0, 0])) (loopD z2b.xe z2a (loopC z0z))] (by kernel_rfl) ⟨zcm, trivial⟩) (by kernel_rfl) zp8 (fun x => by kernel_rfl)
def zv4 : Env := ⟨[(entQ zkz zil)], [], []⟩
theorem zs3 : EnvsOK Tryz.prog zv4 := ⟨z0k (z0s zri) (z1l _), z1b _, z1a _⟩
def zig : Shp := ⟨1, 0, [(0, .d .bool)], []⟩
def zlv : XS := .one .ret zig.xe
theorem zqu : zlv.OK := XS.one_ok (z0d zig)
def zfj (t0 : List Int) : Option ((Bool)) :=
 (zef t0).bind fun r =>
 some (eqI r.2 0)
def zmp : Sig := ⟨11, [.d .str], [], 0, zlv⟩
def zkv (x : (List Int)) : Option ((Bool)) := zfj x
theorem ztl : FnOK Tryz.prog zmp zkv :=
 fn_ok zs3 (h := .no) Tryz.func11 (z0x [] (by kernel_rfl) trivial) (by kernel_rfl) zqu (fun x => by kernel_rfl)
end Go.Proofs.YtomgkgngbpnngaaGreatDoor
set_option maxRecDepth 100000
set_option linter.unusedVariables false
set_option linter.unusedSimpArgs false
namespace Go.Proofs.YtomgkgngbpnngaaGreatDoor
open Go.Tm Go.Ab Go.Lib
def okI (x : Int) : Bool := z8t x || decide (48 ≤ x ∧ x ≤ 57) || (decide (x = 46) || decide (x = 95) || decide (x = 45))
def nameI (s : List Int) : Bool := decide (1 ≤ s.length ∧ s.length ≤ 12) && !decide (s = [46]) && !decide (s = [46, 46]) && s.all okI
theorem b8_eq {x : Int} (hx : 0 ≤ x ∧ x < 256) (c : UInt8) : (b8 x == c) = decide (x = c.toNat) := by
 rw [Bool.eq_iff_iff, beq_iff_eq, decide_eq_true_eq]
 constructor
 · intro e; rw [← e, za5 hx]
 · intro e
   apply UInt8.toNat_inj.1
   have := za5 hx
   omega
theorem z10e {x : Int} (hx : 0 ≤ x ∧ x < 256) : okc (b8 x) = okI x := by
 unfold okc okI
 have h := za5 hx
 rw [h, b8_eq hx, b8_eq hx, b8_eq hx]
 have : decide (48 ≤ (b8 x).toNat ∧ (b8 x).toNat ≤ 57) = decide (48 ≤ x ∧ x ≤ 57) := by
   rw [Bool.eq_iff_iff, decide_eq_true_eq, decide_eq_true_eq]; omega
 rw [this]; rfl
theorem z10v {s t : List Int} (hs : Bs s) (ht : Bs t) : s.map b8 = t.map b8 ↔ s = t := by
 constructor
 · intro h
   induction s generalizing t with
   | nil => cases t with
     | nil => rfl
     | cons y t => simp at h
   | cons x s ih => cases t with
     | nil => simp at h
     | cons y t =>
       simp only [List.map_cons, List.cons.injEq] at h
       rw [zjh (hs x (by simp)) (ht y (by simp)) h.1, ih (fun z hz => hs z (by simp [hz])) (fun z hz => ht z (by simp [hz])) h.2]
 · rintro rfl; rfl
theorem z16j {s : List Int} (hb : Bs s) : nameB (ba s) = nameI s := by
 unfold nameB nameI
 have e0 : (ba s).data.toList = s.map b8 := zed s
 rw [e0, z6z]
 have h1 : (s.map b8 == [46]) = decide (s = [46]) := by
   rw [Bool.eq_iff_iff, beq_iff_eq, decide_eq_true_eq]
   exact z10v (t := [46]) hb (fun x hx => by simp at hx; subst hx; decide)
 have h2 : (s.map b8 == [46, 46]) = decide (s = [46, 46]) := by
   rw [Bool.eq_iff_iff, beq_iff_eq, decide_eq_true_eq]
   exact z10v (t := [46, 46]) hb (fun x hx => by simp at hx; subst hx; decide)
 have h3 : (s.map b8).all okc = s.all okI := by
   rw [List.all_map]
   rw [Bool.eq_iff_iff, List.all_eq_true, List.all_eq_true]
   constructor
   · intro h x hx; rw [← z10e (hb x hx)]; exact h x hx
   · intro h x hx; show okc (b8 x) = true; rw [z10e (hb x hx)]; exact h x hx
 rw [h1, h2, h3]
theorem zze {s : List Int} (hb : Bs s) (hl : s.length ≤ 1000) : zkp s = some (nameI s) := by
 unfold zkp zex
 rw [ble_t (by omega), z16j hb]; rfl
theorem zlt {s : List Int} (hb : Bs s) (hl : s.length ≤ 1000) : zcn s = some (canon s) := by
 unfold zcn zex
 rw [ble_t (by omega), z12v hb]; rfl
theorem zqi {s : List Int} (hb : Bs s) (hl : s.length ≤ 1000) : zdc s = some (nameI s) := by
 refine ok_is ?_
 unfold zdc nameI
 repeat' first
   | (dsimp only [Int.toNat_natCast, List.length_nil])
   | with_reducible first | refine z2q ?_ | refine z2s ?_ | refine z1d ?_ | refine z2r ?_ | refine z1x ?_ | refine z3z ?_ | refine qs ?_ | refine qb ?_ | refine z4a ?_ | refine qw ?_ | refine z4d ?_ | refine z3y ?_ | refine qi ?_ | refine qg (h := ?_) | refine qx (h := ?_) | refine qy (h := ?_) | refine qa ?_ | refine qc ?_ | refine ql ?_ | refine qp ?_ | refine z2k ?_ | rfl
   | (with_reducible first | refine ok_lt ?_ ?_ | refine ok_le ?_ ?_ | refine z4e ?_ ?_ | refine z3x ?_ ?_ | refine z4f ?_ ?_ | refine qu ?_ ?_ | refine ok_if ?_ ?_) <;> intro _ <;> try (exfalso; omega)
 · rename_i h; subst h; rfl
 · rename_i h1 h2; rw [decide_eq_false (p := 1 ≤ s.length ∧ _) (by omega)]; rfl
 · rename_i h1 h2 h3; subst h3; rfl
 · rename_i h1 h2 h3 h4; subst h4; rfl
 · rename_i h1 h2 h3 h4
   have hpos : 1 ≤ s.length := by
     cases s with
     | nil => exact absurd rfl h1
     | cons x l => simp
   have e : (decide (1 ≤ s.length ∧ s.length ≤ 12) && !decide (s = [46]) && !decide (s = [46, 46]) && s.all okI) = s.all okI := by
     rw [decide_eq_true (p := 1 ≤ s.length ∧ _) ⟨hpos, by omega⟩, decide_eq_false h3, decide_eq_false h4]; simp
   rw [e]
   refine zpx s.length (fun i _ => (s, (i : Int))) (fun i (_ : Unit) => (s.take i).all okI = true) () rfl rfl (fun _ hall => ?_) fun i _ hi hall => ?_
   · unfold z1z z7w
     dsimp only
     repeat' first
       | (dsimp only [Int.toNat_natCast, List.length_nil])
       | with_reducible first | refine z2q ?_ | refine z2s ?_ | refine z1d ?_ | refine z2r ?_ | refine z1x ?_ | refine z3z ?_ | refine qs ?_ | refine qb ?_ | refine z4a ?_ | refine qw ?_ | refine z4d ?_ | refine z3y ?_ | refine qi ?_ | refine qg (h := ?_) | refine qx (h := ?_) | refine qy (h := ?_) | refine qa ?_ | refine qc ?_ | refine ql ?_ | refine qp ?_ | refine z2k ?_ | rfl
       | (with_reducible first | refine ok_lt ?_ ?_ | refine ok_le ?_ ?_ | refine z4e ?_ ?_ | refine z3x ?_ ?_ | refine z4f ?_ ?_ | refine qu ?_ ?_ | refine ok_if ?_ ?_) <;> intro _ <;> try (exfalso; omega)
     rw [List.take_length] at hall
     exact hall.symm
   · unfold z1z z7w
     dsimp only
     have hx := hb s[i] (List.getElem_mem hi)
     have hstep : okI s[i] = true → (s.take (i + 1)).all okI = true := fun h => by
       rw [List.take_succ_eq_append_getElem hi, List.all_append, hall, List.all_cons, h]; rfl
     have hno : okI s[i] = false → s.all okI = false := fun h => by
       rw [List.all_eq_false]; exact ⟨s[i], List.getElem_mem hi, by simp [h]⟩
     have hok : okI s[i] = (decide (97 ≤ s[i] ∧ s[i] ≤ 122) || decide (65 ≤ s[i] ∧ s[i] ≤ 90) || decide (48 ≤ s[i] ∧ s[i] ≤ 57) || (decide (s[i] = 46) || decide (s[i] = 95) || decide (s[i] = 45))) := rfl
     repeat' first
       | (dsimp only [Int.toNat_natCast, List.length_nil])
       | with_reducible first | refine z2q ?_ | refine z2s ?_ | refine z1d ?_ | refine z2r ?_ | refine z1x ?_ | refine z3z ?_ | refine qs ?_ | refine qb ?_ | refine z4a ?_ | refine qw ?_ | refine z4d ?_ | refine z3y ?_ | refine qi ?_ | refine qg (h := ?_) | refine qx (h := ?_) | refine qy (h := ?_) | refine qa ?_ | refine qc ?_ | refine ql ?_ | refine qp ?_ | refine z2k ?_ | rfl
       | (with_reducible first | refine ok_lt ?_ ?_ | refine ok_le ?_ ?_ | refine z4e ?_ ?_ | refine z3x ?_ ?_ | refine z4f ?_ ?_ | refine qu ?_ ?_ | refine ok_if ?_ ?_) <;> intro _ <;> try (exfalso; omega)
     all_goals first
       | (refine ⟨(), by rw [z8m (by omega)]; rfl, hstep ?_⟩; rw [hok]; simp only [Bool.or_eq_true, decide_eq_true_eq, Bool.not_eq_true', Bool.not_eq_false', decide_eq_false_iff_not] at *; omega)
       | (refine (hno ?_).symm; rw [hok]; simp only [Bool.or_eq_false_iff, Bool.or_eq_true, decide_eq_true_eq, Bool.not_eq_true', Bool.not_eq_false', decide_eq_false_iff_not] at *; omega)
end Go.Proofs.YtomgkgngbpnngaaGreatDoor