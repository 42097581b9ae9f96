import Derived.Test.YtomgkgngbpnngaaDoorCdW3toCdW7
import Derived.Test.YtomgkgngbpnngaaDoorTm26to29
import Derived.Shelf.Strings.Split
import Derived.Test.YtomgkgngbpnngaaDoorCdLtoCdW2
import Derived.Lib.RowBridge
import Derived.Test.YtomgkgngbpnngaaDoorTm21to25
import Derived.Test.YtomgkgngbpnngaaDoorProg
set_option linter.unusedVariables false
set_option linter.unusedSimpArgs false
namespace Go.Proofs.YtomgkgngbpnngaaDoor
open Go.Shelf Go.Proofs Go.RowKit Go.Sort Go.Lib Go.Ab Go.Tm
theorem zzh {w : World} {c : Cx} {H : List AObj} {ts : List Bool} (g : Ab.Good w c H ts) : Glob w := g.gl.var
def zjg (s : List Int) : Option Bool := zek (List.length s) (some (nameB (ba s)))
def zpf : Sig := libS 31 [.d .str] .bool
def zn8 (x : List Int) : Option Bool := zjg x
theorem zvw : FnOK Tryd.prog zpf zn8 := zwe (u := .str) (B := .bool) (by kernel_rfl) fun x y hy hx => by
 obtain ⟨hl, h2⟩ := znk (show zek (List.length x) (some (nameB (ba x))) = some y from hy)
 cases h2
 refine ⟨trivial, fun w c vs g hs hv => ?_⟩
 rw [vals1 hs hv]
 refine (zwx (ba x) (by rw [z6u]; omega) w).mono ?_
 rintro e w' ⟨rfl, hb⟩
 exact ⟨_, rfl, hb, fun _ => by simp only [pvU, VR]; exact ⟨trivial, rfl⟩⟩
def zcf (s : List Int) : Option Bool := zek (List.length s) (some (zfn (ba s)))
def zlm : Sig := libS 32 [.d .str] .bool
def zka (x : List Int) : Option Bool := zcf x
theorem zsg : FnOK Tryd.prog zlm zka := zwe (u := .str) (B := .bool) (by kernel_rfl) fun x y hy hx => by
 obtain ⟨hl, h2⟩ := znk (show zek (List.length x) (some (zfn (ba x))) = some y from hy)
 cases h2
 refine ⟨trivial, fun w c vs g hs hv => ?_⟩
 rw [vals1 hs hv]
 refine (zsv (ba x) (by rw [z6u]; omega) w g.gl.sz (zzh g)).mono ?_
 rintro e w' ⟨rfl, hb⟩
 exact ⟨_, rfl, hb, fun _ => by simp only [pvU, VR]; exact ⟨trivial, rfl⟩⟩
theorem zpg (l : List (List Int)) : List.flatMap (fun x => cellU .str x) l = (l.map ba).map fun b => PV.val (.string b) := by
 induction l with
 | nil => rfl
 | cons x l ih => rw [List.flatMap_cons, ih]; rfl
theorem zvx (s : ByteArray) (c : UInt8) (hs : s.size < 4294967281) (w : World) :
   Calls Tryd.prog 22 #[.string s, .string ⟨#[c]⟩] w fun e w' => e = .returned (.slice (some ⟨w.heap.size, 0, none⟩) (Lib.countB s ⟨#[c]⟩ + 1) (Lib.countB s ⟨#[c]⟩ + 1)) ∧
     w' = w.alloc (.cells ((Lib.splitB ⟨#[c]⟩ 0 (Lib.countB s ⟨#[c]⟩) s).map Value.string).toArray 9) := by
 have hle := Lib.countB_le ⟨#[c]⟩ (Nat.le_refl 1) s.size s (Nat.le_refl _)
 have hlen := Lib.splitB_all ⟨#[c]⟩ (Nat.le_refl 1) 0 _ s rfl
 have hcnt : Calls Tryd.prog 45 #[.string s, .string ⟨#[c]⟩] w fun e w' => e = .returned (.int .i64 (Lib.countB s ⟨#[c]⟩)) ∧ w' = w := by
   refine (Any.strings_Count_one z13d s c w).mono fun e w' ⟨he, hw⟩ => ⟨?_, hw⟩
   rw [he]
   show _ = Ending.returned (Value.int .i64 ((Lib.count s.data.toList [c] : Nat) : Int))
   rw [Lib.count_one]
   rfl
 have hidx : ∀ (x : ByteArray) (cs : Array Value), x.size ≤ s.size → Calls Tryd.prog 46 #[.string x, .string ⟨#[c]⟩] (w.alloc (.cells cs 9)) fun e w' => e = .returned (.int .i64 (Lib.indexB x ⟨#[c]⟩)) ∧ w' = w.alloc (.cells cs 9) := fun x cs _ => by
   refine (Any.strings_Index_one z14o x c _).mono fun e w' ⟨he, hw⟩ => ⟨?_, hw⟩
   rw [he]
   show _ = Ending.returned (Value.int .i64 (Lib.index x.data.toList [c]))
   rw [Lib.index_one]
 have h := Any.strings_genSplit_core z13u (by kernel_rfl) s ⟨#[c]⟩ 0 (-1) (Lib.countB s ⟨#[c]⟩ + 1) w hs (Nat.le_refl 1) (Nat.zero_le _) hidx hcnt (by decide) (by decide) (by rw [if_pos (by decide)]; omega)
 rw [Nat.add_sub_cancel, hlen] at h
 have e2 : Lib.cellsOf (Lib.splitB ⟨#[c]⟩ 0 (Lib.countB s ⟨#[c]⟩) s) (Lib.countB s ⟨#[c]⟩ + 1) = ((Lib.splitB ⟨#[c]⟩ 0 (Lib.countB s ⟨#[c]⟩) s).map Value.string).toArray := by rw [← hlen]; exact Lib.cellsOf_full _
 rw [e2] at h
 go_enter Tryd.func22, Tryd.ntmps22
 go_wp2_with (go_at_call 29; refine h.mono ?_; rintro e w' ⟨rfl, hw⟩; rw [hw])
 go_ret
 exact ⟨rfl, rfl⟩
def zem (c : Int) (s : List Int) : List (List Int) := (Lib.splitB ⟨#[c.toNat.toUInt8]⟩ 0 (Lib.countB (ba s) ⟨#[c.toNat.toUInt8]⟩) (ba s)).map fun b => nums b.data.toList
def zbz (s sep : List Int) : Option (List (List Int)) := match sep with
 | [c] => bif Nat.ble (List.length s) 4294967280 then some (zem c s) else none
 | _ => none
def zn5 : Sig := libS 22 [.d .str, .d .str] (.sl .str)
def zlc (x : List Int × List Int) : Option (List (List Int)) := zbz x.1 x.2
theorem zy6 (c : Int) (s : List Int) : (zem c s).map ba = Lib.splitB ⟨#[c.toNat.toUInt8]⟩ 0 (Lib.countB (ba s) ⟨#[c.toNat.toUInt8]⟩) (ba s) := by
 unfold zem
 rw [List.map_map]
 have : (ba ∘ fun b : ByteArray => nums b.data.toList) = id := by
   funext b
   simp [zqy]
 rw [this, List.map_id]
theorem z11k {w : World} (cs : List Value) (t : TypeId) (i : Nat) : (w.alloc (.cells cs.toArray t)).cell? ⟨w.heap.size, 0 + i, none⟩ = cs[i]? := by
 rw [World.cell?_alloc_new]
 simp
theorem ztm : FnOK Tryd.prog zn5 zlc := z13i (u := .str) (v := .str) (B := .sl .str) (by kernel_rfl) fun x z y hy hx hz => by
 have hy' : zbz x z = some y := hy
 unfold zbz at hy'
 split at hy'
 · rename_i c
   cases hb : Nat.ble (List.length x) 4294967280 with
   | false => rw [hb] at hy'; cases hy'
   | true =>
     rw [hb] at hy'
     cases hy'
     have hl := Nat.le_of_ble_eq_true hb
     refine ⟨fun l hl => ?_, fun w cx vs g hs hv => ?_⟩
     · simp only [zem, List.mem_map] at hl
       obtain ⟨b, _, rfl⟩ := hl
       exact zqj _
     rw [vals2 hs hv]
     have hsep : ba [c] = ⟨#[c.toNat.toUInt8]⟩ := rfl
     rw [hsep]
     have hx2 : (ba x).size < 4294967281 := by rw [z6u]; omega
     have hlen := Lib.splitB_all ⟨#[c.toNat.toUInt8]⟩ (Nat.le_refl 1) 0 _ (ba x) rfl
     refine (zvx (ba x) c.toNat.toUInt8 hx2 w).mono ?_
     rintro e w' ⟨rfl, rfl⟩
     rw [← zy6] at hlen ⊢
     rw [List.length_map] at hlen
     refine ⟨_, rfl, ⟨rfl, rfl, rfl, by show w.heap.size ≤ (w.heap.push _).size; rw [Array.size_push]; omega, fun k hk => RowKit.Below.heap_alloc w _ k hk⟩, fun g' => ?_⟩
     simp only [pvU, VR]
     refine .inr ⟨_, _, by rw [← hlen], by rw [hlen]; exact Nat.le_refl _, ?_, trivial, ?_, ?_⟩
     · exact Foot.new g (by show w.heap.size < (w.heap.push _).size; rw [Array.size_push]; omega) _ 0 _ rfl
     · intro p hp
       rw [zpg] at hp
       simp only [List.mem_map] at hp
       obtain ⟨b, _, rfl⟩ := hp
       rfl
     · rw [zpg]
       refine Ab.VRs_mk fun i q hq => ?_
       rw [List.getElem?_map] at hq
       cases hb : ((zem c x).map ba)[i]? with
       | none => rw [hb] at hq; cases hq
       | some b =>
         rw [hb] at hq
         cases hq
         refine ⟨.string b, ?_, by simp only [VR]; exact ⟨trivial, rfl⟩⟩
         show (w.alloc (.cells (((zem c x).map ba).map Value.string).toArray 9)).cell? ⟨w.heap.size, 0 + i, none⟩ = _
         rw [z11k, List.getElem?_map, hb]; rfl
 · cases hy'
end Go.Proofs.YtomgkgngbpnngaaDoor
set_option linter.unusedVariables false
set_option linter.unusedSimpArgs false
namespace Go.Proofs.YtomgkgngbpnngaaDoor
open Go.Shelf Go.Proofs Go.RowKit Go.Sort Go.Lib Go.Ab Go.Tm
theorem zw0 (l : List (List Int)) : List.flatMap (fun x => cellU .str x) l = l.map fun s => PV.val (.string (ba s)) := zbq l
def sortL (l : List (List Int)) : List (List Int) := ((l.map byts).mergeSort fun x y => decide (x ≤ y)).map nums
def zct (l : List (List Int)) : Option (List (List Int) × List (List Int)) := bif Nat.ble (List.length l) 4398046511104 then some (l, sortL l) else none
def zgn : Sig := ⟨11, [.fn 20 [.pt 0 (.one .leaf) []]], [.var 22 (.d (.sl .str))], 1, ownX 1 [.var 22 (.d (.sl .str))] 9⟩
def zeu (x : List (List Int)) : Option (List (List Int) × List (List Int)) := zct x
theorem zo4 (x : List (List Int)) (hlen : List.length x ≤ 4398046511104) : zox Tryd.prog 11 1 [.fn 20 [.ptr 0 0]] [.row [pvU (.sl .str) x] 22] fun p H' => p = .sl 1 0 (sortL x).length 1 ∧ H' = [.row [pvU (.sl .str) x] 22, .row (rowU .str (sortL x)) 9] := by
 intro w c vs g hp hs hv
 have hs1 : vs.size = 1 := hs
 simp only [VRs, VR] at hv
 obtain ⟨⟨v1, e1, cv, rfl, hcs, ⟨v2, e2, Bs, hk, rfl⟩, _⟩, _⟩ := hv
 have hcs1 : cv.size = 1 := hcs
 have hcv : cv = #[.pointer (some ⟨Bs, 0, none⟩)] := by
   apply Array.ext (by simp [hcs1])
   intro i hi hi'
   have : i = 0 := by omega
   subst this
   have := (Array.getElem?_eq_some_iff.1 e2).2
   simpa using this
 subst hcv
 have hvs : vs = #[.func (.func 20) #[] #[.pointer (some ⟨Bs, 0, none⟩)]] := by
   apply Array.ext (by simp [hs1])
   intro i hi hi'
   have : i = 0 := by omega
   subst this
   have := (Array.getElem?_eq_some_iff.1 e1).2
   simpa using this
 rw [hvs]
 have hbl := ObjC.lt g hk
 obtain ⟨bs, fr, h2, hf, h3, hl, h4⟩ := ObjC.row (g.obj 0 _ rfl) hk
 simp only [VRs, pvU, VR] at h4
 obtain ⟨⟨sv, e3, htr⟩, _⟩ := h4
 have e3' : w.cell? ⟨Bs, 0, none⟩ = some sv := by rw [z6h h2]; exact e3
 have hzl : (x.map byts).length = x.length := by simp
 have hT : TextsAt w.heap.size w sv (x.map byts) := by
   rcases htr with ⟨rfl, hl0, _, _⟩ | ⟨a2, cap, rfl, hcap, hf2, _, _, hcells⟩
   · exact .inl ⟨none, 0, rfl, by rw [List.length_eq_zero_iff.1 hl0]; rfl⟩
   · rw [zw0] at hf2 hcells
     rcases hf2 with hf2 | ⟨hsp2, hbl2, _, _, _⟩
     · have hx0 : x = [] := by simpa using hf2
       subst hx0
       exact .inl ⟨some a2, cap, rfl, rfl⟩
     · obtain ⟨b2, o2, sp2⟩ := a2
       dsimp only at hsp2 hbl2 hcells
       subst hsp2
       refine .inr ⟨b2, o2, cap, by rw [hzl], hbl2, fun j hj => ?_⟩
       have hj' : j < x.length := by omega
       obtain ⟨u, h5, h6⟩ := z0h hcells (i := j) (p := .val (.string (ba x[j]))) (by rw [List.getElem?_map, List.getElem?_eq_getElem hj']; rfl)
       obtain ⟨rfl, _⟩ := z3a.1 h6
       have e4 : (x.map byts)[j]?.getD [] = byts x[j] := by rw [List.getElem?_map, List.getElem?_eq_getElem hj']; rfl
       rw [e4, zne]
       exact h5
 refine (ztp Bs 0 sv (x.map byts) (by rw [hzl]; omega) w hbl e3' hT).mono ?_
 rintro e w' ⟨v, rfl, hrow, hbel⟩
 have hrow' : w'.ownsRow w.heap.size 9 1 v (sortL x).length ((sortL x).map fun s => Value.string (ba s)) := by
   have e1 : (sortL x).length = (x.map byts).length := by simp [sortL]
   have e2 : ((sortL x).map fun s => Value.string (ba s)) = ((x.map byts).mergeSort fun x y => decide (x ≤ y)).map encStr := by
     unfold sortL
     rw [List.map_map]
     exact List.map_congr_left fun b _ => by simp only [Function.comp]; exact znn b
   rw [e1, e2]
   exact hrow
 obtain ⟨c', g', hvr, hx⟩ := zwo g hbel hrow' 1
 exact ⟨v, .sl 1 0 (sortL x).length 1, [.row [pvU (.sl .str) x] 22, .row (rowU .str (sortL x)) 9], c', rfl, ⟨rfl, rfl⟩, g', hvr, hx⟩
theorem zk9 : FnOK Tryd.prog zgn zeu where
 can := by kernel_rfl
 ret := fun x y hy _ hw => by
   have hy' : (bif Nat.ble (List.length x) 4398046511104 then some (x, sortL x) else none) = some y := hy
   cases hb : Nat.ble (List.length x) 4398046511104 with
   | false => rw [hb] at hy'; cases hy'
   | true =>
     rw [hb] at hy'
     cases hy'
     refine ⟨?_, fun o ho => ?_⟩
     · show TV.wf (.os 1 _ _ _ _ _)
       simp only [TV.wf]
     · have ho' : o ∈ [TOb.ob 22 (.var (.v (.sl .str) x)), TOb.ob 9 (.row .str (sortL x))] := ho
       simp only [List.mem_cons, List.not_mem_nil, or_false] at ho'
       rcases ho' with rfl | rfl
       · exact hw _ (List.mem_singleton.2 rfl)
       · show ∀ z, z ∈ sortL x → wfU .str z
         intro z hz
         simp only [sortL, List.mem_map] at hz
         obtain ⟨b, _, rfl⟩ := hz
         exact zqj b
 calls := fun x y hy _ hw => by
   have hy' : (bif Nat.ble (List.length x) 4398046511104 then some (x, sortL x) else none) = some y := hy
   cases hb : Nat.ble (List.length x) 4398046511104 with
   | false => rw [hb] at hy'; cases hy'
   | true =>
     rw [hb] at hy'
     cases hy'
     exact zo4 x (Nat.le_of_ble_eq_true hb)
 open' := fun R y k => rfl
def compL (l : List (List Int)) : List (List Int) := (Lib.compact (l.map byts)).map nums
def zb4 (l : List (List Int)) : Option (List (List Int)) := bif Nat.ble (List.length l) 4398046511104 then some (compL l) else none
def zep : Sig := ⟨10, [.wn 0 .str], [.row 9 .str], 0, libX (.sl .str)⟩
def zds (x : List (List Int)) : Option (List (List Int)) := zb4 x
theorem zn0 (x : List (List Int)) (hlen : List.length x ≤ 4398046511104) : zox Tryd.prog 10 0 [.sl 0 0 (List.length x) 1] [.row (rowU .str x) 9] fun p H' => p = pvU (.sl .str) (compL x) ∧ H' = [] := by
 intro w c vs g hp hs hv
 have g0 : Ab.Good w c [.row (rowU .str x) 9] [] := g
 have hs1 : vs.size = 1 := hs
 have hv1 : VRs w c [.sl 0 0 (List.length x) 1] (fun i => vs[i]?) := hv
 simp only [VRs] at hv1
 obtain ⟨⟨v1, e1, hvr⟩, _⟩ := hv1
 have hvs : vs = #[v1] := by
   apply Array.ext (by simp [hs1])
   intro i hi hi'
   have : i = 0 := by omega
   subst this
   have := (Array.getElem?_eq_some_iff.1 e1).2
   simpa using this
 rw [hvs]
 have hzl : (x.map byts).length = x.length := by simp
 rcases z10l g0 hvr with ⟨ad, rfl, hx0⟩ | ⟨k, cap, rfl, hcap, hH, hm, hk⟩
 · subst hx0
   refine (Any.slices_Compact_string_empty zwf ad 0 w).mono ?_
   rintro e w' ⟨rfl, rfl⟩
   obtain ⟨g', hx⟩ := taken (w' := w') g0 hp rfl rfl rfl rfl (fun _ _ => rfl) fun k vs e fr h => ⟨vs, fr, h, rfl⟩
   refine ⟨_, pvU (.sl .str) (compL []), [], { c with m := [] }, rfl, ⟨rfl, rfl⟩, g', ?_, hx⟩
   show VR w' { c with m := [] } (.tr 0 [] .no) _
   simp only [VR]
   cases ad with
   | none => exact .inl (by simp [Tail.isTok])
   | some a => exact .inr ⟨a, 0, rfl, Nat.le_refl _, .inl rfl, trivial, (fun p hp => by cases hp), by simp only [VRs]⟩
 · have hc := Any.slices_Compact_string zwf k 0 cap (x.map byts) w hH (by rw [hzl]; omega) (by rw [hzl]; exact hcap)
   rw [hzl] at hc
   refine Calls.mono hc ?_
   rintro e w' ⟨rfl, q, rfl⟩
   have hcl := Lib.compact_length_le (x.map byts)
   rw [hzl] at hcl
   obtain ⟨g', hvr', hx⟩ := z10z (e := 9) (l := x) (q := q) (cap := cap) (m := Lib.compact (x.map byts)) (d := (Lib.compact (x.map byts) ++ List.replicate (x.length - (Lib.compact (x.map byts)).length) []).toArray) g0 hp hm hk hH (by simp; omega) hcl
     (fun j z hj => by
       have hj' := (List.getElem?_eq_some_iff.1 hj).1
       rw [getElem!_pos _ j (by simp; omega)]
       simp only [List.getElem_toArray]
       rw [List.getElem_append_left hj']
       exact (List.getElem?_eq_some_iff.1 hj).2) (by omega)
   exact ⟨_, _, [], _, rfl, ⟨rfl, rfl⟩, g', hvr', hx⟩
theorem zim : FnOK Tryd.prog zep zds where
 can := by kernel_rfl
 ret := fun x y hy hw _ => by
   have hy' : (bif Nat.ble (List.length x) 4398046511104 then some (compL x) else none) = some y := hy
   cases hb : Nat.ble (List.length x) 4398046511104 with
   | false => rw [hb] at hy'; cases hy'
   | true =>
     rw [hb] at hy'
     cases hy'
     refine ⟨?_, fun o ho => by cases ho⟩
     show TV.wf (.v (.sl .str) (compL x))
     simp only [TV.wf]
     show ∀ z, z ∈ compL x → wfU .str z
     intro z hz
     simp only [compL, List.mem_map] at hz
     obtain ⟨b, _, rfl⟩ := hz
     exact zqj b
 calls := fun x y hy hw _ => by
   have hy' : (bif Nat.ble (List.length x) 4398046511104 then some (compL x) else none) = some y := hy
   cases hb : Nat.ble (List.length x) 4398046511104 with
   | false => rw [hb] at hy'; cases hy'
   | true =>
     rw [hb] at hy'
     cases hy'
     exact zn0 x (Nat.le_of_ble_eq_true hb)
 open' := fun R y k => rfl
end Go.Proofs.YtomgkgngbpnngaaDoor
set_option linter.unusedVariables false
set_option linter.unusedSimpArgs false
namespace Go.Proofs.YtomgkgngbpnngaaDoor
open Go.Tm Go.Ab Go.Lib
def Bs (s : List Int) : Prop := ∀ x, x ∈ s → 0 ≤ x ∧ x < 256
def isD (x : Int) : Bool := decide (48 ≤ x ∧ x ≤ 57)
def val (a : Int) : List Int → Int
 | [] => a
 | x :: l => val (10 * a + (x - 48)) l
def lead (l : List Int) : Bool := decide (2 ≤ l.length) && decide (l.head? = some 48)
def canon (l : List Int) : Bool := !l.isEmpty && l.all isD && !lead l && decide (val 0 l ≤ 4294967295)
def b8 (x : Int) : UInt8 := UInt8.ofNat x.toNat
theorem zdi (s : List Int) : byts s = s.map b8 := by
 unfold byts ba
 simp [b8]
theorem za9 {x : Int} (h : 0 ≤ x ∧ x < 256) : ((b8 x).toNat : Int) = x := by
 unfold b8
 rw [UInt8.toNat_ofNat']
 omega
theorem zi6 {x : Int} : isD x = true ↔ 48 ≤ x ∧ x ≤ 57 := by simp [isD]
theorem zv0 : ∀ (s : List Int) (a : Int), 0 ≤ a → s.all isD = true → a ≤ val a s
 | [], a, _, _ => Int.le_refl _
 | x :: l, a, ha, hd => by
   rw [List.all_cons, Bool.and_eq_true, zi6] at hd
   have := zv0 l (10 * a + (x - 48)) (by omega) hd.2
   rw [val]
   omega
theorem zv1 : ∀ (s : List Int) (a x : Int), val a (s ++ [x]) = 10 * val a s + (x - 48)
 | [], a, x => rfl
 | y :: l, a, x => by rw [List.cons_append, val, val, zv1 l]
theorem zuk : ∀ (s : List Int) (a : Nat), Bs s → s.all isD = true → val a s ≤ 4294967295 → parseUintM 4294967295 a (s.map b8) = .ok (val a s).toNat
 | [], a, _, _, _ => by simp [parseUintM, val]
 | x :: l, a, hb, hd, hv => by
   rw [List.all_cons, Bool.and_eq_true, zi6] at hd
   have hx := za9 (hb x (by simp))
   have hn : (10 * (a : Int) + (x - 48)) = ((a * 10 + ((b8 x).toNat - 48) : Nat) : Int) := by omega
   rw [val, hn] at hv ⊢
   have ih := zuk l _ (fun y hy => hb y (by simp [hy])) hd.2 hv
   have hge := zv0 l ((a * 10 + ((b8 x).toNat - 48) : Nat) : Int) (by omega) hd.2
   rw [List.map_cons, parseUintM, if_pos (by omega), if_neg (by omega), if_neg (by omega)]
   exact ih
theorem zsb : ∀ (s : List Int) (a u : Nat), Bs s → a ≤ 4294967295 → parseUintM 4294967295 a (s.map b8) = .ok u → s.all isD = true ∧ (u : Int) = val a s ∧ u ≤ 4294967295
 | [], a, u, _, ha, h => by
   simp only [List.map_nil, parseUintM] at h
   cases h
   exact ⟨rfl, rfl, ha⟩
 | x :: l, a, u, hb, ha, h => by
   have hx := za9 (hb x (by simp))
   rw [List.map_cons, parseUintM] at h
   split at h
   · rename_i hd
     split at h
     · cases h
     · split at h
       · cases h
       · rename_i h1 h2
         obtain ⟨g1, g2, g3⟩ := zsb l _ u (fun y hy => hb y (by simp [hy])) (by omega) h
         refine ⟨?_, ?_, g3⟩
         · rw [List.all_cons, g1, Bool.and_true, zi6]; omega
         · rw [g2, val]; congr 1; omega
   · cases h
theorem zua : ∀ (n u : Nat), u ≤ n → (2 ≤ (decDigits u).length → (decDigits u).head? ≠ some 48) ∧ decDigits u ≠ []
 | 0, u, h => by
   have : u = 0 := by omega
   subst this
   rw [decDigits_one (by omega)]
   exact ⟨fun h => by simp at h, by simp⟩
 | n + 1, u, h => by
   by_cases h1 : u < 10
   · rw [decDigits_one h1]
     exact ⟨fun h => by simp at h, by simp⟩
   · have ih := zua n (u / 10) (by omega)
     rw [decDigits, dif_neg h1]
     refine ⟨fun _ => ?_, by simp⟩
     by_cases h2 : u / 10 < 10
     · rw [decDigits_one h2]
       simp only [List.cons_append, List.head?_cons]
       intro e
       have e := Option.some.inj e
       have := congrArg UInt8.toNat e
       rw [UInt8.toNat_ofNat'] at this
       have h48 : (48 : UInt8).toNat = 48 := rfl
       omega
     · have hl : 2 ≤ (decDigits (u / 10)).length := by
         rw [decDigits_length, nDigits_big h2]
         have : 1 ≤ nDigits (u / 10 / 10) := by
           by_cases h3 : u / 10 / 10 < 10
           · rw [nDigits_small h3]; exact Nat.le_refl _
           · rw [nDigits_big h3]; omega
         omega
       have := ih.1 hl
       cases hd : decDigits (u / 10) with
       | nil => exact absurd hd ih.2
       | cons y l => rw [hd] at this; simpa using this
theorem zz4 : ∀ (n : Nat) (s : List Int), s.length = n → Bs s → s ≠ [] → s.all isD = true → lead s = false → decDigits (val 0 s).toNat = s.map b8
 | 0, s, hn, _, hne, _, _ => absurd (List.length_eq_zero_iff.1 hn) hne
 | n + 1, s, hn, hb, hne, hd, hl => by
   obtain ⟨t, x, rfl⟩ : ∃ t x, s = t ++ [x] := ⟨s.dropLast, s.getLast hne, (List.dropLast_concat_getLast hne).symm⟩
   rw [List.all_append, Bool.and_eq_true] at hd
   have hx := (List.all_cons .. ▸ hd.2 : (isD x && List.all [] isD) = true)
   rw [Bool.and_eq_true, zi6] at hx
   have hbx := za9 (hb x (by simp))
   rw [zv1, List.map_append, List.map_cons, List.map_nil]
   have hb8 : ∀ k : Nat, (k : Int) = x - 48 → UInt8.ofNat (48 + k) = b8 x := fun k hk => by
     unfold b8
     congr 1
     omega
   by_cases ht : t = []
   · subst ht
     have hv : (10 * val 0 [] + (x - 48)).toNat = (x - 48).toNat := by simp [val]
     rw [hv, decDigits_one (by omega), hb8 _ (by omega)]; rfl
   · have htl : 1 ≤ t.length := by
       cases t with
       | nil => exact absurd rfl ht
       | cons y l => simp
     have hth : t.head? ≠ some 48 := by
       intro e
       unfold lead at hl
       rw [decide_eq_true (by simp; omega), Bool.true_and, decide_eq_false_iff_not] at hl
       apply hl
       cases t with
       | nil => exact absurd rfl ht
       | cons y l => simpa using e
     have hlt : lead t = false := by
       unfold lead
       rw [decide_eq_false (p := t.head? = some 48) hth, Bool.and_false]
     have ih := zz4 n t (by simp at hn; exact hn) (fun y hy => hb y (by simp [hy])) ht hd.1 hlt
     have hv1 : 1 ≤ val 0 t := by
       cases t with
       | nil => exact absurd rfl ht
       | cons y l =>
         rw [List.all_cons, Bool.and_eq_true, zi6] at hd
         have hy : y ≠ 48 := fun e => hth (by rw [e]; rfl)
         have := zv0 l (10 * 0 + (y - 48)) (by omega) hd.1.2
         rw [val]
         omega
     rw [decDigits, dif_neg (by omega)]
     have e1 : (10 * val 0 t + (x - 48)).toNat / 10 = (val 0 t).toNat := by omega
     have e2 : (((10 * val 0 t + (x - 48)).toNat % 10 : Nat) : Int) = x - 48 := by omega
     rw [e1, ih, hb8 _ e2]
theorem zin {x y : Int} (hx : 0 ≤ x ∧ x < 256) (hy : 0 ≤ y ∧ y < 256) (h : b8 x = b8 y) : x = y := by
 rw [← za9 hx, ← za9 hy, h]
theorem z10e {s : List Int} (hb : Bs s) : zfn (ba s) = canon s := by
 unfold zfn
 have e0 : (ba s).data.toList = s.map b8 := zdi s
 rw [e0]
 unfold parseUintB
 by_cases hs : s = []
 · subst hs; rfl
 · rw [if_neg (by simpa using hs)]
   have hbad : (∀ u, parseUintM (2 ^ 32 - 1) 0 (s.map b8) ≠ .ok u) → canon s = false := fun hn => by
     cases hc : canon s with
     | false => rfl
     | true =>
       unfold canon at hc
       simp only [Bool.and_eq_true, decide_eq_true_eq] at hc
       exact absurd (zuk s 0 hb hc.1.1.2 hc.2) (hn _)
   cases hp : parseUintM (2 ^ 32 - 1) 0 (s.map b8)
   · rename_i u
     obtain ⟨h1, h2, h3⟩ := zsb s 0 u hb (by omega) hp
     have hu : (val 0 s).toNat = u := by rw [show val 0 s = val ((0 : Nat) : Int) s from rfl, ← h2]; rfl
     have hv : val 0 s ≤ 4294967295 := by rw [show val 0 s = val ((0 : Nat) : Int) s from rfl, ← h2]; omega
     dsimp only
     rw [Bool.eq_iff_iff, beq_iff_eq]
     unfold canon
     rw [h1, decide_eq_true hv]
     simp only [Bool.and_true, Bool.and_eq_true, Bool.not_eq_true', List.isEmpty_eq_false_iff]
     constructor
     · intro e
       refine ⟨hs, ?_⟩
       have := (zua u u (Nat.le_refl _)).1
       rw [e] at this
       unfold lead
       by_cases h2 : 2 ≤ s.length
       · have h3 := this (by simpa using h2)
         rw [decide_eq_true h2, Bool.true_and, decide_eq_false_iff_not]
         intro e2
         apply h3
         cases s with
         | nil => exact absurd rfl hs
         | cons y l => simp at e2; subst e2; rfl
       · rw [decide_eq_false h2]; rfl
     · rintro ⟨_, hl⟩
       rw [← hu]
       exact zz4 s.length s rfl hb hs h1 hl
   all_goals exact (hbad fun u hu => by rw [hp] at hu; cases hu).symm
end Go.Proofs.YtomgkgngbpnngaaDoor
set_option maxRecDepth 100000
set_option linter.unusedVariables false
noncomputable section
namespace Go.Proofs.YtomgkgngbpnngaaDoor
open Go.Tm Go.Ab
def zn1 : Env := ⟨[], [], []⟩
theorem zkq : EnvsOK Tryd.prog zn1 := ⟨z2d _, z1j _, z1k _⟩
def zd9 : Shp := ⟨1, 0, [(0, .fn 20 [.pt 0 (.one .leaf) []])], [.var 22 (.d (.sl .str))]⟩
def zf2 : XS := .one .ret zd9.xe
theorem zk2 : zf2.OK := XS.one_ok (z0g zd9)
def z9p (t0 : List (List Int)) : Option (((List (List Int)))) :=
 some t0
def zaw : Sig := ⟨12, [.d (.sl .str)], [], 0, zf2⟩
def za7 (x : (List (List Int))) : Option (((List (List Int)))) := z9p x
theorem zeg : FnOK Tryd.prog zaw za7 :=
 fn_ok zkq (h := .no) Tryd.func12 (z1b [] (by kernel_rfl) trivial) (by kernel_rfl) zk2 (fun x => by kernel_rfl)
def zbn : Env := ⟨[], [], []⟩
theorem zav : EnvsOK Tryd.prog zbn := ⟨z2d _, z1j _, z1k _⟩
def z5s : Shp := ⟨1, 0, [(0, .d .bool)], []⟩
def z6c : XS := .one .ret z5s.xe
theorem zad : z6c.OK := XS.one_ok (z0g z5s)
def z4j (t0 : List Int) (t1 : List Int) : Option ((Bool)) :=
 z0p (List.length t0) (
 z0p (List.length t1) (
 bif leI (List.length t1 : Nat) (List.length t0 : Nat) then
 z0p (List.length t1) (
 bif subOk 0 (List.length t1 : Nat) (List.length t0) then
 some (eqS (subL t0 0 (List.length t1 : Nat)) t1)
 else none)
 else
 some false))
def z6b : Sig := ⟨28, [.d .str, .d .str], [], 0, z6c⟩
def z5w (x : (List Int) × (List Int)) : Option ((Bool)) := z4j x.1 x.2
theorem zaz : FnOK Tryd.prog z6b z5w :=
 fn_ok zav (h := .no) Tryd.func28 (z1b [] (by kernel_rfl) trivial) (by kernel_rfl) zad (fun x => by kernel_rfl)
def zko : Env := ⟨[(entQ z6b z5w)], [], []⟩
theorem zip : EnvsOK Tryd.prog zko := ⟨z0s (z1a zaz) (z2d _), z1j _, z1k _⟩
def zc4 : Shp := ⟨1, 0, [(0, .d .bool)], []⟩
def zd6 : XS := .one .ret zc4.xe
theorem zhp : zd6.OK := XS.one_ok (z0g zc4)
def z7t (t0 : List Int) (t1 : List Int) : Option ((Bool)) :=
 (z4j t0 t1).bind fun r =>
 some r
def zd8 : Sig := ⟨21, [.d .str, .d .str], [], 0, zd6⟩
def zd0 (x : (List Int) × (List Int)) : Option ((Bool)) := z7t x.1 x.2
theorem zj7 : FnOK Tryd.prog zd8 zd0 :=
 fn_ok zip (h := .no) Tryd.func21 (z1b [] (by kernel_rfl) trivial) (by kernel_rfl) zhp (fun x => by kernel_rfl)
def z5a : Ent := zoc 84
theorem z9j : EntOK Tryd.prog z5a := zvg Tryd.func84 (by kernel_rfl) (by kernel_rfl) (by kernel_rfl) (by kernel_rfl)
def zbl : Env := ⟨[z5a], [], []⟩
theorem zat : EnvsOK Tryd.prog zbl := ⟨z0s z9j (z2d _), z1j _, z1k _⟩
def z5q : Shp := ⟨1, 0, [(0, .d (.int .i64))], []⟩
def z6f : XS := .one .ret z5q.xe
theorem zae : z6f.OK := XS.one_ok (z0g z5q)
def z3d (t0 : List Int) (c : Int) : Option ((Int)) :=
 z0p (List.length t0) (
 some (ziw t0 c))
def z6g : Sig := ⟨68, [.d .str, .d (.int .u8)], [], 0, z6f⟩
def z5y (x : (List Int) × Int) : Option ((Int)) := z3d x.1 x.2
theorem zb8 : FnOK Tryd.prog z6g z5y :=
 fn_ok zat (h := .no) Tryd.func68 (z1b [] (by kernel_rfl) trivial) (by kernel_rfl) zae (fun x => by kernel_rfl)
def zdu : Env := ⟨[(entQ z6g z5y)], [], []⟩
theorem zcx : EnvsOK Tryd.prog zdu := ⟨z0s (z1a zb8) (z2d _), z1j _, z1k _⟩
def z4v : Shp := ⟨143, 0, [(0, .d .str), (1, .d .str), (5, .d (.int .i64)), (16, .d .bool)], []⟩
def z3q : XS := .one .normal z4v.xe
theorem z9k : z3q.OK := XS.one_ok (z0g z4v)
def z7k : Shp := ⟨1, 0, [(0, .d (.int .i64))], []⟩
def z8a : XS := .one .ret z7k.xe
theorem zc8 : z8a.OK := XS.one_ok (z0g z7k)
def z3z (t0 : List Int) (substr : List Int) : Option ((Int)) :=
 z0p (List.length substr) (
 (show Option (((List Int) × (List Int) × Int × Bool)) from
 bif eqI (List.length substr : Nat) 0 then
 some (t0, substr, (List.length substr : Nat), true)
 else
 some (t0, substr, (List.length substr : Nat), eqS substr t0)).bind fun j =>
 bif j.2.2.2 then
 some 0
 else
 bif eqI j.2.2.1 1 then
 (idxI j.2.1 0).bind fun x =>
 (z3d j.1 x).bind fun r =>
 some r
 else
 z0p (List.length j.1) (
 bif leI (List.length j.1 : Nat) j.2.2.1 then
 some (-1)
 else
 none))
def z7u : Sig := ⟨61, [.d .str, .d .str], [], 0, z8a⟩
def z7s (x : (List Int) × (List Int)) : Option ((Int)) := z3z x.1 x.2
theorem zd4 : FnOK Tryd.prog z7u z7s :=
 fn_ok zcx (h := (.two .no (.two .no (.two (.join (fun _ => z3q) .no .no) .no)))) Tryd.func61 (z1b [.xs (fun _ => z3q)] (by kernel_rfl) ⟨(z14n z9k), trivial⟩) (by kernel_rfl) zc8 (fun x => by kernel_rfl)
def zew : Env := ⟨[(entQ z7u z7s)], [], []⟩
theorem zdy : EnvsOK Tryd.prog zew := ⟨z0s (z1a zd4) (z2d _), z1j _, z1k _⟩
def z7v : Shp := ⟨1, 0, [(0, .tu [.d .str, .d .str, .d .bool])], []⟩
def z9d : XS := .one .ret z7v.xe
theorem zd3 : z9d.OK := XS.one_ok (z0g z7v)
def z4h (t0 : List Int) (sep : List Int) : Option (((List Int) × (List Int) × Bool)) :=
 (z3z t0 sep).bind fun r =>
 bif leI 0 r then
 bif subOk 0 r (List.length t0) then
 z0p (List.length sep) (
 bif subOk (W64 (r + (List.length sep : Nat))) (List.length t0 : Nat) (List.length t0) then
 some ((subL t0 0 r, subL t0 (W64 (r + (List.length sep : Nat))) (List.length t0 : Nat), true))
 else none)
 else none
 else
 some (t0, ([] : List Int), false)
def z9a : Sig := ⟨47, [.d .str, .d .str], [], 0, z9d⟩
def z8j (x : (List Int) × (List Int)) : Option (((List Int) × (List Int) × Bool)) := z4h x.1 x.2
theorem ze4 : FnOK Tryd.prog z9a z8j :=
 fn_ok zdy (h := .no) Tryd.func47 (z1b [] (by kernel_rfl) trivial) (by kernel_rfl) zd3 (fun x => by kernel_rfl)
def zse : Env := ⟨[(entQ z9a z8j)], [], []⟩
theorem zpk : EnvsOK Tryd.prog zse := ⟨z0s (z1a ze4) (z2d _), z1j _, z1k _⟩
def zh4 : Shp := ⟨1, 0, [(0, .tu [.d .str, .d .str, .d .bool])], []⟩
def zkj : XS := .one .ret zh4.xe
theorem zop : zkj.OK := XS.one_ok (z0g zh4)
def zb3 (t0 : List Int) (sep : List Int) : Option (((List Int) × (List Int) × Bool)) :=
 (z4h t0 sep).bind fun r =>
 some (r.1, r.2.1, r.2.2)
def zkg : Sig := ⟨30, [.d .str, .d .str], [], 0, zkj⟩
def zis (x : (List Int) × (List Int)) : Option (((List Int) × (List Int) × Bool)) := zb3 x.1 x.2
theorem zqx : FnOK Tryd.prog zkg zis :=
 fn_ok zpk (h := .no) Tryd.func30 (z1b [] (by kernel_rfl) trivial) (by kernel_rfl) zop (fun x => by kernel_rfl)
def zvp : Env := ⟨[(entQ zkg zis), (entQ zpf zn8), (entQ zlm zka)], [], []⟩
theorem zsl : EnvsOK Tryd.prog zvp := ⟨z0s (z1a zqx) (z0s (z1a zvw) (z0s (z1a zsg) (z2d _))), z1j _, z1k _⟩
def zkd : Shp := ⟨1, 0, [(0, .d .bool)], []⟩
def znp : XS := .one .ret zkd.xe
theorem zqw : znp.OK := XS.one_ok (z0g zkd)
def zh5 (t0 : List Int) : Option ((Bool)) :=
 bif eqS t0 ([108, 111, 115, 116, 43, 102, 111, 117, 110, 100] : List Int) then
 some true
 else
 (zb3 t0 ([126] : List Int)).bind fun r =>
 (zjg r.1).bind fun r2 =>
 bif !r2 then
 some false
 else
 (zb3 r.2.1 ([46] : List Int)).bind fun r3 =>
 bif !r.2.2 then
 some true
 else
 bif r3.2.2 then
 (zcf r3.1).bind fun r4 =>
 bif r4 then
 (zcf r3.2.1).bind fun r5 =>
 some r5
 else
 some false
 else
 some false
def znd : Sig := ⟨23, [.d .str], [], 0, znp⟩
def zl8 (x : (List Int)) : Option ((Bool)) := zh5 x
theorem ztt : FnOK Tryd.prog znd zl8 :=
 fn_ok zsl (h := .no) Tryd.func23 (z1b [] (by kernel_rfl) trivial) (by kernel_rfl) zqw (fun x => by kernel_rfl)
def zub : Env := ⟨[(entQ zd8 zd0), (entQ zn5 zlc), (entQ znd zl8)], [], []⟩
theorem zi1 : EnvsOK Tryd.prog zub := ⟨z0s (z1a zj7) (z0s (z1a ztm) (z0s (z1a ztt) (z2d _))), z1j _, z1k _⟩
def z7j : Shp := ⟨34, 0, [(4, .d (.sl .str))], []⟩
def z6x : Shp := ⟨34, 0, [(2, .d (.sl .str)), (3, .d (.int .i64))], []⟩
def z2i : XS := .or (.exit 0) z7j.xe (.one .ret z6x.xe)
theorem zc6 : z2i.OK := XS.or_ok (z0g z7j) (XS.one_ok (z0g z6x))
def z2e : Shp := ⟨34, 0, [(4, .d (.sl .str)), (23, .d (.sl .str)), (24, .d (.int .i64)), (25, .d (.int .i64))], []⟩
abbrev z4q := (List (List Int)) × (List (List Int)) × Int × Int
abbrev z7z := ((List (List Int))) ⊕ ((List (List Int)) × Int)
def z4r (l : List (List Int)) (t23 : List (List Int)) (t24 : Int) (t25 : Int) : Option (z4q ⊕ z7z) :=
 bif ltI t25 t24 then
 (idxI t23 t25).bind fun x =>
 (zh5 x).bind fun r =>
 bif !r then
 some (.inr (.inr ([], 20)))
 else
 some (.inl (l, t23, t24, W64 (t25 + 1)))
 else
 some (.inr (.inl l))
def z0u (s : z4q) : Option (z4q ⊕ z7z) := z4r s.1 s.2.1 s.2.2.1 s.2.2.2
theorem zcu : SoundD Tryd.prog (.loop (subC (bodyC Tryd.f13) [1, 1, 1, 1, 1, 0, 1, 0, 0])) (loopD z2e.xe z2i (loopC z0u)) :=
 z4n (S := z2e.xe) (X := z2i) zi1 (h := .no) (z1b [] (by kernel_rfl) trivial) (z0g z2e) zc6 z0u (fun s => by kernel_rfl)
def zj2 : Shp := ⟨1, 0, [(0, .tu [.d (.sl .str), .d (.int .i64)])], []⟩
def zl1 : XS := .one .ret zj2.xe
theorem zpo : zl1.OK := XS.one_ok (z0g zj2)
def z8q (t0 : List Int) : Option (((List (List Int)) × Int)) :=
 z0p (List.length t0) (
 bif ltI 120 (List.length t0 : Nat) then
 some ([], 20)
 else
 (z7t t0 ([47] : List Int)).bind fun r =>
 bif !r then
 some ([], 20)
 else
 bif eqS t0 ([47] : List Int) then
 some ([], 0)
 else
 bif subOk 1 (List.length t0 : Nat) (List.length t0) then
 (zbz (subL t0 1 (List.length t0 : Nat)) ([47] : List Int)).bind fun r2 =>
 z0p (List.length r2) (
 bif ltI 10 (List.length r2 : Nat) then
 some ([], 20)
 else
 z0p (List.length r2) (
 (loopC z0u (r2, r2, (List.length r2 : Nat), 0)).bind fun o =>
 Sum.elim (fun y =>
 some (y, 0)) (fun y2 =>
 some (y2.1, y2.2)) o))
 else none)
def zcr : Sig := ⟨13, [.d .str], [], 0, zl1⟩
def zbd (x : (List Int)) : Option (((List (List Int)) × Int)) := z8q x
theorem zeo : FnOK Tryd.prog zcr zbd :=
 fn_ok zi1 (h := (.two .no (.two .no (.two .no (.two .no (.two .no (.two (.two .no (.over (loopD z2e.xe z2i (loopC z0u)))) .no))))))) Tryd.func13 (z1b [.den (.loop (subC (bodyC Tryd.f13) [1, 1, 1, 1, 1, 0, 1, 0, 0])) (loopD z2e.xe z2i (loopC z0u))] (by kernel_rfl) ⟨zcu, trivial⟩) (by kernel_rfl) zpo (fun x => by kernel_rfl)
def zsc : Env := ⟨[(entQ zcr zbd)], [], []⟩
theorem zgz : EnvsOK Tryd.prog zsc := ⟨z0s (z1a zeo) (z2d _), z1j _, z1k _⟩
def z7q : Shp := ⟨48, 0, [], []⟩
def z7r : Shp := ⟨48, 0, [(4, .d .bool)], []⟩
def z2n : XS := .or (.exit 0) z7q.xe (.one .ret z7r.xe)
theorem zcj : z2n.OK := XS.or_ok (z0g z7q) (XS.one_ok (z0g z7r))
def z2m : Shp := ⟨48, 0, [(5, .d (.sl .str)), (34, .d (.sl .str)), (35, .d (.int .i64)), (36, .d (.int .i64))], []⟩
abbrev z4z := (List (List Int)) × (List (List Int)) × Int × Int
abbrev z8k := (Unit) ⊕ (Bool)
def z4y (a : List (List Int)) (t34 : List (List Int)) (t35 : Int) (t36 : Int) : Option (z4z ⊕ z8k) :=
 bif ltI t36 t35 then
 (idxI t34 t36).bind fun x =>
 (idxI a t36).bind fun x2 =>
 bif !(eqS x2 x) then
 some (.inr (.inr false))
 else
 some (.inl (a, t34, t35, W64 (t36 + 1)))
 else
 some (.inr (.inl ()))
def z0w (s : z4z) : Option (z4z ⊕ z8k) := z4y s.1 s.2.1 s.2.2.1 s.2.2.2
theorem zd5 : SoundD Tryd.prog (.loop (subC (bodyC Tryd.f14) [1, 1, 1, 1, 0, 1, 0, 0])) (loopD z2m.xe z2n (loopC z0w)) :=
 z4n (S := z2m.xe) (X := z2n) zgz (h := .no) (z1b [] (by kernel_rfl) trivial) (z0g z2m) zcj z0w (fun s => by kernel_rfl)
def zh8 : Shp := ⟨1, 0, [(0, .d .bool)], []⟩
def zki : XS := .one .ret zh8.xe
theorem zo3 : zki.OK := XS.one_ok (z0g zh8)
def z7n (t0 : List Int) (top : List Int) : Option ((Bool)) :=
 (z8q t0).bind fun r =>
 (z8q top).bind fun r2 =>
 bif neI r.2 0 then
 some false
 else
 bif neI r2.2 0 then
 some false
 else
 z0p (List.length r.1) (
 z0p (List.length r2.1) (
 bif ltI (List.length r.1 : Nat) (List.length r2.1 : Nat) then
 some false
 else
 z0p (List.length r2.1) (
 (loopC z0w (r.1, r2.1, (List.length r2.1 : Nat), 0)).bind fun o =>
 Sum.elim (fun y =>
 some true) (fun y2 =>
 some y2) o)))
def z8y : Sig := ⟨14, [.d .str, .d .str], [], 0, zki⟩
def z8c (x : (List Int) × (List Int)) : Option ((Bool)) := z7n x.1 x.2
theorem zah : FnOK Tryd.prog z8y z8c :=
 fn_ok zgz (h := (.two .no (.two .no (.two .no (.two .no (.two (.two .no (.over (loopD z2m.xe z2n (loopC z0w)))) .no)))))) Tryd.func14 (z1b [.den (.loop (subC (bodyC Tryd.f14) [1, 1, 1, 1, 0, 1, 0, 0])) (loopD z2m.xe z2n (loopC z0w))] (by kernel_rfl) ⟨zd5, trivial⟩) (by kernel_rfl) zo3 (fun x => by kernel_rfl)
def zqi : Env := ⟨[(entQ zcr zbd), (entQ z8y z8c)], [(entP zaw za7), (entP zgn zeu), (entP zep zds)], []⟩
theorem zbi : EnvsOK Tryd.prog zqi := ⟨z0s (z1a zeo) (z0s (z1a zah) (z2d _)), za3 (zdt zeg) (za3 (zdt zk9) (za3 (zdt zim) (z1j _))), z1k _⟩
def z2r : Shp := ⟨54, 0, [(4, .d (.sl .str)), (5, .wn 0 .str), (16, .d (.sl .str)), (17, .d (.int .i64)), (18, .d (.int .i64)), (40, .d .str), (41, .d .str), (42, .d .bool)], [.row 9 .str]⟩
def z2u : Shp := ⟨54, 0, [(4, .d (.sl .str)), (5, .wn 0 .str), (7, .d .str), (16, .d (.sl .str)), (17, .d (.int .i64)), (18, .d (.int .i64))], [.row 9 .str]⟩
def z0n : XS := .or (.exit 1) z2r.xe (.one (.exit 2) z2u.xe)
theorem z5e : z0n.OK := XS.or_ok (z0g z2r) (XS.one_ok (z0g z2u))
def z0m : Shp := ⟨54, 0, [(4, .d (.sl .str)), (5, .wn 0 .str), (7, .d .str), (16, .d (.sl .str)), (17, .d (.int .i64)), (18, .d (.int .i64)), (30, .d (.sl .str)), (31, .d (.int .i64)), (32, .d (.int .i64))], [.row 9 .str]⟩
abbrev z1m := (List (List Int)) × (List Int) × (List (List Int)) × Int × Int × (List (List Int)) × Int × Int × (List (List Int))
abbrev z1l := ((List (List Int)) × (List (List Int)) × Int × Int × (List Int) × (List Int) × Bool × (List (List Int))) ⊕ ((List (List Int)) × (List Int) × (List (List Int)) × Int × Int × (List (List Int)))
def z1n (sorted : List (List Int)) (t7 : List Int) (t16 : List (List Int)) (t17 : Int) (t18 : Int) (t30 : List (List Int)) (t31 : Int) (t32 : Int) (out : List (List Int)) : Option (z1m ⊕ z1l) :=
 bif ltI t32 t31 then
 (idxI t30 t32).bind fun x =>
 bif !(eqS x t7) then
 (z7n t7 x).bind fun r =>
 bif r then
 bif Nat.beq (List.length out) (List.length out) then
 some (.inr (.inl (sorted, t16, t17, t18, t7, x, r, out)))
 else none
 else
 bif Nat.beq (List.length out) (List.length out) then
 some (.inl (sorted, t7, t16, t17, t18, t30, t31, W64 (t32 + 1), out))
 else none
 else
 bif Nat.beq (List.length out) (List.length out) then
 some (.inl (sorted, t7, t16, t17, t18, t30, t31, W64 (t32 + 1), out))
 else none
 else
 bif Nat.beq (List.length out) (List.length out) then
 some (.inr (.inr (sorted, t7, t16, t17, t18, out)))
 else none
def z0a (s : z1m) : Option (z1m ⊕ z1l) := z1n s.1 s.2.1 s.2.2.1 s.2.2.2.1 s.2.2.2.2.1 s.2.2.2.2.2.1 s.2.2.2.2.2.2.1 s.2.2.2.2.2.2.2.1 s.2.2.2.2.2.2.2.2
theorem z5n : SoundD Tryd.prog (.loop (subC (bodyC Tryd.f6) [1, 0, 1, 1, 1, 0, 1, 0, 0, 1, 1, 0, 0, 1, 1, 0, 1, 0, 0])) (loopD z0m.xe z0n (loopC z0a)) :=
 z4n (S := z0m.xe) (X := z0n) zbi (h := .no) (z1b [] (by kernel_rfl) trivial) (z0g z0m) z5e z0a (fun s => by kernel_rfl)
def z6d : Shp := ⟨54, 0, [(5, .wn 0 .str)], [.row 9 .str]⟩
def z6a : Shp := ⟨54, 0, [(2, .d (.sl .str)), (3, .d (.int .i64))], []⟩
def z2b : XS := .or (.exit 0) z6d.xe (.one .ret z6a.xe)
theorem zb2 : z2b.OK := XS.or_ok (z0g z6d) (XS.one_ok (z0g z6a))
def z2a : Shp := ⟨54, 0, [(4, .d (.sl .str)), (5, .wn 0 .str), (16, .d (.sl .str)), (17, .d (.int .i64)), (18, .d (.int .i64))], [.row 9 .str]⟩
abbrev z4k := (List (List Int)) × (List (List Int)) × Int × Int × (List (List Int))
abbrev z0x := ((List (List Int))) ⊕ ((List (List Int)) × Int)
def z1z (sorted : List (List Int)) (t16 : List (List Int)) (t17 : Int) (t18 : Int) (out : List (List Int)) : Option (z4k ⊕ z0x) :=
 bif ltI t18 t17 then
 (idxI t16 t18).bind fun x =>
 (z8q x).bind fun r =>
 bif neI r.2 0 then
 some (.inr (.inr ([], r.2)))
 else
 z0p (List.length sorted) (
 bif Nat.beq (List.length out) (List.length out) then
 (loopC z0a (sorted, x, t16, t17, t18, sorted, (List.length sorted : Nat), 0, out)).bind fun o =>
 Sum.elim (fun y =>
 bif Nat.beq (List.length y.2.2.2.2.2.2.2) (List.length y.2.2.2.2.2.2.2) then
 some (.inl (y.1, y.2.1, y.2.2.1, W64 (y.2.2.2.1 + 1), y.2.2.2.2.2.2.2))
 else none) (fun y2 =>
 bif Nat.beq (List.length y2.2.2.2.2.2) (List.length y2.2.2.2.2.2) then
 appG (List.length y2.2.2.2.2.2) (List.length ([y2.2.1] : List (List Int))) 16 fun _ =>
 bif Nat.beq (List.length (y2.2.2.2.2.2 ++ ([y2.2.1] : List (List Int)))) (List.length (y2.2.2.2.2.2 ++ ([y2.2.1] : List (List Int)))) then
 some (.inl (y2.1, y2.2.2.1, y2.2.2.2.1, W64 (y2.2.2.2.2.1 + 1), y2.2.2.2.2.2 ++ ([y2.2.1] : List (List Int))))
 else none
 else none) o
 else none)
 else
 bif Nat.beq (List.length out) (List.length out) then
 some (.inr (.inl out))
 else none
def z0e (s : z4k) : Option (z4k ⊕ z0x) := z1z s.1 s.2.1 s.2.2.1 s.2.2.2.1 s.2.2.2.2
theorem zbk : SoundD Tryd.prog (.loop (subC (bodyC Tryd.f6) [1, 0, 1, 1, 1, 0, 1, 0, 0])) (loopD z2a.xe z2b (loopC z0e)) :=
 z4n (S := z2a.xe) (X := z2b) zbi (h := (.two .no (.two .no (.two (.two .no (.two .no (.two (.two .no (.over (loopD z0m.xe z0n (loopC z0a)))) .no))) .no)))) (z1b [.den (.loop (subC (bodyC Tryd.f6) [1, 0, 1, 1, 1, 0, 1, 0, 0, 1, 1, 0, 0, 1, 1, 0, 1, 0, 0])) (loopD z0m.xe z0n (loopC z0a))] (by kernel_rfl) ⟨z5n, trivial⟩) (z0g z2a) zb2 z0e (fun s => by kernel_rfl)
def zga : Shp := ⟨1, 0, [(0, .tu [.d (.sl .str), .d (.int .i64)])], []⟩
def zij : XS := .one .ret zga.xe
theorem zmx : zij.OK := XS.one_ok (z0g zga)
def za2 (l : List (List Int)) : Option (((List (List Int)) × Int)) :=
 (z9p l).bind fun r =>
 (zct r).bind fun r2 =>
 bif Nat.beq (List.length r2.2) (List.length r2.2) then
 (zb4 r2.2).bind fun r3 =>
 z0p (List.length r3) (
 bif Nat.beq 0 (List.length ([] : List (List Int))) then
 (loopC z0e (r3, r3, (List.length r3 : Nat), 0, ([] : List (List Int)))).bind fun o =>
 Sum.elim (fun y =>
 z0p (List.length y) (
 bif ltI 8 (List.length y : Nat) then
 some ([], 4)
 else
 winK y 0 (List.length y) fun w =>
 some (w, 0))) (fun y2 =>
 some (y2.1, y2.2)) o
 else none)
 else none
def zix : Sig := ⟨6, [.d (.sl .str)], [], 0, zij⟩
def zh3 (x : (List (List Int))) : Option (((List (List Int)) × Int)) := za2 x
theorem zp5 : FnOK Tryd.prog zix zh3 :=
 fn_ok zbi (h := (.two .no (.two .no (.two .no (.two .no (.two (.two .no (.over (loopD z2a.xe z2b (loopC z0e)))) .no)))))) Tryd.func6 (z1b [.den (.loop (subC (bodyC Tryd.f6) [1, 0, 1, 1, 1, 0, 1, 0, 0])) (loopD z2a.xe z2b (loopC z0e))] (by kernel_rfl) ⟨zbk, trivial⟩) (by kernel_rfl) zmx (fun x => by kernel_rfl)
def zr2 : Env := ⟨[(entQ z8y z8c)], [], []⟩
theorem znz : EnvsOK Tryd.prog zr2 := ⟨z0s (z1a zah) (z2d _), z1j _, z1k _⟩
def zgl : Shp := ⟨1, 0, [(0, .d .bool)], []⟩
def zi8 : XS := .one .ret zgl.xe
theorem zn4 : zi8.OK := XS.one_ok (z0g zgl)
def zge (t0 : List Int) (t1 : List Int) : Option ((Bool)) :=
 (z7n t1 t0).bind fun r =>
 some r
def zi0 : Sig := ⟨16, [.d .str, .rf (.d .str)], [], 0, zi8⟩
def zgv (x : (List Int) × (List Int)) : Option ((Bool)) := zge x.1 x.2
theorem zpv : FnOK Tryd.prog zi0 zgv :=
 fn_ok znz (h := .no) Tryd.func16 (z1b [] (by kernel_rfl) trivial) (by kernel_rfl) zn4 (fun x => by kernel_rfl)
def zkw : Env := ⟨[(entQ zi0 zgv)], [], []⟩
theorem zcb : EnvsOK Tryd.prog zkw := ⟨z0s (z1a zpv) (z2d _), z1j _, z1k _⟩
def z8i : Shp := ⟨19, 0, [], []⟩
def z8g : Shp := ⟨19, 0, [(4, .d (.int .i64))], []⟩
def z2t : XS := .or (.exit 0) z8i.xe (.one .ret z8g.xe)
theorem zd2 : z2t.OK := XS.or_ok (z0g z8i) (XS.one_ok (z0g z8g))
def z2s : Shp := ⟨19, 0, [(0, .d (.sl .str)), (1, .fn 16 [.rf (.d .str)]), (7, .d (.int .i64)), (8, .d (.int .i64))], []⟩
abbrev z5k := (List (List Int)) × (List Int) × Int × Int
abbrev z5m := (Unit) ⊕ (Int)
def z5o (t0 : List (List Int)) (f : List Int) (t7 : Int) (t8 : Int) : Option (z5k ⊕ z5m) :=
 bif ltI t8 t7 then
 (idxI t0 t8).bind fun x =>
 (zge x f).bind fun r =>
 bif r then
 some (.inr (.inr t8))
 else
 some (.inl (t0, f, t7, W64 (t8 + 1)))
 else
 some (.inr (.inl ()))
def z0y (s : z5k) : Option (z5k ⊕ z5m) := z5o s.1 s.2.1 s.2.2.1 s.2.2.2
theorem zdp : SoundD Tryd.prog (.loop (subC (bodyC Tryd.f24) [1, 0, 1, 0, 0])) (loopD z2s.xe z2t (loopC z0y)) :=
 z4n (S := z2s.xe) (X := z2t) zcb (h := .no) (z1b [] (by kernel_rfl) trivial) (z0g z2s) zd2 z0y (fun s => by kernel_rfl)
def zcy : Shp := ⟨1, 0, [(0, .d (.int .i64))], []⟩
def ze3 : XS := .one .ret zcy.xe
theorem zhw : ze3.OK := XS.one_ok (z0g zcy)
def zbr (t0 : List (List Int)) (f : List Int) : Option ((Int)) :=
 z0p (List.length t0) (
 (loopC z0y (t0, f, (List.length t0 : Nat), 0)).bind fun o =>
 Sum.elim (fun y =>
 some (-1)) (fun y2 =>
 some y2) o)
def zea : Sig := ⟨24, [.d (.sl .str), .fn 16 [.rf (.d .str)]], [], 0, ze3⟩
def zd7 (x : (List (List Int)) × (List Int)) : Option ((Int)) := zbr x.1 x.2
theorem zkp : FnOK Tryd.prog zea zd7 :=
 fn_ok zcb (h := (.two .no (.two (.two .no (.over (loopD z2s.xe z2t (loopC z0y)))) .no))) Tryd.func24 (z1b [.den (.loop (subC (bodyC Tryd.f24) [1, 0, 1, 0, 0])) (loopD z2s.xe z2t (loopC z0y))] (by kernel_rfl) ⟨zdp, trivial⟩) (by kernel_rfl) zhw (fun x => by kernel_rfl)
def zie : Env := ⟨[(entQ zea zd7)], [], []⟩
theorem zgt : EnvsOK Tryd.prog zie := ⟨z0s (z1a zkp) (z2d _), z1j _, z1k _⟩
def zap : Shp := ⟨1, 0, [(0, .d .bool)], []⟩
def zbx : XS := .one .ret zap.xe
theorem zg8 : zbx.OK := XS.one_ok (z0g zap)
def z6n (t0 : List (List Int)) (f : List Int) : Option ((Bool)) :=
 (zbr t0 f).bind fun r =>
 some (leI 0 r)
def zby : Sig := ⟨15, [.d (.sl .str), .fn 16 [.rf (.d .str)]], [], 0, zbx⟩
def zb7 (x : (List (List Int)) × (List Int)) : Option ((Bool)) := z6n x.1 x.2
theorem zhg : FnOK Tryd.prog zby zb7 :=
 fn_ok zgt (h := .no) Tryd.func15 (z1b [] (by kernel_rfl) trivial) (by kernel_rfl) zg8 (fun x => by kernel_rfl)
def zsr : Env := ⟨[(entQ zby zb7)], [], []⟩
theorem zr0 : EnvsOK Tryd.prog zsr := ⟨z0s (z1a zhg) (z2d _), z1j _, z1k _⟩
def ziq : Shp := ⟨1, 0, [(0, .d .bool)], []⟩
def zll : XS := .one .ret ziq.xe
theorem zot : zll.OK := XS.one_ok (z0g ziq)
def zck (l : List (List Int)) (t1 : List Int) : Option ((Bool)) :=
 z0p (List.length l) (
 bif eqI (List.length l : Nat) 0 then
 some true
 else
 (z6n l t1).bind fun r =>
 some r)
def zgm : Sig := ⟨8, [.d (.sl .str), .d .str], [], 0, zll⟩
def zes (x : (List (List Int)) × (List Int)) : Option ((Bool)) := zck x.1 x.2
theorem zkb : FnOK Tryd.prog zgm zes :=
 fn_ok zr0 (h := .no) Tryd.func8 (z1b [] (by kernel_rfl) trivial) (by kernel_rfl) zot (fun x => by kernel_rfl)
def znx : Env := ⟨[(entQ z8y z8c)], [], []⟩
theorem zle : EnvsOK Tryd.prog znx := ⟨z0s (z1a zah) (z2d _), z1j _, z1k _⟩
def zeh : Shp := ⟨1, 0, [(0, .d .bool)], []⟩
def zg2 : XS := .one .ret zeh.xe
theorem zkm : zg2.OK := XS.one_ok (z0g zeh)
def zdo (t0 : List Int) (t1 : List Int) : Option ((Bool)) :=
 (z7n t0 t1).bind fun r =>
 some r
def zgh : Sig := ⟨17, [.d .str, .rf (.d .str)], [], 0, zg2⟩
def zf0 (x : (List Int) × (List Int)) : Option ((Bool)) := zdo x.1 x.2
theorem zn3 : FnOK Tryd.prog zgh zf0 :=
 fn_ok zle (h := .no) Tryd.func17 (z1b [] (by kernel_rfl) trivial) (by kernel_rfl) zkm (fun x => by kernel_rfl)
def zjr : Env := ⟨[(entQ zgh zf0)], [], []⟩
theorem zb6 : EnvsOK Tryd.prog zjr := ⟨z0s (z1a zn3) (z2d _), z1j _, z1k _⟩
def z6v : Shp := ⟨19, 0, [], []⟩
def z7e : Shp := ⟨19, 0, [(4, .d (.int .i64))], []⟩
def z2k : XS := .or (.exit 0) z6v.xe (.one .ret z7e.xe)
theorem zc7 : z2k.OK := XS.or_ok (z0g z6v) (XS.one_ok (z0g z7e))
def z2h : Shp := ⟨19, 0, [(0, .d (.sl .str)), (1, .fn 17 [.rf (.d .str)]), (7, .d (.int .i64)), (8, .d (.int .i64))], []⟩
abbrev z4p := (List (List Int)) × (List Int) × Int × Int
abbrev z4s := (Unit) ⊕ (Int)
def z4t (t0 : List (List Int)) (f : List Int) (t7 : Int) (t8 : Int) : Option (z4p ⊕ z4s) :=
 bif ltI t8 t7 then
 (idxI t0 t8).bind fun x =>
 (zdo x f).bind fun r =>
 bif r then
 some (.inr (.inr t8))
 else
 some (.inl (t0, f, t7, W64 (t8 + 1)))
 else
 some (.inr (.inl ()))
def z0t (s : z4p) : Option (z4p ⊕ z4s) := z4t s.1 s.2.1 s.2.2.1 s.2.2.2
theorem zcl : SoundD Tryd.prog (.loop (subC (bodyC Tryd.f24) [1, 0, 1, 0, 0])) (loopD z2h.xe z2k (loopC z0t)) :=
 z4n (S := z2h.xe) (X := z2k) zb6 (h := .no) (z1b [] (by kernel_rfl) trivial) (z0g z2h) zc7 z0t (fun s => by kernel_rfl)
def zb5 : Shp := ⟨1, 0, [(0, .d (.int .i64))], []⟩
def zcv : XS := .one .ret zb5.xe
theorem zgr : zcv.OK := XS.one_ok (z0g zb5)
def z9t (t0 : List (List Int)) (f : List Int) : Option ((Int)) :=
 z0p (List.length t0) (
 (loopC z0t (t0, f, (List.length t0 : Nat), 0)).bind fun o =>
 Sum.elim (fun y =>
 some (-1)) (fun y2 =>
 some y2) o)
def zcp : Sig := ⟨24, [.d (.sl .str), .fn 17 [.rf (.d .str)]], [], 0, zcv⟩
def zbv (x : (List (List Int)) × (List Int)) : Option ((Int)) := z9t x.1 x.2
theorem zhx : FnOK Tryd.prog zcp zbv :=
 fn_ok zb6 (h := (.two .no (.two (.two .no (.over (loopD z2h.xe z2k (loopC z0t)))) .no))) Tryd.func24 (z1b [.den (.loop (subC (bodyC Tryd.f24) [1, 0, 1, 0, 0])) (loopD z2h.xe z2k (loopC z0t))] (by kernel_rfl) ⟨zcl, trivial⟩) (by kernel_rfl) zgr (fun x => by kernel_rfl)
def zgs : Env := ⟨[(entQ zcp zbv)], [], []⟩
theorem zfe : EnvsOK Tryd.prog zgs := ⟨z0s (z1a zhx) (z2d _), z1j _, z1k _⟩
def z9o : Shp := ⟨1, 0, [(0, .d .bool)], []⟩
def zao : XS := .one .ret z9o.xe
theorem zer : zao.OK := XS.one_ok (z0g z9o)
def z5i (t0 : List (List Int)) (f : List Int) : Option ((Bool)) :=
 (z9t t0 f).bind fun r =>
 some (leI 0 r)
def zar : Sig := ⟨15, [.d (.sl .str), .fn 17 [.rf (.d .str)]], [], 0, zao⟩
def z9u (x : (List (List Int)) × (List Int)) : Option ((Bool)) := z5i x.1 x.2
theorem zg1 : FnOK Tryd.prog zar z9u :=
 fn_ok zfe (h := .no) Tryd.func15 (z1b [] (by kernel_rfl) trivial) (by kernel_rfl) zer (fun x => by kernel_rfl)
def zqg : Env := ⟨[(entQ zgm zes), (entQ zar z9u)], [], []⟩
theorem zoe : EnvsOK Tryd.prog zqg := ⟨z0s (z1a zkb) (z0s (z1a zg1) (z2d _)), z1j _, z1k _⟩
def zgk : Shp := ⟨1, 0, [(0, .d .bool)], []⟩
def zir : XS := .one .ret zgk.xe
theorem zmz : zir.OK := XS.one_ok (z0g zgk)
def zcz (l : List (List Int)) (t1 : List Int) : Option ((Bool)) :=
 (zck l t1).bind fun r =>
 bif r then
 some true
 else
 (z5i l t1).bind fun r2 =>
 some r2
def zhy : Sig := ⟨9, [.d (.sl .str), .d .str], [], 0, zir⟩
def zhd (x : (List (List Int)) × (List Int)) : Option ((Bool)) := zcz x.1 x.2
theorem zpq : FnOK Tryd.prog zhy zhd :=
 fn_ok zoe (h := .no) Tryd.func9 (z1b [] (by kernel_rfl) trivial) (by kernel_rfl) zmz (fun x => by kernel_rfl)
def zsf : Env := ⟨[(entQ zix zh3), (entQ zgm zes), (entQ zhy zhd)], [], []⟩
theorem zoy : EnvsOK Tryd.prog zsf := ⟨z0s (z1a zp5) (z0s (z1a zkb) (z0s (z1a zpq) (z2d _))), z1j _, z1k _⟩
def zgw : Shp := ⟨1, 0, [(0, .d .bool)], []⟩
def zkk : XS := .one .ret zgw.xe
theorem zo8 : zkk.OK := XS.one_ok (z0g zgw)
def z9i  : Option ((Bool)) :=
 (za2 ([([47, 98] : List Int), ([47, 97, 47, 99] : List Int), ([47, 97] : List Int)] : List (List Int))).bind fun r =>
 bif eqI r.2 0 then
 z0p (List.length r.1) (
 bif eqI (List.length r.1 : Nat) 2 then
 (idxI r.1 0).bind fun x =>
 bif eqS x ([47, 97] : List Int) then
 (idxI r.1 1).bind fun x2 =>
 bif eqS x2 ([47, 98] : List Int) then
 (zck r.1 ([47, 97, 47, 120] : List Int)).bind fun r2 =>
 bif r2 then
 (zcz [] ([47] : List Int)).bind fun r3 =>
 some r3
 else
 some false
 else
 some false
 else
 some false
 else
 some false)
 else
 some false
def zkf : Sig := ⟨4, [], [], 0, zkk⟩
def zi9 (x : Unit) : Option ((Bool)) := z9i 
theorem zqr : FnOK Tryd.prog zkf zi9 :=
 fn_ok zoy (h := .no) Tryd.func4 (z1b [] (by kernel_rfl) trivial) (by kernel_rfl) zo8 (fun x => by kernel_rfl)
def zsj : Env := ⟨[], [], []⟩
theorem zh9 : EnvsOK Tryd.prog zsj := ⟨z2d _, z1j _, z1k _⟩
def z9n : Shp := ⟨18, 0, [], []⟩
def z9m : Shp := ⟨18, 0, [(2, .d .bool)], []⟩
def z3t : XS := .or (.exit 0) z9n.xe (.one .ret z9m.xe)
theorem zev : z3t.OK := XS.or_ok (z0g z9n) (XS.one_ok (z0g z9m))
def z3s : Shp := ⟨18, 0, [(8, .d (.sl .str)), (9, .d (.int .i64)), (10, .d (.int .i64))], []⟩
abbrev z6p := (List (List Int)) × Int × Int
abbrev zaq := (Unit) ⊕ (Bool)
def z6o (t8 : List (List Int)) (t9 : Int) (t10 : Int) : Option (z6p ⊕ zaq) :=
 bif ltI t10 t9 then
 (idxI t8 t10).bind fun x =>
 z0p (List.length x) (
 bif ltI 200 (List.length x : Nat) then
 some (.inr (.inr false))
 else
 some (.inl (t8, t9, W64 (t10 + 1))))
 else
 some (.inr (.inl ()))
def z1h (s : z6p) : Option (z6p ⊕ zaq) := z6o s.1 s.2.1 s.2.2
theorem zfj : SoundD Tryd.prog (.loop (subC (bodyC Tryd.f5) [1, 1, 0, 1, 0, 0])) (loopD z3s.xe z3t (loopC z1h)) :=
 z4n (S := z3s.xe) (X := z3t) zh9 (h := .no) (z1b [] (by kernel_rfl) trivial) (z0g z3s) zev z1h (fun s => by kernel_rfl)
def zhf : Shp := ⟨1, 0, [(0, .d .bool)], []⟩
def zk6 : XS := .one .ret zhf.xe
theorem zoa : zk6.OK := XS.one_ok (z0g zhf)
def zdz (l : List (List Int)) : Option ((Bool)) :=
 z0p (List.length l) (
 bif ltI 20 (List.length l : Nat) then
 some false
 else
 z0p (List.length l) (
 (loopC z1h (l, (List.length l : Nat), 0)).bind fun o =>
 Sum.elim (fun y =>
 some true) (fun y2 =>
 some y2) o))
def zkh : Sig := ⟨5, [.d (.sl .str)], [], 0, zk6⟩
def zj3 (x : (List (List Int))) : Option ((Bool)) := zdz x
theorem zql : FnOK Tryd.prog zkh zj3 :=
 fn_ok zh9 (h := (.two .no (.two .no (.two (.two .no (.over (loopD z3s.xe z3t (loopC z1h)))) .no)))) Tryd.func5 (z1b [.den (.loop (subC (bodyC Tryd.f5) [1, 1, 0, 1, 0, 0])) (loopD z3s.xe z3t (loopC z1h))] (by kernel_rfl) ⟨zfj, trivial⟩) (by kernel_rfl) zoa (fun x => by kernel_rfl)
def zoi : Env := ⟨[(entQ zcr zbd), (entQ z8y z8c)], [(entP zaw za7), (entP zgn zeu), (entP zep zds)], []⟩
theorem z9s : EnvsOK Tryd.prog zoi := ⟨z0s (z1a zeo) (z0s (z1a zah) (z2d _)), za3 (zdt zeg) (za3 (zdt zk9) (za3 (zdt zim) (z1j _))), z1k _⟩
def z2o : Shp := ⟨54, 0, [(4, .d (.sl .str)), (5, .wn 0 .str), (16, .d (.sl .str)), (17, .d (.int .i64)), (18, .d (.int .i64)), (40, .d .str), (41, .d .str), (42, .d .bool)], [.row 9 .str]⟩
def z2l : Shp := ⟨54, 0, [(4, .d (.sl .str)), (5, .wn 0 .str), (7, .d .str), (16, .d (.sl .str)), (17, .d (.int .i64)), (18, .d (.int .i64))], [.row 9 .str]⟩
def z0k : XS := .or (.exit 1) z2o.xe (.one (.exit 2) z2l.xe)
theorem z4w : z0k.OK := XS.or_ok (z0g z2o) (XS.one_ok (z0g z2l))
def z0i : Shp := ⟨54, 0, [(4, .d (.sl .str)), (5, .wn 0 .str), (7, .d .str), (16, .d (.sl .str)), (17, .d (.int .i64)), (18, .d (.int .i64)), (30, .d (.sl .str)), (31, .d (.int .i64)), (32, .d (.int .i64))], [.row 9 .str]⟩
abbrev z1g := (List (List Int)) × (List Int) × (List (List Int)) × Int × Int × (List (List Int)) × Int × Int × (List (List Int))
abbrev z2q := ((List (List Int)) × (List (List Int)) × Int × Int × (List Int) × (List Int) × Bool × (List (List Int))) ⊕ ((List (List Int)) × (List Int) × (List (List Int)) × Int × Int × (List (List Int)))
def z5l (sorted : List (List Int)) (t7 : List Int) (t16 : List (List Int)) (t17 : Int) (t18 : Int) (t30 : List (List Int)) (t31 : Int) (t32 : Int) (out : List (List Int)) : Option (z1g ⊕ z2q) :=
 bif ltI t32 t31 then
 (idxI t30 t32).bind fun x =>
 bif !(eqS x t7) then
 (z7n t7 x).bind fun r =>
 bif r then
 bif Nat.beq (List.length out) (List.length out) then
 some (.inr (.inl (sorted, t16, t17, t18, t7, x, r, out)))
 else none
 else
 bif Nat.beq (List.length out) (List.length out) then
 some (.inl (sorted, t7, t16, t17, t18, t30, t31, W64 (t32 + 1), out))
 else none
 else
 bif Nat.beq (List.length out) (List.length out) then
 some (.inl (sorted, t7, t16, t17, t18, t30, t31, W64 (t32 + 1), out))
 else none
 else
 bif Nat.beq (List.length out) (List.length out) then
 some (.inr (.inr (sorted, t7, t16, t17, t18, out)))
 else none
def z0j (s : z1g) : Option (z1g ⊕ z2q) := z5l s.1 s.2.1 s.2.2.1 s.2.2.2.1 s.2.2.2.2.1 s.2.2.2.2.2.1 s.2.2.2.2.2.2.1 s.2.2.2.2.2.2.2.1 s.2.2.2.2.2.2.2.2
theorem z5d : SoundD Tryd.prog (.loop (subC (bodyC Tryd.f6) [1, 0, 1, 1, 1, 0, 1, 0, 0, 1, 1, 0, 0, 1, 1, 0, 1, 0, 0])) (loopD z0i.xe z0k (loopC z0j)) :=
 z4n (S := z0i.xe) (X := z0k) z9s (h := .no) (z1b [] (by kernel_rfl) trivial) (z0g z0i) z4w z0j (fun s => by kernel_rfl)
def z5p : Shp := ⟨54, 0, [(5, .wn 0 .str)], [.row 9 .str]⟩
def z5r : Shp := ⟨54, 0, [(2, .d (.sl .str)), (3, .d (.int .i64))], []⟩
def z1p : XS := .or (.exit 0) z5p.xe (.one .ret z5r.xe)
theorem zaj : z1p.OK := XS.or_ok (z0g z5p) (XS.one_ok (z0g z5r))
def z1r : Shp := ⟨54, 0, [(4, .d (.sl .str)), (5, .wn 0 .str), (16, .d (.sl .str)), (17, .d (.int .i64)), (18, .d (.int .i64))], [.row 9 .str]⟩
abbrev z4b := (List (List Int)) × (List (List Int)) × Int × Int × (List (List Int))
abbrev z6j := ((List (List Int))) ⊕ ((List (List Int)) × Int)
def zbj (sorted : List (List Int)) (t16 : List (List Int)) (t17 : Int) (t18 : Int) (out : List (List Int)) : Option (z4b ⊕ z6j) :=
 bif ltI t18 t17 then
 (idxI t16 t18).bind fun x =>
 (z8q x).bind fun r =>
 bif neI r.2 0 then
 some (.inr (.inr ([], r.2)))
 else
 z0p (List.length sorted) (
 bif Nat.beq (List.length out) (List.length out) then
 (loopC z0j (sorted, x, t16, t17, t18, sorted, (List.length sorted : Nat), 0, out)).bind fun o =>
 Sum.elim (fun y =>
 bif Nat.beq (List.length y.2.2.2.2.2.2.2) (List.length y.2.2.2.2.2.2.2) then
 some (.inl (y.1, y.2.1, y.2.2.1, W64 (y.2.2.2.1 + 1), y.2.2.2.2.2.2.2))
 else none) (fun y2 =>
 bif Nat.beq (List.length y2.2.2.2.2.2) (List.length y2.2.2.2.2.2) then
 appG (List.length y2.2.2.2.2.2) (List.length ([y2.2.1] : List (List Int))) 16 fun _ =>
 bif Nat.beq (List.length (y2.2.2.2.2.2 ++ ([y2.2.1] : List (List Int)))) (List.length (y2.2.2.2.2.2 ++ ([y2.2.1] : List (List Int)))) then
 some (.inl (y2.1, y2.2.2.1, y2.2.2.2.1, W64 (y2.2.2.2.2.1 + 1), y2.2.2.2.2.2 ++ ([y2.2.1] : List (List Int))))
 else none
 else none) o
 else none)
 else
 bif Nat.beq (List.length out) (List.length out) then
 some (.inr (.inl out))
 else none
def z1q (s : z4b) : Option (z4b ⊕ z6j) := zbj s.1 s.2.1 s.2.2.1 s.2.2.2.1 s.2.2.2.2
theorem zas : SoundD Tryd.prog (.loop (subC (bodyC Tryd.f6) [1, 0, 1, 1, 1, 0, 1, 0, 0])) (loopD z1r.xe z1p (loopC z1q)) :=
 z4n (S := z1r.xe) (X := z1p) z9s (h := (.two .no (.two .no (.two (.two .no (.two .no (.two (.two .no (.over (loopD z0i.xe z0k (loopC z0j)))) .no))) .no)))) (z1b [.den (.loop (subC (bodyC Tryd.f6) [1, 0, 1, 1, 1, 0, 1, 0, 0, 1, 1, 0, 0, 1, 1, 0, 1, 0, 0])) (loopD z0i.xe z0k (loopC z0j))] (by kernel_rfl) ⟨z5d, trivial⟩) (z0g z1r) zaj z1q (fun s => by kernel_rfl)
def zec : Shp := ⟨1, 0, [(0, .tu [.d (.sl .str), .d (.int .i64)])], []⟩
def zfx : XS := .one .ret zec.xe
theorem zkr : zfx.OK := XS.one_ok (z0g zec)
def zan (l : List (List Int)) : Option (((List (List Int)) × Int)) :=
 (z9p l).bind fun r =>
 (zct r).bind fun r2 =>
 bif Nat.beq (List.length r2.2) (List.length r2.2) then
 (zb4 r2.2).bind fun r3 =>
 z0p (List.length r3) (
 bif Nat.beq 0 (List.length ([] : List (List Int))) then
 (loopC z1q (r3, r3, (List.length r3 : Nat), 0, ([] : List (List Int)))).bind fun o =>
 Sum.elim (fun y =>
 z0p (List.length y) (
 bif ltI 8 (List.length y : Nat) then
 some ([], 4)
 else
 winK y 0 (List.length y) fun w =>
 some (w, 0))) (fun y2 =>
 some (y2.1, y2.2)) o
 else none)
 else none
def zg5 : Sig := ⟨6, [.d (.sl .str)], [], 0, zfx⟩
def zey (x : (List (List Int))) : Option (((List (List Int)) × Int)) := zan x
theorem zmy : FnOK Tryd.prog zg5 zey :=
 fn_ok z9s (h := (.two .no (.two .no (.two .no (.two .no (.two (.two .no (.over (loopD z1r.xe z1p (loopC z1q)))) .no)))))) Tryd.func6 (z1b [.den (.loop (subC (bodyC Tryd.f6) [1, 0, 1, 1, 1, 0, 1, 0, 0])) (loopD z1r.xe z1p (loopC z1q))] (by kernel_rfl) ⟨zas, trivial⟩) (by kernel_rfl) zkr (fun x => by kernel_rfl)
def zqf : Env := ⟨[], [], []⟩
theorem zgj : EnvsOK Tryd.prog zqf := ⟨z2d _, z1j _, z1k _⟩
def z8x : Shp := ⟨26, 0, [], []⟩
def z9f : Shp := ⟨26, 0, [(4, .d .bool)], []⟩
def z3g : XS := .or (.exit 0) z8x.xe (.one .ret z9f.xe)
theorem ze7 : z3g.OK := XS.or_ok (z0g z8x) (XS.one_ok (z0g z9f))
def z3h : Shp := ⟨26, 0, [(0, .d (.sl .str)), (1, .d (.sl .str)), (12, .d (.int .i64)), (13, .d (.int .i64))], []⟩
abbrev z6l := (List (List Int)) × (List (List Int)) × Int × Int
abbrev z9w := (Unit) ⊕ (Bool)
def z6i (a : List (List Int)) (b : List (List Int)) (t12 : Int) (t13 : Int) : Option (z6l ⊕ z9w) :=
 bif ltI t13 t12 then
 (idxI a t13).bind fun x =>
 (idxI b t13).bind fun x2 =>
 bif !(eqS x x2) then
 some (.inr (.inr false))
 else
 some (.inl (a, b, t12, W64 (t13 + 1)))
 else
 some (.inr (.inl ()))
def z1c (s : z6l) : Option (z6l ⊕ z9w) := z6i s.1 s.2.1 s.2.2.1 s.2.2.2
theorem zen : SoundD Tryd.prog (.loop (subC (bodyC Tryd.f7) [1, 1, 0, 1, 0, 0])) (loopD z3h.xe z3g (loopC z1c)) :=
 z4n (S := z3h.xe) (X := z3g) zgj (h := .no) (z1b [] (by kernel_rfl) trivial) (z0g z3h) ze7 z1c (fun s => by kernel_rfl)
def zfy : Shp := ⟨1, 0, [(0, .d .bool)], []⟩
def zi7 : XS := .one .ret zfy.xe
theorem zn2 : zi7.OK := XS.one_ok (z0g zfy)
def zcw (a : List (List Int)) (b : List (List Int)) : Option ((Bool)) :=
 z0p (List.length a) (
 z0p (List.length b) (
 bif neI (List.length a : Nat) (List.length b : Nat) then
 some false
 else
 z0p (List.length a) (
 (loopC z1c (a, b, (List.length a : Nat), 0)).bind fun o =>
 Sum.elim (fun y =>
 some true) (fun y2 =>
 some y2) o)))
def zi2 : Sig := ⟨7, [.d (.sl .str), .d (.sl .str)], [], 0, zi7⟩
def zgy (x : (List (List Int)) × (List (List Int))) : Option ((Bool)) := zcw x.1 x.2
theorem zpm : FnOK Tryd.prog zi2 zgy :=
 fn_ok zgj (h := (.two .no (.two .no (.two (.two .no (.over (loopD z3h.xe z3g (loopC z1c)))) .no)))) Tryd.func7 (z1b [.den (.loop (subC (bodyC Tryd.f7) [1, 1, 0, 1, 0, 0])) (loopD z3h.xe z3g (loopC z1c))] (by kernel_rfl) ⟨zen, trivial⟩) (by kernel_rfl) zn2 (fun x => by kernel_rfl)
def zkn : Env := ⟨[(entQ zkf zi9), (entQ zkh zj3), (entQ zi2 zgy)], [(entP zg5 zey)], []⟩
theorem zc1 : EnvsOK Tryd.prog zkn := ⟨z0s (z1a zqr) (z0s (z1a zql) (z0s (z1a zpm) (z2d _))), za3 (zdt zmy) (z1j _), z1k _⟩
def z4u : Shp := ⟨60, 0, [(3, .d (.sl .str)), (5, .wn 0 .str)], [.row 9 .str]⟩
def z1f : XS := .one (.exit 0) z4u.xe
theorem z9l : z1f.OK := XS.one_ok (z0g z4u)
def z1d : Shp := ⟨60, 0, [(3, .d (.sl .str)), (5, .wn 0 .str), (28, .d (.int .i64)), (29, .d (.int .i64))], [.row 9 .str]⟩
abbrev z3l := (List (List Int)) × Int × Int × (List (List Int))
abbrev z5f := ((List (List Int)) × (List (List Int)))
def z3p (out : List (List Int)) (t28 : Int) (t29 : Int) (turned : List (List Int)) : Option (z3l ⊕ z5f) :=
 bif ltI t29 t28 then
 z0p (List.length out) (
 (idxI out (W64 ((W64 ((List.length out : Nat) - 1)) - t29))).bind fun x =>
 (idxI out t29).bind fun x2 =>
 bif Nat.beq (List.length turned) (List.length turned) then
 appG (List.length turned) (List.length ([x, x2] : List (List Int))) 16 fun _ =>
 bif Nat.beq (List.length (turned ++ ([x, x2] : List (List Int)))) (List.length (turned ++ ([x, x2] : List (List Int)))) then
 some (.inl (out, t28, W64 (t29 + 1), turned ++ ([x, x2] : List (List Int))))
 else none
 else none)
 else
 bif Nat.beq (List.length turned) (List.length turned) then
 some (.inr (out, turned))
 else none
def z0f (s : z3l) : Option (z3l ⊕ z5f) := z3p s.1 s.2.1 s.2.2.1 s.2.2.2
theorem z9r : SoundD Tryd.prog (.loop (subC (bodyC Tryd.f3) [1, 1, 1, 1, 1, 0, 1, 0, 0])) (loopD z1d.xe z1f (loopC z0f)) :=
 z4n (S := z1d.xe) (X := z1f) zc1 (h := (.two .no (.two .no (.two (.two .no (.reg [] [14, 0, 1])) .no)))) (z1b [] (by kernel_rfl) trivial) (z0g z1d) z9l z0f (fun s => by kernel_rfl)
def zc0 : Shp := ⟨1, 0, [(0, .d .bool)], []⟩
def zda : XS := .one .ret zc0.xe
theorem zhk : zda.OK := XS.one_ok (z0g zc0)
def zau (l : List (List Int)) : Option ((Bool)) :=
 (z9i).bind fun r =>
 bif !r then
 (z9i).bind fun r2 =>
 some r2
 else
 (zdz l).bind fun r3 =>
 bif !r3 then
 (z9i).bind fun r4 =>
 some r4
 else
 (zan l).bind fun r5 =>
 bif neI r5.2 0 then
 z0p (List.length r5.1) (
 some (eqI (List.length r5.1 : Nat) 0))
 else
 z0p (List.length r5.1) (
 bif Nat.beq 0 (List.length ([] : List (List Int))) then
 (loopC z0f (r5.1, (List.length r5.1 : Nat), 0, ([] : List (List Int)))).bind fun o =>
 winK o.2 0 (List.length o.2) fun w =>
 (zan w).bind fun r6 =>
 bif eqI r6.2 0 then
 (zcw r6.1 o.1).bind fun r7 =>
 some r7
 else
 some false
 else none)
def zkl : Sig := ⟨3, [.d (.sl .str)], [], 0, zda⟩
def zcm (x : (List (List Int))) : Option ((Bool)) := zau x
theorem zjl : FnOK Tryd.prog zkl zcm :=
 fn_ok zc1 (h := (.two .no (.two .no (.two .no (.two .no (.two .no (.two (.two .no (.over (loopD z1d.xe z1f (loopC z0f)))) .no))))))) Tryd.func3 (z1b [.den (.loop (subC (bodyC Tryd.f3) [1, 1, 1, 1, 1, 0, 1, 0, 0])) (loopD z1d.xe z1f (loopC z0f))] (by kernel_rfl) ⟨z9r, trivial⟩) (by kernel_rfl) zhk (fun x => by kernel_rfl)
end Go.Proofs.YtomgkgngbpnngaaDoor
set_option maxRecDepth 100000
set_option linter.unusedVariables false
set_option linter.unusedSimpArgs false
namespace Go.Proofs.YtomgkgngbpnngaaDoor
open Go.Tm Go.Ab Go.Lib
def okI (x : Int) : Bool := z8d x || decide (48 ≤ x ∧ x ≤ 57) || (decide (x = 46) || decide (x = 95) || decide (x = 45))
def nameI (s : List Int) : Bool := decide (1 ≤ s.length ∧ s.length ≤ 12) && !decide (s = [46]) && !decide (s = [46, 46]) && s.all okI
theorem b8_eq {x : Int} (hx : 0 ≤ x ∧ x < 256) (c : UInt8) : (b8 x == c) = decide (x = c.toNat) := by
 rw [Bool.eq_iff_iff, beq_iff_eq, decide_eq_true_eq]
 constructor
 · intro e; rw [← e, za9 hx]
 · intro e
   apply UInt8.toNat_inj.1
   have := za9 hx
   omega
theorem zy7 {x : Int} (hx : 0 ≤ x ∧ x < 256) : okc (b8 x) = okI x := by
 unfold okc okI
 have h := za9 hx
 rw [h, b8_eq hx, b8_eq hx, b8_eq hx]
 have : decide (48 ≤ (b8 x).toNat ∧ (b8 x).toNat ≤ 57) = decide (48 ≤ x ∧ x ≤ 57) := by
   rw [Bool.eq_iff_iff, decide_eq_true_eq, decide_eq_true_eq]; omega
 rw [this]; rfl
theorem zyn {s t : List Int} (hs : Bs s) (ht : Bs t) : s.map b8 = t.map b8 ↔ s = t := by
 constructor
 · intro h
   induction s generalizing t with
   | nil => cases t with
     | nil => rfl
     | cons y t => simp at h
   | cons x s ih => cases t with
     | nil => simp at h
     | cons y t =>
       simp only [List.map_cons, List.cons.injEq] at h
       rw [zin (hs x (by simp)) (ht y (by simp)) h.1, ih (fun z hz => hs z (by simp [hz])) (fun z hz => ht z (by simp [hz])) h.2]
 · rintro rfl; rfl
theorem z13x {s : List Int} (hb : Bs s) : nameB (ba s) = nameI s := by
 unfold nameB nameI
 have e0 : (ba s).data.toList = s.map b8 := zdi s
 rw [e0, z6u]
 have h1 : (s.map b8 == [46]) = decide (s = [46]) := by
   rw [Bool.eq_iff_iff, beq_iff_eq, decide_eq_true_eq]
   exact zyn (t := [46]) hb (fun x hx => by simp at hx; subst hx; decide)
 have h2 : (s.map b8 == [46, 46]) = decide (s = [46, 46]) := by
   rw [Bool.eq_iff_iff, beq_iff_eq, decide_eq_true_eq]
   exact zyn (t := [46, 46]) hb (fun x hx => by simp at hx; subst hx; decide)
 have h3 : (s.map b8).all okc = s.all okI := by
   rw [List.all_map]
   rw [Bool.eq_iff_iff, List.all_eq_true, List.all_eq_true]
   constructor
   · intro h x hx; rw [← zy7 (hb x hx)]; exact h x hx
   · intro h x hx; show okc (b8 x) = true; rw [zy7 (hb x hx)]; exact h x hx
 rw [h1, h2, h3]
theorem zxd {s : List Int} (hb : Bs s) (hl : s.length ≤ 1000) : zjg s = some (nameI s) := by
 unfold zjg zek
 rw [ble_t (by omega), z13x hb]; rfl
theorem zlh {s : List Int} (hb : Bs s) (hl : s.length ≤ 1000) : zcf s = some (canon s) := by
 unfold zcf zek
 rw [ble_t (by omega), z10e hb]; rfl
end Go.Proofs.YtomgkgngbpnngaaDoor