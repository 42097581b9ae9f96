import Derived.Test.YtomgkgngbpnngaaGreatDoorCzW3toCzW7
import Derived.Test.YtomgkgngbpnngaaGreatDoorTm26to29
import Derived.Shelf.Strings.Split
import Derived.Test.YtomgkgngbpnngaaGreatDoorCzLtoCzW2
import Derived.Lib.RowBridge
import Derived.Test.YtomgkgngbpnngaaGreatDoorTm21to25
import Derived.Test.YtomgkgngbpnngaaGreatDoorProg
set_option linter.unusedVariables false
set_option linter.unusedSimpArgs false
namespace Go.Proofs.YtomgkgngbpnngaaGreatDoor
open Go.Shelf Go.Proofs Go.RowKit Go.Sort Go.Lib Go.Ab Go.Tm
theorem z15x {w : World} {c : Cx} {H : List AObj} {ts : List Bool} (g : Ab.Good w c H ts) : Glob w := g.gl.var
def zno (s : List Int) : Option Bool := zh2 (List.length s) (some (nameB (ba s)))
def zve : Sig := libS 44 [.d .str] .bool
def zry (x : List Int) : Option Bool := zno x
theorem z11s : FnOK Tryz.prog zve zry := z13j (u := .str) (B := .bool) (by kernel_rfl) fun x y hy hx => by
 obtain ⟨hl, h2⟩ := zs2 (show zh2 (List.length x) (some (nameB (ba x))) = some y from hy)
 cases h2
 refine ⟨trivial, fun w c vs g hs hv => ?_⟩
 rw [vals1 hs hv]
 refine (z13y (ba x) (by rw [z9b]; omega) w).mono ?_
 rintro e w' ⟨rfl, hb⟩
 exact ⟨_, rfl, hb, fun _ => by simp only [pvU, VR]; exact ⟨trivial, rfl⟩⟩
def zfq (s : List Int) : Option Bool := zh2 (List.length s) (some (zj8 (ba s)))
def zqd : Sig := libS 45 [.d .str] .bool
def zp2 (x : List Int) : Option Bool := zfq x
theorem zy4 : FnOK Tryz.prog zqd zp2 := z13j (u := .str) (B := .bool) (by kernel_rfl) fun x y hy hx => by
 obtain ⟨hl, h2⟩ := zs2 (show zh2 (List.length x) (some (zj8 (ba x))) = some y from hy)
 cases h2
 refine ⟨trivial, fun w c vs g hs hv => ?_⟩
 rw [vals1 hs hv]
 refine (z11d (ba x) (by rw [z9b]; omega) w g.gl.sz (z15x g)).mono ?_
 rintro e w' ⟨rfl, hb⟩
 exact ⟨_, rfl, hb, fun _ => by simp only [pvU, VR]; exact ⟨trivial, rfl⟩⟩
theorem zvb (l : List (List Int)) : List.flatMap (fun x => cellU .str x) l = (l.map ba).map fun b => PV.val (.string b) := by
 induction l with
 | nil => rfl
 | cons x l ih => rw [List.flatMap_cons, ih]; rfl
theorem z11m (s : ByteArray) (c : UInt8) (hs : s.size < 4294967281) (w : World) :
   Calls Tryz.prog 32 #[.string s, .string ⟨#[c]⟩] w fun e w' => e = .returned (.slice (some ⟨w.heap.size, 0, none⟩) (Lib.countB s ⟨#[c]⟩ + 1) (Lib.countB s ⟨#[c]⟩ + 1)) ∧
     w' = w.alloc (.cells ((Lib.splitB ⟨#[c]⟩ 0 (Lib.countB s ⟨#[c]⟩) s).map Value.string).toArray 9) := by
 have hle := Lib.countB_le ⟨#[c]⟩ (Nat.le_refl 1) s.size s (Nat.le_refl _)
 have hlen := Lib.splitB_all ⟨#[c]⟩ (Nat.le_refl 1) 0 _ s rfl
 have hcnt : Calls Tryz.prog 59 #[.string s, .string ⟨#[c]⟩] w fun e w' => e = .returned (.int .i64 (Lib.countB s ⟨#[c]⟩)) ∧ w' = w := by
   refine (Any.strings_Count_one z1ba s c w).mono fun e w' ⟨he, hw⟩ => ⟨?_, hw⟩
   rw [he]
   show _ = Ending.returned (Value.int .i64 ((Lib.count s.data.toList [c] : Nat) : Int))
   rw [Lib.count_one]
   rfl
 have hidx : ∀ (x : ByteArray) (cs : Array Value), x.size ≤ s.size → Calls Tryz.prog 60 #[.string x, .string ⟨#[c]⟩] (w.alloc (.cells cs 9)) fun e w' => e = .returned (.int .i64 (Lib.indexB x ⟨#[c]⟩)) ∧ w' = w.alloc (.cells cs 9) := fun x cs _ => by
   refine (Any.strings_Index_one z1ca x c _).mono fun e w' ⟨he, hw⟩ => ⟨?_, hw⟩
   rw [he]
   show _ = Ending.returned (Value.int .i64 (Lib.index x.data.toList [c]))
   rw [Lib.index_one]
 have h := Any.strings_genSplit_core z1br (by kernel_rfl) s ⟨#[c]⟩ 0 (-1) (Lib.countB s ⟨#[c]⟩ + 1) w hs (Nat.le_refl 1) (Nat.zero_le _) hidx hcnt (by decide) (by decide) (by rw [if_pos (by decide)]; omega)
 rw [Nat.add_sub_cancel, hlen] at h
 have e2 : Lib.cellsOf (Lib.splitB ⟨#[c]⟩ 0 (Lib.countB s ⟨#[c]⟩) s) (Lib.countB s ⟨#[c]⟩ + 1) = ((Lib.splitB ⟨#[c]⟩ 0 (Lib.countB s ⟨#[c]⟩) s).map Value.string).toArray := by rw [← hlen]; exact Lib.cellsOf_full _
 rw [e2] at h
 go_enter Tryz.func32, Tryz.ntmps32
 go_wp2_with (go_at_call 42; refine h.mono ?_; rintro e w' ⟨rfl, hw⟩; rw [hw])
 go_ret
 exact ⟨rfl, rfl⟩
def zh9 (c : Int) (s : List Int) : List (List Int) := (Lib.splitB ⟨#[c.toNat.toUInt8]⟩ 0 (Lib.countB (ba s) ⟨#[c.toNat.toUInt8]⟩) (ba s)).map fun b => nums b.data.toList
def zer (s sep : List Int) : Option (List (List Int)) := match sep with
 | [c] => bif Nat.ble (List.length s) 4294967280 then some (zh9 c s) else none
 | _ => none
def zsc : Sig := libS 32 [.d .str, .d .str] (.sl .str)
def zqj (x : List Int × List Int) : Option (List (List Int)) := zer x.1 x.2
theorem z17w (c : Int) (s : List Int) : (zh9 c s).map ba = Lib.splitB ⟨#[c.toNat.toUInt8]⟩ 0 (Lib.countB (ba s) ⟨#[c.toNat.toUInt8]⟩) (ba s) := by
 unfold zh9
 rw [List.map_map]
 have : (ba ∘ fun b : ByteArray => nums b.data.toList) = id := by
   funext b
   simp [zwg]
 rw [this, List.map_id]
theorem z19z {w : World} (cs : List Value) (t : TypeId) (i : Nat) : (w.alloc (.cells cs.toArray t)).cell? ⟨w.heap.size, 0 + i, none⟩ = cs[i]? := by
 rw [World.cell?_alloc_new]
 simp
theorem z11b : FnOK Tryz.prog zsc zqj := z1bl (u := .str) (v := .str) (B := .sl .str) (by kernel_rfl) fun x z y hy hx hz => by
 have hy' : zer x z = some y := hy
 unfold zer at hy'
 split at hy'
 · rename_i c
   cases hb : Nat.ble (List.length x) 4294967280 with
   | false => rw [hb] at hy'; cases hy'
   | true =>
     rw [hb] at hy'
     cases hy'
     have hl := Nat.le_of_ble_eq_true hb
     refine ⟨fun l hl => ?_, fun w cx vs g hs hv => ?_⟩
     · simp only [zh9, List.mem_map] at hl
       obtain ⟨b, _, rfl⟩ := hl
       exact zw6 _
     rw [vals2 hs hv]
     have hsep : ba [c] = ⟨#[c.toNat.toUInt8]⟩ := rfl
     rw [hsep]
     have hx2 : (ba x).size < 4294967281 := by rw [z9b]; omega
     have hlen := Lib.splitB_all ⟨#[c.toNat.toUInt8]⟩ (Nat.le_refl 1) 0 _ (ba x) rfl
     refine (z11m (ba x) c.toNat.toUInt8 hx2 w).mono ?_
     rintro e w' ⟨rfl, rfl⟩
     rw [← z17w] at hlen ⊢
     rw [List.length_map] at hlen
     refine ⟨_, rfl, ⟨rfl, rfl, rfl, by show w.heap.size ≤ (w.heap.push _).size; rw [Array.size_push]; omega, fun k hk => RowKit.Below.heap_alloc w _ k hk⟩, fun g' => ?_⟩
     simp only [pvU, VR]
     refine .inr ⟨_, _, by rw [← hlen], by rw [hlen]; exact Nat.le_refl _, ?_, trivial, ?_, ?_⟩
     · exact Foot.new g (by show w.heap.size < (w.heap.push _).size; rw [Array.size_push]; omega) _ 0 _ rfl
     · intro p hp
       rw [zvb] at hp
       simp only [List.mem_map] at hp
       obtain ⟨b, _, rfl⟩ := hp
       rfl
     · rw [zvb]
       refine Ab.VRs_mk fun i q hq => ?_
       rw [List.getElem?_map] at hq
       cases hb : ((zh9 c x).map ba)[i]? with
       | none => rw [hb] at hq; cases hq
       | some b =>
         rw [hb] at hq
         cases hq
         refine ⟨.string b, ?_, by simp only [VR]; exact ⟨trivial, rfl⟩⟩
         show (w.alloc (.cells (((zh9 c x).map ba).map Value.string).toArray 9)).cell? ⟨w.heap.size, 0 + i, none⟩ = _
         rw [z19z, List.getElem?_map, hb]; rfl
 · cases hy'
end Go.Proofs.YtomgkgngbpnngaaGreatDoor
set_option linter.unusedVariables false
set_option linter.unusedSimpArgs false
namespace Go.Proofs.YtomgkgngbpnngaaGreatDoor
open Go.Shelf Go.Proofs Go.RowKit Go.Sort Go.Lib Go.Ab Go.Tm
theorem z12h (l : List (List Int)) : List.flatMap (fun x => cellU .str x) l = l.map fun s => PV.val (.string (ba s)) := ze1 l
def sortL (l : List (List Int)) : List (List Int) := ((l.map byts).mergeSort fun x y => decide (x ≤ y)).map nums
def zie (l : List (List Int)) : Option (List (List Int) × List (List Int)) := bif Nat.ble (List.length l) 4398046511104 then some (l, sortL l) else none
def zr1 : Sig := ⟨19, [.fn 30 [.pt 0 (.one .leaf) []]], [.var 22 (.d (.sl .str))], 1, ownX 1 [.var 22 (.d (.sl .str))] 9⟩
def zos (x : List (List Int)) : Option (List (List Int) × List (List Int)) := zie x
theorem zsw (x : List (List Int)) (hlen : List.length x ≤ 4398046511104) : zux Tryz.prog 19 1 [.fn 30 [.ptr 0 0]] [.row [pvU (.sl .str) x] 22] fun p H' => p = .sl 1 0 (sortL x).length 1 ∧ H' = [.row [pvU (.sl .str) x] 22, .row (rowU .str (sortL x)) 9] := by
 intro w c vs g hp hs hv
 have hs1 : vs.size = 1 := hs
 simp only [VRs, VR] at hv
 obtain ⟨⟨v1, e1, cv, rfl, hcs, ⟨v2, e2, Bs, hk, rfl⟩, _⟩, _⟩ := hv
 have hcs1 : cv.size = 1 := hcs
 have hcv : cv = #[.pointer (some ⟨Bs, 0, none⟩)] := by
   apply Array.ext (by simp [hcs1])
   intro i hi hi'
   have : i = 0 := by omega
   subst this
   have := (Array.getElem?_eq_some_iff.1 e2).2
   simpa using this
 subst hcv
 have hvs : vs = #[.func (.func 30) #[] #[.pointer (some ⟨Bs, 0, none⟩)]] := by
   apply Array.ext (by simp [hs1])
   intro i hi hi'
   have : i = 0 := by omega
   subst this
   have := (Array.getElem?_eq_some_iff.1 e1).2
   simpa using this
 rw [hvs]
 have hbl := ObjC.lt g hk
 obtain ⟨bs, fr, h2, hf, h3, hl, h4⟩ := ObjC.row (g.obj 0 _ rfl) hk
 simp only [VRs, pvU, VR] at h4
 obtain ⟨⟨sv, e3, htr⟩, _⟩ := h4
 have e3' : w.cell? ⟨Bs, 0, none⟩ = some sv := by rw [z8h h2]; exact e3
 have hzl : (x.map byts).length = x.length := by simp
 have hT : TextsAt w.heap.size w sv (x.map byts) := by
   rcases htr with ⟨rfl, hl0, _, _⟩ | ⟨a2, cap, rfl, hcap, hf2, _, _, hcells⟩
   · exact .inl ⟨none, 0, rfl, by rw [List.length_eq_zero_iff.1 hl0]; rfl⟩
   · rw [z12h] at hf2 hcells
     rcases hf2 with hf2 | ⟨hsp2, hbl2, _, _, _⟩
     · have hx0 : x = [] := by simpa using hf2
       subst hx0
       exact .inl ⟨some a2, cap, rfl, rfl⟩
     · obtain ⟨b2, o2, sp2⟩ := a2
       dsimp only at hsp2 hbl2 hcells
       subst hsp2
       refine .inr ⟨b2, o2, cap, by rw [hzl], hbl2, fun j hj => ?_⟩
       have hj' : j < x.length := by omega
       obtain ⟨u, h5, h6⟩ := z0k hcells (i := j) (p := .val (.string (ba x[j]))) (by rw [List.getElem?_map, List.getElem?_eq_getElem hj']; rfl)
       obtain ⟨rfl, _⟩ := z3u.1 h6
       have e4 : (x.map byts)[j]?.getD [] = byts x[j] := by rw [List.getElem?_map, List.getElem?_eq_getElem hj']; rfl
       rw [e4, zsa]
       exact h5
 refine (zza Bs 0 sv (x.map byts) (by rw [hzl]; omega) w hbl e3' hT).mono ?_
 rintro e w' ⟨v, rfl, hrow, hbel⟩
 have hrow' : w'.ownsRow w.heap.size 9 1 v (sortL x).length ((sortL x).map fun s => Value.string (ba s)) := by
   have e1 : (sortL x).length = (x.map byts).length := by simp [sortL]
   have e2 : ((sortL x).map fun s => Value.string (ba s)) = ((x.map byts).mergeSort fun x y => decide (x ≤ y)).map encStr := by
     unfold sortL
     rw [List.map_map]
     exact List.map_congr_left fun b _ => by simp only [Function.comp]; exact zsm b
   rw [e1, e2]
   exact hrow
 obtain ⟨c', g', hvr, hx⟩ := z15n g hbel hrow' 1
 exact ⟨v, .sl 1 0 (sortL x).length 1, [.row [pvU (.sl .str) x] 22, .row (rowU .str (sortL x)) 9], c', rfl, ⟨rfl, rfl⟩, g', hvr, hx⟩
theorem zy3 : FnOK Tryz.prog zr1 zos where
 can := by kernel_rfl
 ret := fun x y hy _ hw => by
   have hy' : (bif Nat.ble (List.length x) 4398046511104 then some (x, sortL x) else none) = some y := hy
   cases hb : Nat.ble (List.length x) 4398046511104 with
   | false => rw [hb] at hy'; cases hy'
   | true =>
     rw [hb] at hy'
     cases hy'
     refine ⟨?_, fun o ho => ?_⟩
     · show TV.wf (.os 1 _ _ _ _ _)
       simp only [TV.wf]
     · have ho' : o ∈ [TOb.ob 22 (.var (.v (.sl .str) x)), TOb.ob 9 (.row .str (sortL x))] := ho
       simp only [List.mem_cons, List.not_mem_nil, or_false] at ho'
       rcases ho' with rfl | rfl
       · exact hw _ (List.mem_singleton.2 rfl)
       · show ∀ z, z ∈ sortL x → wfU .str z
         intro z hz
         simp only [sortL, List.mem_map] at hz
         obtain ⟨b, _, rfl⟩ := hz
         exact zw6 b
 calls := fun x y hy _ hw => by
   have hy' : (bif Nat.ble (List.length x) 4398046511104 then some (x, sortL x) else none) = some y := hy
   cases hb : Nat.ble (List.length x) 4398046511104 with
   | false => rw [hb] at hy'; cases hy'
   | true =>
     rw [hb] at hy'
     cases hy'
     exact zsw x (Nat.le_of_ble_eq_true hb)
 open' := fun R y k => rfl
def compL (l : List (List Int)) : List (List Int) := (Lib.compact (l.map byts)).map nums
def zh0 (l : List (List Int)) : Option (List (List Int)) := bif Nat.ble (List.length l) 4398046511104 then some (compL l) else none
def zon : Sig := ⟨18, [.wn 0 .str], [.row 9 .str], 0, libX (.sl .str)⟩
def zmi (x : List (List Int)) : Option (List (List Int)) := zh0 x
theorem zru (x : List (List Int)) (hlen : List.length x ≤ 4398046511104) : zux Tryz.prog 18 0 [.sl 0 0 (List.length x) 1] [.row (rowU .str x) 9] fun p H' => p = pvU (.sl .str) (compL x) ∧ H' = [] := by
 intro w c vs g hp hs hv
 have g0 : Ab.Good w c [.row (rowU .str x) 9] [] := g
 have hs1 : vs.size = 1 := hs
 have hv1 : VRs w c [.sl 0 0 (List.length x) 1] (fun i => vs[i]?) := hv
 simp only [VRs] at hv1
 obtain ⟨⟨v1, e1, hvr⟩, _⟩ := hv1
 have hvs : vs = #[v1] := by
   apply Array.ext (by simp [hs1])
   intro i hi hi'
   have : i = 0 := by omega
   subst this
   have := (Array.getElem?_eq_some_iff.1 e1).2
   simpa using this
 rw [hvs]
 have hzl : (x.map byts).length = x.length := by simp
 rcases z17d g0 hvr with ⟨ad, rfl, hx0⟩ | ⟨k, cap, rfl, hcap, hH, hm, hk⟩
 · subst hx0
   refine (Any.slices_Compact_string_empty z13c ad 0 w).mono ?_
   rintro e w' ⟨rfl, rfl⟩
   obtain ⟨g', hx⟩ := taken (w' := w') g0 hp rfl rfl rfl rfl (fun _ _ => rfl) fun k vs e fr h => ⟨vs, fr, h, rfl⟩
   refine ⟨_, pvU (.sl .str) (compL []), [], { c with m := [] }, rfl, ⟨rfl, rfl⟩, g', ?_, hx⟩
   show VR w' { c with m := [] } (.tr 0 [] .no) _
   simp only [VR]
   cases ad with
   | none => exact .inl (by simp [Tail.isTok])
   | some a => exact .inr ⟨a, 0, rfl, Nat.le_refl _, .inl rfl, trivial, (fun p hp => by cases hp), by simp only [VRs]⟩
 · have hc := Any.slices_Compact_string z13c k 0 cap (x.map byts) w hH (by rw [hzl]; omega) (by rw [hzl]; exact hcap)
   rw [hzl] at hc
   refine Calls.mono hc ?_
   rintro e w' ⟨rfl, q, rfl⟩
   have hcl := Lib.compact_length_le (x.map byts)
   rw [hzl] at hcl
   obtain ⟨g', hvr', hx⟩ := z19y (e := 9) (l := x) (q := q) (cap := cap) (m := Lib.compact (x.map byts)) (d := (Lib.compact (x.map byts) ++ List.replicate (x.length - (Lib.compact (x.map byts)).length) []).toArray) g0 hp hm hk hH (by simp; omega) hcl
     (fun j z hj => by
       have hj' := (List.getElem?_eq_some_iff.1 hj).1
       rw [getElem!_pos _ j (by simp; omega)]
       simp only [List.getElem_toArray]
       rw [List.getElem_append_left hj']
       exact (List.getElem?_eq_some_iff.1 hj).2) (by omega)
   exact ⟨_, _, [], _, rfl, ⟨rfl, rfl⟩, g', hvr', hx⟩
theorem zwn : FnOK Tryz.prog zon zmi where
 can := by kernel_rfl
 ret := fun x y hy hw _ => by
   have hy' : (bif Nat.ble (List.length x) 4398046511104 then some (compL x) else none) = some y := hy
   cases hb : Nat.ble (List.length x) 4398046511104 with
   | false => rw [hb] at hy'; cases hy'
   | true =>
     rw [hb] at hy'
     cases hy'
     refine ⟨?_, fun o ho => by cases ho⟩
     show TV.wf (.v (.sl .str) (compL x))
     simp only [TV.wf]
     show ∀ z, z ∈ compL x → wfU .str z
     intro z hz
     simp only [compL, List.mem_map] at hz
     obtain ⟨b, _, rfl⟩ := hz
     exact zw6 b
 calls := fun x y hy hw _ => by
   have hy' : (bif Nat.ble (List.length x) 4398046511104 then some (compL x) else none) = some y := hy
   cases hb : Nat.ble (List.length x) 4398046511104 with
   | false => rw [hb] at hy'; cases hy'
   | true =>
     rw [hb] at hy'
     cases hy'
     exact zru x (Nat.le_of_ble_eq_true hb)
 open' := fun R y k => rfl
end Go.Proofs.YtomgkgngbpnngaaGreatDoor
set_option linter.unusedVariables false
set_option linter.unusedSimpArgs false
namespace Go.Proofs.YtomgkgngbpnngaaGreatDoor
open Go.Tm Go.Ab Go.Lib
def Bs (s : List Int) : Prop := ∀ x, x ∈ s → 0 ≤ x ∧ x < 256
def isD (x : Int) : Bool := decide (48 ≤ x ∧ x ≤ 57)
def val (a : Int) : List Int → Int
 | [] => a
 | x :: l => val (10 * a + (x - 48)) l
def lead (l : List Int) : Bool := decide (2 ≤ l.length) && decide (l.head? = some 48)
def canon (l : List Int) : Bool := !l.isEmpty && l.all isD && !lead l && decide (val 0 l ≤ 4294967295)
def b8 (x : Int) : UInt8 := UInt8.ofNat x.toNat
theorem zge (s : List Int) : byts s = s.map b8 := by
 unfold byts ba
 simp [b8]
theorem zce {x : Int} (h : 0 ≤ x ∧ x < 256) : ((b8 x).toNat : Int) = x := by
 unfold b8
 rw [UInt8.toNat_ofNat']
 omega
theorem z7x {x : Int} : isD x = true ↔ 48 ≤ x ∧ x ≤ 57 := by simp [isD]
theorem zpg : ∀ (s : List Int) (a : Int), 0 ≤ a → s.all isD = true → a ≤ val a s
 | [], a, _, _ => Int.le_refl _
 | x :: l, a, ha, hd => by
   rw [List.all_cons, Bool.and_eq_true, z7x] at hd
   have := zpg l (10 * a + (x - 48)) (by omega) hd.2
   rw [val]
   omega
theorem zt0 : ∀ (s : List Int) (a x : Int), val a (s ++ [x]) = 10 * val a s + (x - 48)
 | [], a, x => rfl
 | y :: l, a, x => by rw [List.cons_append, val, val, zt0 l]
theorem zzu : ∀ (s : List Int) (a : Nat), Bs s → s.all isD = true → val a s ≤ 4294967295 → parseUintM 4294967295 a (s.map b8) = .ok (val a s).toNat
 | [], a, _, _, _ => by simp [parseUintM, val]
 | x :: l, a, hb, hd, hv => by
   rw [List.all_cons, Bool.and_eq_true, z7x] at hd
   have hx := zce (hb x (by simp))
   have hn : (10 * (a : Int) + (x - 48)) = ((a * 10 + ((b8 x).toNat - 48) : Nat) : Int) := by omega
   rw [val, hn] at hv ⊢
   have ih := zzu l _ (fun y hy => hb y (by simp [hy])) hd.2 hv
   have hge := zpg l ((a * 10 + ((b8 x).toNat - 48) : Nat) : Int) (by omega) hd.2
   rw [List.map_cons, parseUintM, if_pos (by omega), if_neg (by omega), if_neg (by omega)]
   exact ih
theorem zxl : ∀ (s : List Int) (a u : Nat), Bs s → a ≤ 4294967295 → parseUintM 4294967295 a (s.map b8) = .ok u → s.all isD = true ∧ (u : Int) = val a s ∧ u ≤ 4294967295
 | [], a, u, _, ha, h => by
   simp only [List.map_nil, parseUintM] at h
   cases h
   exact ⟨rfl, rfl, ha⟩
 | x :: l, a, u, hb, ha, h => by
   have hx := zce (hb x (by simp))
   rw [List.map_cons, parseUintM] at h
   split at h
   · rename_i hd
     split at h
     · cases h
     · split at h
       · cases h
       · rename_i h1 h2
         obtain ⟨g1, g2, g3⟩ := zxl l _ u (fun y hy => hb y (by simp [hy])) (by omega) h
         refine ⟨?_, ?_, g3⟩
         · rw [List.all_cons, g1, Bool.and_true, z7x]; omega
         · rw [g2, val]; congr 1; omega
   · cases h
theorem zyi : ∀ (n u : Nat), u ≤ n → (2 ≤ (decDigits u).length → (decDigits u).head? ≠ some 48) ∧ decDigits u ≠ []
 | 0, u, h => by
   have : u = 0 := by omega
   subst this
   rw [decDigits_one (by omega)]
   exact ⟨fun h => by simp at h, by simp⟩
 | n + 1, u, h => by
   by_cases h1 : u < 10
   · rw [decDigits_one h1]
     exact ⟨fun h => by simp at h, by simp⟩
   · have ih := zyi n (u / 10) (by omega)
     rw [decDigits, dif_neg h1]
     refine ⟨fun _ => ?_, by simp⟩
     by_cases h2 : u / 10 < 10
     · rw [decDigits_one h2]
       simp only [List.cons_append, List.head?_cons]
       intro e
       have e := Option.some.inj e
       have := congrArg UInt8.toNat e
       rw [UInt8.toNat_ofNat'] at this
       have h48 : (48 : UInt8).toNat = 48 := rfl
       omega
     · have hl : 2 ≤ (decDigits (u / 10)).length := by
         rw [decDigits_length, nDigits_big h2]
         have : 1 ≤ nDigits (u / 10 / 10) := by
           by_cases h3 : u / 10 / 10 < 10
           · rw [nDigits_small h3]; exact Nat.le_refl _
           · rw [nDigits_big h3]; omega
         omega
       have := ih.1 hl
       cases hd : decDigits (u / 10) with
       | nil => exact absurd hd ih.2
       | cons y l => rw [hd] at this; simpa using this
theorem z18x : ∀ (n : Nat) (s : List Int), s.length = n → Bs s → s ≠ [] → s.all isD = true → lead s = false → decDigits (val 0 s).toNat = s.map b8
 | 0, s, hn, _, hne, _, _ => absurd (List.length_eq_zero_iff.1 hn) hne
 | n + 1, s, hn, hb, hne, hd, hl => by
   obtain ⟨t, x, rfl⟩ : ∃ t x, s = t ++ [x] := ⟨s.dropLast, s.getLast hne, (List.dropLast_concat_getLast hne).symm⟩
   rw [List.all_append, Bool.and_eq_true] at hd
   have hx := (List.all_cons .. ▸ hd.2 : (isD x && List.all [] isD) = true)
   rw [Bool.and_eq_true, z7x] at hx
   have hbx := zce (hb x (by simp))
   rw [zt0, List.map_append, List.map_cons, List.map_nil]
   have hb8 : ∀ k : Nat, (k : Int) = x - 48 → UInt8.ofNat (48 + k) = b8 x := fun k hk => by
     unfold b8
     congr 1
     omega
   by_cases ht : t = []
   · subst ht
     have hv : (10 * val 0 [] + (x - 48)).toNat = (x - 48).toNat := by simp [val]
     rw [hv, decDigits_one (by omega), hb8 _ (by omega)]; rfl
   · have htl : 1 ≤ t.length := by
       cases t with
       | nil => exact absurd rfl ht
       | cons y l => simp
     have hth : t.head? ≠ some 48 := by
       intro e
       unfold lead at hl
       rw [decide_eq_true (by simp; omega), Bool.true_and, decide_eq_false_iff_not] at hl
       apply hl
       cases t with
       | nil => exact absurd rfl ht
       | cons y l => simpa using e
     have hlt : lead t = false := by
       unfold lead
       rw [decide_eq_false (p := t.head? = some 48) hth, Bool.and_false]
     have ih := z18x n t (by simp at hn; exact hn) (fun y hy => hb y (by simp [hy])) ht hd.1 hlt
     have hv1 : 1 ≤ val 0 t := by
       cases t with
       | nil => exact absurd rfl ht
       | cons y l =>
         rw [List.all_cons, Bool.and_eq_true, z7x] at hd
         have hy : y ≠ 48 := fun e => hth (by rw [e]; rfl)
         have := zpg l (10 * 0 + (y - 48)) (by omega) hd.1.2
         rw [val]
         omega
     rw [decDigits, dif_neg (by omega)]
     have e1 : (10 * val 0 t + (x - 48)).toNat / 10 = (val 0 t).toNat := by omega
     have e2 : (((10 * val 0 t + (x - 48)).toNat % 10 : Nat) : Int) = x - 48 := by omega
     rw [e1, ih, hb8 _ e2]
theorem znb {x y : Int} (hx : 0 ≤ x ∧ x < 256) (hy : 0 ≤ y ∧ y < 256) (h : b8 x = b8 y) : x = y := by
 rw [← zce hx, ← zce hy, h]
theorem z15z {s : List Int} (hb : Bs s) : zj8 (ba s) = canon s := by
 unfold zj8
 have e0 : (ba s).data.toList = s.map b8 := zge s
 rw [e0]
 unfold parseUintB
 by_cases hs : s = []
 · subst hs; rfl
 · rw [if_neg (by simpa using hs)]
   have hbad : (∀ u, parseUintM (2 ^ 32 - 1) 0 (s.map b8) ≠ .ok u) → canon s = false := fun hn => by
     cases hc : canon s with
     | false => rfl
     | true =>
       unfold canon at hc
       simp only [Bool.and_eq_true, decide_eq_true_eq] at hc
       exact absurd (zzu s 0 hb hc.1.1.2 hc.2) (hn _)
   cases hp : parseUintM (2 ^ 32 - 1) 0 (s.map b8)
   · rename_i u
     obtain ⟨h1, h2, h3⟩ := zxl s 0 u hb (by omega) hp
     have hu : (val 0 s).toNat = u := by rw [show val 0 s = val ((0 : Nat) : Int) s from rfl, ← h2]; rfl
     have hv : val 0 s ≤ 4294967295 := by rw [show val 0 s = val ((0 : Nat) : Int) s from rfl, ← h2]; omega
     dsimp only
     rw [Bool.eq_iff_iff, beq_iff_eq]
     unfold canon
     rw [h1, decide_eq_true hv]
     simp only [Bool.and_true, Bool.and_eq_true, Bool.not_eq_true', List.isEmpty_eq_false_iff]
     constructor
     · intro e
       refine ⟨hs, ?_⟩
       have := (zyi u u (Nat.le_refl _)).1
       rw [e] at this
       unfold lead
       by_cases h2 : 2 ≤ s.length
       · have h3 := this (by simpa using h2)
         rw [decide_eq_true h2, Bool.true_and, decide_eq_false_iff_not]
         intro e2
         apply h3
         cases s with
         | nil => exact absurd rfl hs
         | cons y l => simp at e2; subst e2; rfl
       · rw [decide_eq_false h2]; rfl
     · rintro ⟨_, hl⟩
       rw [← hu]
       exact z18x s.length s rfl hb hs h1 hl
   all_goals exact (hbad fun u hu => by rw [hp] at hu; cases hu).symm
end Go.Proofs.YtomgkgngbpnngaaGreatDoor
set_option maxRecDepth 100000
set_option linter.unusedVariables false
noncomputable section
namespace Go.Proofs.YtomgkgngbpnngaaGreatDoor
open Go.Tm Go.Ab
def zrv : Env := ⟨[], [], []⟩
theorem zpa : EnvsOK Tryz.prog zrv := ⟨z1e _, z0r _, z0s _⟩
def zg2 : Shp := ⟨1, 0, [(0, .fn 30 [.pt 0 (.one .leaf) []])], [.var 22 (.d (.sl .str))]⟩
def zi3 : XS := .one .ret zg2.xe
theorem zoi : zi3.OK := XS.one_ok (z0a zg2)
def zfv (t0 : List (List Int)) : Option (((List (List Int)))) :=
 some t0
def zi2 : Sig := ⟨20, [.d (.sl .str)], [], 0, zi3⟩
def zh7 (x : (List (List Int))) : Option (((List (List Int)))) := zfv x
theorem zqx : FnOK Tryz.prog zi2 zh7 :=
 fn_ok zpa (h := .no) Tryz.func20 (z0l [] (by kernel_rfl) trivial) (by kernel_rfl) zoi (fun x => by kernel_rfl)
def ze8 : Env := ⟨[], [], []⟩
theorem zdd : EnvsOK Tryz.prog ze8 := ⟨z1e _, z0r _, z0s _⟩
def z7p : Shp := ⟨1, 0, [(0, .d .bool)], []⟩
def z8f : XS := .one .ret z7p.xe
theorem zd4 : z8f.OK := XS.one_ok (z0a z7p)
def z6a (t0 : List Int) (t1 : List Int) : Option ((Bool)) :=
 z0f (List.length t0) (
 z0f (List.length t1) (
 bif leI (List.length t1 : Nat) (List.length t0 : Nat) then
 z0f (List.length t1) (
 bif subOk 0 (List.length t1 : Nat) (List.length t0) then
 some (eqS (subL t0 0 (List.length t1 : Nat)) t1)
 else none)
 else
 some false))
def z8m : Sig := ⟨41, [.d .str, .d .str], [], 0, z8f⟩
def z7u (x : (List Int) × (List Int)) : Option ((Bool)) := z6a x.1 x.2
theorem zdo : FnOK Tryz.prog z8m z7u :=
 fn_ok zdd (h := .no) Tryz.func41 (z0l [] (by kernel_rfl) trivial) (by kernel_rfl) zd4 (fun x => by kernel_rfl)
def zpc : Env := ⟨[(entQ z8m z7u)], [], []⟩
theorem zms : EnvsOK Tryz.prog zpc := ⟨z0i (z0m zdo) (z1e _), z0r _, z0s _⟩
def zek : Shp := ⟨1, 0, [(0, .d .bool)], []⟩
def zg5 : XS := .one .ret zek.xe
theorem zlr : zg5.OK := XS.one_ok (z0a zek)
def za9 (t0 : List Int) (t1 : List Int) : Option ((Bool)) :=
 (z6a t0 t1).bind fun r =>
 some r
def zg4 : Sig := ⟨31, [.d .str, .d .str], [], 0, zg5⟩
def zfj (x : (List Int) × (List Int)) : Option ((Bool)) := za9 x.1 x.2
theorem znt : FnOK Tryz.prog zg4 zfj :=
 fn_ok zms (h := .no) Tryz.func31 (z0l [] (by kernel_rfl) trivial) (by kernel_rfl) zlr (fun x => by kernel_rfl)
def z7d : Ent := zto 98
theorem zbt : EntOK Tryz.prog z7d := z12v Tryz.func98 (by kernel_rfl) (by kernel_rfl) (by kernel_rfl) (by kernel_rfl)
def ze6 : Env := ⟨[z7d], [], []⟩
theorem zde : EnvsOK Tryz.prog ze6 := ⟨z0i zbt (z1e _), z0r _, z0s _⟩
def z7n : Shp := ⟨1, 0, [(0, .d (.int .i64))], []⟩
def z8g : XS := .one .ret z7n.xe
theorem zcz : z8g.OK := XS.one_ok (z0a z7n)
def z4a (t0 : List Int) (c : Int) : Option ((Int)) :=
 z0f (List.length t0) (
 some (zmf t0 c))
def z8j : Sig := ⟨82, [.d .str, .d (.int .u8)], [], 0, z8g⟩
def z7w (x : (List Int) × Int) : Option ((Int)) := z4a x.1 x.2
theorem zdu : FnOK Tryz.prog z8j z7w :=
 fn_ok zde (h := .no) Tryz.func82 (z0l [] (by kernel_rfl) trivial) (by kernel_rfl) zcz (fun x => by kernel_rfl)
def zgn : Env := ⟨[(entQ z8j z7w)], [], []⟩
theorem zfb : EnvsOK Tryz.prog zgn := ⟨z0i (z0m zdu) (z1e _), z0r _, z0s _⟩
def z6y : Shp := ⟨143, 0, [(0, .d .str), (1, .d .str), (5, .d (.int .i64)), (16, .d .bool)], []⟩
def z4u : XS := .one .normal z6y.xe
theorem zbs : z4u.OK := XS.one_ok (z0a z6y)
def z9n : Shp := ⟨1, 0, [(0, .d (.int .i64))], []⟩
def zan : XS := .one .ret z9n.xe
theorem zeu : zan.OK := XS.one_ok (z0a z9n)
def z5r (t0 : List Int) (substr : List Int) : Option ((Int)) :=
 z0f (List.length substr) (
 (show Option (((List Int) × (List Int) × Int × Bool)) from
 bif eqI (List.length substr : Nat) 0 then
 some (t0, substr, (List.length substr : Nat), true)
 else
 some (t0, substr, (List.length substr : Nat), eqS substr t0)).bind fun j =>
 bif j.2.2.2 then
 some 0
 else
 bif eqI j.2.2.1 1 then
 (idxI j.2.1 0).bind fun x =>
 (z4a j.1 x).bind fun r =>
 some r
 else
 z0f (List.length j.1) (
 bif leI (List.length j.1 : Nat) j.2.2.1 then
 some (-1)
 else
 none))
def zag : Sig := ⟨75, [.d .str, .d .str], [], 0, zan⟩
def za7 (x : (List Int) × (List Int)) : Option ((Int)) := z5r x.1 x.2
theorem zfy : FnOK Tryz.prog zag za7 :=
 fn_ok zfb (h := (.two .no (.two .no (.two (.join (fun _ => z4u) .no .no) .no)))) Tryz.func75 (z0l [.xs (fun _ => z4u)] (by kernel_rfl) ⟨(znf zbs), trivial⟩) (by kernel_rfl) zeu (fun x => by kernel_rfl)
def zhw : Env := ⟨[(entQ zag za7)], [], []⟩
theorem zgb : EnvsOK Tryz.prog zhw := ⟨z0i (z0m zfy) (z1e _), z0r _, z0s _⟩
def zar : Shp := ⟨1, 0, [(0, .tu [.d .str, .d .str, .d .bool])], []⟩
def zbn : XS := .one .ret zar.xe
theorem zfz : zbn.OK := XS.one_ok (z0a zar)
def z6f (t0 : List Int) (sep : List Int) : Option (((List Int) × (List Int) × Bool)) :=
 (z5r t0 sep).bind fun r =>
 bif leI 0 r then
 bif subOk 0 r (List.length t0) then
 z0f (List.length sep) (
 bif subOk (W64 (r + (List.length sep : Nat))) (List.length t0 : Nat) (List.length t0) then
 some ((subL t0 0 r, subL t0 (W64 (r + (List.length sep : Nat))) (List.length t0 : Nat), true))
 else none)
 else none
 else
 some (t0, ([] : List Int), false)
def zba : Sig := ⟨61, [.d .str, .d .str], [], 0, zbn⟩
def zav (x : (List Int) × (List Int)) : Option (((List Int) × (List Int) × Bool)) := z6f x.1 x.2
theorem zh3 : FnOK Tryz.prog zba zav :=
 fn_ok zgb (h := .no) Tryz.func61 (z0l [] (by kernel_rfl) trivial) (by kernel_rfl) zfz (fun x => by kernel_rfl)
def zy6 : Env := ⟨[(entQ zba zav)], [], []⟩
theorem zvj : EnvsOK Tryz.prog zy6 := ⟨z0i (z0m zh3) (z1e _), z0r _, z0s _⟩
def zkv : Shp := ⟨1, 0, [(0, .tu [.d .str, .d .str, .d .bool])], []⟩
def zox : XS := .one .ret zkv.xe
theorem zst : zox.OK := XS.one_ok (z0a zkv)
def zdq (t0 : List Int) (sep : List Int) : Option (((List Int) × (List Int) × Bool)) :=
 (z6f t0 sep).bind fun r =>
 some (r.1, r.2.1, r.2.2)
def zoy : Sig := ⟨43, [.d .str, .d .str], [], 0, zox⟩
def zmj (x : (List Int) × (List Int)) : Option (((List Int) × (List Int) × Bool)) := zdq x.1 x.2
theorem zvm : FnOK Tryz.prog zoy zmj :=
 fn_ok zvj (h := .no) Tryz.func43 (z0l [] (by kernel_rfl) trivial) (by kernel_rfl) zst (fun x => by kernel_rfl)
def z12a : Env := ⟨[(entQ zoy zmj), (entQ zve zry), (entQ zqd zp2)], [], []⟩
theorem zyf : EnvsOK Tryz.prog z12a := ⟨z0i (z0m zvm) (z0i (z0m z11s) (z0i (z0m zy4) (z1e _))), z0r _, z0s _⟩
def zot : Shp := ⟨1, 0, [(0, .d .bool)], []⟩
def zs5 : XS := .one .ret zot.xe
theorem zwe : zs5.OK := XS.one_ok (z0a zot)
def zl9 (t0 : List Int) : Option ((Bool)) :=
 bif eqS t0 ([108, 111, 115, 116, 43, 102, 111, 117, 110, 100] : List Int) then
 some true
 else
 (zdq t0 ([126] : List Int)).bind fun r =>
 (zno r.1).bind fun r2 =>
 bif !r2 then
 some false
 else
 (zdq r.2.1 ([46] : List Int)).bind fun r3 =>
 bif !r.2.2 then
 some true
 else
 bif r3.2.2 then
 (zfq r3.1).bind fun r4 =>
 bif r4 then
 (zfq r3.2.1).bind fun r5 =>
 some r5
 else
 some false
 else
 some false
def zs4 : Sig := ⟨33, [.d .str], [], 0, zs5⟩
def zpw (x : (List Int)) : Option ((Bool)) := zl9 x
theorem zyl : FnOK Tryz.prog zs4 zpw :=
 fn_ok zyf (h := .no) Tryz.func33 (z0l [] (by kernel_rfl) trivial) (by kernel_rfl) zwe (fun x => by kernel_rfl)
def z10z : Env := ⟨[(entQ zg4 zfj), (entQ zsc zqj), (entQ zs4 zpw)], [], []⟩
theorem zn8 : EnvsOK Tryz.prog z10z := ⟨z0i (z0m znt) (z0i (z0m z11b) (z0i (z0m zyl) (z1e _))), z0r _, z0s _⟩
def z9f : Shp := ⟨34, 0, [(4, .d (.sl .str))], []⟩
def z9c : Shp := ⟨34, 0, [(2, .d (.sl .str)), (3, .d (.int .i64))], []⟩
def z3b : XS := .or (.exit 0) z9f.xe (.one .ret z9c.xe)
theorem zev : z3b.OK := XS.or_ok (z0a z9f) (XS.one_ok (z0a z9c))
def z3c : Shp := ⟨34, 0, [(4, .d (.sl .str)), (23, .d (.sl .str)), (24, .d (.int .i64)), (25, .d (.int .i64))], []⟩
abbrev z6u := (List (List Int)) × (List (List Int)) × Int × Int
abbrev zac := ((List (List Int))) ⊕ ((List (List Int)) × Int)
def z6w (l : List (List Int)) (t23 : List (List Int)) (t24 : Int) (t25 : Int) : Option (z6u ⊕ zac) :=
 bif ltI t25 t24 then
 (idxI t23 t25).bind fun x =>
 (zl9 x).bind fun r =>
 bif !r then
 some (.inr (.inr ([], 20)))
 else
 some (.inl (l, t23, t24, W64 (t25 + 1)))
 else
 some (.inr (.inl l))
def z1b (s : z6u) : Option (z6u ⊕ zac) := z6w s.1 s.2.1 s.2.2.1 s.2.2.2
theorem zfk : SoundD Tryz.prog (.loop (subC (bodyC Tryz.f21) [1, 1, 1, 1, 1, 0, 1, 0, 0])) (loopD z3c.xe z3b (loopC z1b)) :=
 z1u (S := z3c.xe) (X := z3b) zn8 (h := .no) (z0l [] (by kernel_rfl) trivial) (z0a z3c) zev z1b (fun s => by kernel_rfl)
def zmh : Shp := ⟨1, 0, [(0, .tu [.d (.sl .str), .d (.int .i64)])], []⟩
def zqi : XS := .one .ret zmh.xe
theorem zvi : zqi.OK := XS.one_ok (z0a zmh)
def zb5 (t0 : List Int) : Option (((List (List Int)) × Int)) :=
 z0f (List.length t0) (
 bif ltI 120 (List.length t0 : Nat) then
 some ([], 20)
 else
 (za9 t0 ([47] : List Int)).bind fun r =>
 bif !r then
 some ([], 20)
 else
 bif eqS t0 ([47] : List Int) then
 some ([], 0)
 else
 bif subOk 1 (List.length t0 : Nat) (List.length t0) then
 (zer (subL t0 1 (List.length t0 : Nat)) ([47] : List Int)).bind fun r2 =>
 z0f (List.length r2) (
 bif ltI 10 (List.length r2 : Nat) then
 some ([], 20)
 else
 z0f (List.length r2) (
 (loopC z1b (r2, r2, (List.length r2 : Nat), 0)).bind fun o =>
 Sum.elim (fun y =>
 some (y, 0)) (fun y2 =>
 some (y2.1, y2.2)) o))
 else none)
def zfi : Sig := ⟨21, [.d .str], [], 0, zqi⟩
def zdy (x : (List Int)) : Option (((List (List Int)) × Int)) := zb5 x
theorem zht : FnOK Tryz.prog zfi zdy :=
 fn_ok zn8 (h := (.two .no (.two .no (.two .no (.two .no (.two .no (.two (.two .no (.over (loopD z3c.xe z3b (loopC z1b)))) .no))))))) Tryz.func21 (z0l [.den (.loop (subC (bodyC Tryz.f21) [1, 1, 1, 1, 1, 0, 1, 0, 0])) (loopD z3c.xe z3b (loopC z1b))] (by kernel_rfl) ⟨zfk, trivial⟩) (by kernel_rfl) zvi (fun x => by kernel_rfl)
def zyb : Env := ⟨[(entQ zfi zdy)], [], []⟩
theorem zku : EnvsOK Tryz.prog zyb := ⟨z0i (z0m zht) (z1e _), z0r _, z0s _⟩
def za5 : Shp := ⟨48, 0, [], []⟩
def za6 : Shp := ⟨48, 0, [(4, .d .bool)], []⟩
def z3g : XS := .or (.exit 0) za5.xe (.one .ret za6.xe)
theorem zfe : z3g.OK := XS.or_ok (z0a za5) (XS.one_ok (z0a za6))
def z3f : Shp := ⟨48, 0, [(5, .d (.sl .str)), (34, .d (.sl .str)), (35, .d (.int .i64)), (36, .d (.int .i64))], []⟩
abbrev z7a := (List (List Int)) × (List (List Int)) × Int × Int
abbrev zaz := (Unit) ⊕ (Bool)
def z6z (a : List (List Int)) (t34 : List (List Int)) (t35 : Int) (t36 : Int) : Option (z7a ⊕ zaz) :=
 bif ltI t36 t35 then
 (idxI t34 t36).bind fun x =>
 (idxI a t36).bind fun x2 =>
 bif !(eqS x2 x) then
 some (.inr (.inr false))
 else
 some (.inl (a, t34, t35, W64 (t36 + 1)))
 else
 some (.inr (.inl ()))
def z1f (s : z7a) : Option (z7a ⊕ zaz) := z6z s.1 s.2.1 s.2.2.1 s.2.2.2
theorem zg0 : SoundD Tryz.prog (.loop (subC (bodyC Tryz.f22) [1, 1, 1, 1, 0, 1, 0, 0])) (loopD z3f.xe z3g (loopC z1f)) :=
 z1u (S := z3f.xe) (X := z3g) zku (h := .no) (z0l [] (by kernel_rfl) trivial) (z0a z3f) zfe z1f (fun s => by kernel_rfl)
def zl7 : Shp := ⟨1, 0, [(0, .d .bool)], []⟩
def zoz : XS := .one .ret zl7.xe
theorem zsp : zoz.OK := XS.one_ok (z0a zl7)
def za2 (t0 : List Int) (top : List Int) : Option ((Bool)) :=
 (zb5 t0).bind fun r =>
 (zb5 top).bind fun r2 =>
 bif neI r.2 0 then
 some false
 else
 bif neI r2.2 0 then
 some false
 else
 z0f (List.length r.1) (
 z0f (List.length r2.1) (
 bif ltI (List.length r.1 : Nat) (List.length r2.1 : Nat) then
 some false
 else
 z0f (List.length r2.1) (
 (loopC z1f (r.1, r2.1, (List.length r2.1 : Nat), 0)).bind fun o =>
 Sum.elim (fun y =>
 some true) (fun y2 =>
 some y2) o)))
def zbb : Sig := ⟨22, [.d .str, .d .str], [], 0, zoz⟩
def zal (x : (List Int) × (List Int)) : Option ((Bool)) := za2 x.1 x.2
theorem zd2 : FnOK Tryz.prog zbb zal :=
 fn_ok zku (h := (.two .no (.two .no (.two .no (.two .no (.two (.two .no (.over (loopD z3f.xe z3g (loopC z1f)))) .no)))))) Tryz.func22 (z0l [.den (.loop (subC (bodyC Tryz.f22) [1, 1, 1, 1, 0, 1, 0, 0])) (loopD z3f.xe z3g (loopC z1f))] (by kernel_rfl) ⟨zg0, trivial⟩) (by kernel_rfl) zsp (fun x => by kernel_rfl)
def zw9 : Env := ⟨[(entQ zfi zdy), (entQ zbb zal)], [(entP zi2 zh7), (entP zr1 zos), (entP zon zmi)], []⟩
theorem zeb : EnvsOK Tryz.prog zw9 := ⟨z0i (z0m zht) (z0i (z0m zd2) (z1e _)), zqf (zwl zqx) (zqf (zwl zy3) (zqf (zwl zwn) (z0r _))), z0s _⟩
def z3j : Shp := ⟨54, 0, [(4, .d (.sl .str)), (5, .wn 0 .str), (16, .d (.sl .str)), (17, .d (.int .i64)), (18, .d (.int .i64)), (40, .d .str), (41, .d .str), (42, .d .bool)], [.row 9 .str]⟩
def z3m : Shp := ⟨54, 0, [(4, .d (.sl .str)), (5, .wn 0 .str), (7, .d .str), (16, .d (.sl .str)), (17, .d (.int .i64)), (18, .d (.int .i64))], [.row 9 .str]⟩
def z0p : XS := .or (.exit 1) z3j.xe (.one (.exit 2) z3m.xe)
theorem z7f : z0p.OK := XS.or_ok (z0a z3j) (XS.one_ok (z0a z3m))
def z0o : Shp := ⟨54, 0, [(4, .d (.sl .str)), (5, .wn 0 .str), (7, .d .str), (16, .d (.sl .str)), (17, .d (.int .i64)), (18, .d (.int .i64)), (30, .d (.sl .str)), (31, .d (.int .i64)), (32, .d (.int .i64))], [.row 9 .str]⟩
abbrev z1y := (List (List Int)) × (List Int) × (List (List Int)) × Int × Int × (List (List Int)) × Int × Int × (List (List Int))
abbrev z1v := ((List (List Int)) × (List (List Int)) × Int × Int × (List Int) × (List Int) × Bool × (List (List Int))) ⊕ ((List (List Int)) × (List Int) × (List (List Int)) × Int × Int × (List (List Int)))
def z1x (sorted : List (List Int)) (t7 : List Int) (t16 : List (List Int)) (t17 : Int) (t18 : Int) (t30 : List (List Int)) (t31 : Int) (t32 : Int) (out : List (List Int)) : Option (z1y ⊕ z1v) :=
 bif ltI t32 t31 then
 (idxI t30 t32).bind fun x =>
 bif !(eqS x t7) then
 (za2 t7 x).bind fun r =>
 bif r then
 bif Nat.beq (List.length out) (List.length out) then
 some (.inr (.inl (sorted, t16, t17, t18, t7, x, r, out)))
 else none
 else
 bif Nat.beq (List.length out) (List.length out) then
 some (.inl (sorted, t7, t16, t17, t18, t30, t31, W64 (t32 + 1), out))
 else none
 else
 bif Nat.beq (List.length out) (List.length out) then
 some (.inl (sorted, t7, t16, t17, t18, t30, t31, W64 (t32 + 1), out))
 else none
 else
 bif Nat.beq (List.length out) (List.length out) then
 some (.inr (.inr (sorted, t7, t16, t17, t18, out)))
 else none
def z0b (s : z1y) : Option (z1y ⊕ z1v) := z1x s.1 s.2.1 s.2.2.1 s.2.2.2.1 s.2.2.2.2.1 s.2.2.2.2.2.1 s.2.2.2.2.2.2.1 s.2.2.2.2.2.2.2.1 s.2.2.2.2.2.2.2.2
theorem z7k : SoundD Tryz.prog (.loop (subC (bodyC Tryz.f8) [1, 0, 1, 1, 1, 0, 1, 0, 0, 1, 1, 0, 0, 1, 1, 0, 1, 0, 0])) (loopD z0o.xe z0p (loopC z0b)) :=
 z1u (S := z0o.xe) (X := z0p) zeb (h := .no) (z0l [] (by kernel_rfl) trivial) (z0a z0o) z7f z0b (fun s => by kernel_rfl)
def z8l : Shp := ⟨54, 0, [(5, .wn 0 .str)], [.row 9 .str]⟩
def z8d : Shp := ⟨54, 0, [(2, .d (.sl .str)), (3, .d (.int .i64))], []⟩
def z2j : XS := .or (.exit 0) z8l.xe (.one .ret z8d.xe)
theorem zdl : z2j.OK := XS.or_ok (z0a z8l) (XS.one_ok (z0a z8d))
def z2l : Shp := ⟨54, 0, [(4, .d (.sl .str)), (5, .wn 0 .str), (16, .d (.sl .str)), (17, .d (.int .i64)), (18, .d (.int .i64))], [.row 9 .str]⟩
abbrev z6d := (List (List Int)) × (List (List Int)) × Int × Int × (List (List Int))
abbrev z1g := ((List (List Int))) ⊕ ((List (List Int)) × Int)
def z2m (sorted : List (List Int)) (t16 : List (List Int)) (t17 : Int) (t18 : Int) (out : List (List Int)) : Option (z6d ⊕ z1g) :=
 bif ltI t18 t17 then
 (idxI t16 t18).bind fun x =>
 (zb5 x).bind fun r =>
 bif neI r.2 0 then
 some (.inr (.inr ([], r.2)))
 else
 z0f (List.length sorted) (
 bif Nat.beq (List.length out) (List.length out) then
 (loopC z0b (sorted, x, t16, t17, t18, sorted, (List.length sorted : Nat), 0, out)).bind fun o =>
 Sum.elim (fun y =>
 bif Nat.beq (List.length y.2.2.2.2.2.2.2) (List.length y.2.2.2.2.2.2.2) then
 some (.inl (y.1, y.2.1, y.2.2.1, W64 (y.2.2.2.1 + 1), y.2.2.2.2.2.2.2))
 else none) (fun y2 =>
 bif Nat.beq (List.length y2.2.2.2.2.2) (List.length y2.2.2.2.2.2) then
 appG (List.length y2.2.2.2.2.2) (List.length ([y2.2.1] : List (List Int))) 16 fun _ =>
 bif Nat.beq (List.length (y2.2.2.2.2.2 ++ ([y2.2.1] : List (List Int)))) (List.length (y2.2.2.2.2.2 ++ ([y2.2.1] : List (List Int)))) then
 some (.inl (y2.1, y2.2.2.1, y2.2.2.2.1, W64 (y2.2.2.2.2.1 + 1), y2.2.2.2.2.2 ++ ([y2.2.1] : List (List Int))))
 else none
 else none) o
 else none)
 else
 bif Nat.beq (List.length out) (List.length out) then
 some (.inr (.inl out))
 else none
def z0j (s : z6d) : Option (z6d ⊕ z1g) := z2m s.1 s.2.1 s.2.2.1 s.2.2.2.1 s.2.2.2.2
theorem ze7 : SoundD Tryz.prog (.loop (subC (bodyC Tryz.f8) [1, 0, 1, 1, 1, 0, 1, 0, 0])) (loopD z2l.xe z2j (loopC z0j)) :=
 z1u (S := z2l.xe) (X := z2j) zeb (h := (.two .no (.two .no (.two (.two .no (.two .no (.two (.two .no (.over (loopD z0o.xe z0p (loopC z0b)))) .no))) .no)))) (z0l [.den (.loop (subC (bodyC Tryz.f8) [1, 0, 1, 1, 1, 0, 1, 0, 0, 1, 1, 0, 0, 1, 1, 0, 1, 0, 0])) (loopD z0o.xe z0p (loopC z0b))] (by kernel_rfl) ⟨z7k, trivial⟩) (z0a z2l) zdl z0j (fun s => by kernel_rfl)
def zjx : Shp := ⟨1, 0, [(0, .tu [.d (.sl .str), .d (.int .i64)])], []⟩
def zm6 : XS := .one .ret zjx.xe
theorem zrm : zm6.OK := XS.one_ok (z0a zjx)
def zcp (l : List (List Int)) : Option (((List (List Int)) × Int)) :=
 (zfv l).bind fun r =>
 (zie r).bind fun r2 =>
 bif Nat.beq (List.length r2.2) (List.length r2.2) then
 (zh0 r2.2).bind fun r3 =>
 z0f (List.length r3) (
 bif Nat.beq 0 (List.length ([] : List (List Int))) then
 (loopC z0j (r3, r3, (List.length r3 : Nat), 0, ([] : List (List Int)))).bind fun o =>
 Sum.elim (fun y =>
 z0f (List.length y) (
 bif ltI 8 (List.length y : Nat) then
 some ([], 4)
 else
 winK y 0 (List.length y) fun w =>
 some (w, 0))) (fun y2 =>
 some (y2.1, y2.2)) o
 else none)
 else none
def zgd : Sig := ⟨8, [.d (.sl .str)], [], 0, zm6⟩
def zf1 (x : (List (List Int))) : Option (((List (List Int)) × Int)) := zcp x
theorem zlb : FnOK Tryz.prog zgd zf1 :=
 fn_ok zeb (h := (.two .no (.two .no (.two .no (.two .no (.two (.two .no (.over (loopD z2l.xe z2j (loopC z0j)))) .no)))))) Tryz.func8 (z0l [.den (.loop (subC (bodyC Tryz.f8) [1, 0, 1, 1, 1, 0, 1, 0, 0])) (loopD z2l.xe z2j (loopC z0j))] (by kernel_rfl) ⟨ze7, trivial⟩) (by kernel_rfl) zrm (fun x => by kernel_rfl)
def zvn : Env := ⟨[(entQ zbb zal)], [], []⟩
theorem zts : EnvsOK Tryz.prog zvn := ⟨z0i (z0m zd2) (z1e _), z0r _, z0s _⟩
def zjh : Shp := ⟨1, 0, [(0, .d .bool)], []⟩
def zmq : XS := .one .ret zjh.xe
theorem zro : zmq.OK := XS.one_ok (z0a zjh)
def zjs (t0 : List Int) (t1 : List Int) : Option ((Bool)) :=
 (za2 t1 t0).bind fun r =>
 some r
def zm1 : Sig := ⟨24, [.d .str, .rf (.d .str)], [], 0, zmq⟩
def zkh (x : (List Int) × (List Int)) : Option ((Bool)) := zjs x.1 x.2
theorem zug : FnOK Tryz.prog zm1 zkh :=
 fn_ok zts (h := .no) Tryz.func24 (z0l [] (by kernel_rfl) trivial) (by kernel_rfl) zro (fun x => by kernel_rfl)
def zql : Env := ⟨[(entQ zm1 zkh)], [], []⟩
theorem zft : EnvsOK Tryz.prog zql := ⟨z0i (z0m zug) (z1e _), z0r _, z0s _⟩
def zao : Shp := ⟨19, 0, [], []⟩
def zaj : Shp := ⟨19, 0, [(4, .d (.int .i64))], []⟩
def z3k : XS := .or (.exit 0) zao.xe (.one .ret zaj.xe)
theorem zfx : z3k.OK := XS.or_ok (z0a zao) (XS.one_ok (z0a zaj))
def z3n : Shp := ⟨19, 0, [(0, .d (.sl .str)), (1, .fn 24 [.rf (.d .str)]), (7, .d (.int .i64)), (8, .d (.int .i64))], []⟩
abbrev z7l := (List (List Int)) × (List Int) × Int × Int
abbrev z7i := (Unit) ⊕ (Int)
def z7j (t0 : List (List Int)) (f : List Int) (t7 : Int) (t8 : Int) : Option (z7l ⊕ z7i) :=
 bif ltI t8 t7 then
 (idxI t0 t8).bind fun x =>
 (zjs x f).bind fun r =>
 bif r then
 some (.inr (.inr t8))
 else
 some (.inl (t0, f, t7, W64 (t8 + 1)))
 else
 some (.inr (.inl ()))
def z1k (s : z7l) : Option (z7l ⊕ z7i) := z7j s.1 s.2.1 s.2.2.1 s.2.2.2
theorem zgs : SoundD Tryz.prog (.loop (subC (bodyC Tryz.f34) [1, 0, 1, 0, 0])) (loopD z3n.xe z3k (loopC z1k)) :=
 z1u (S := z3n.xe) (X := z3k) zft (h := .no) (z0l [] (by kernel_rfl) trivial) (z0a z3n) zfx z1k (fun s => by kernel_rfl)
def zf0 : Shp := ⟨1, 0, [(0, .d (.int .i64))], []⟩
def zh8 : XS := .one .ret zf0.xe
theorem zm3 : zh8.OK := XS.one_ok (z0a zf0)
def ze5 (t0 : List (List Int)) (f : List Int) : Option ((Int)) :=
 z0f (List.length t0) (
 (loopC z1k (t0, f, (List.length t0 : Nat), 0)).bind fun o =>
 Sum.elim (fun y =>
 some (-1)) (fun y2 =>
 some y2) o)
def zhf : Sig := ⟨34, [.d (.sl .str), .fn 24 [.rf (.d .str)]], [], 0, zh8⟩
def zg3 (x : (List (List Int)) × (List Int)) : Option ((Int)) := ze5 x.1 x.2
theorem zp9 : FnOK Tryz.prog zhf zg3 :=
 fn_ok zft (h := (.two .no (.two (.two .no (.over (loopD z3n.xe z3k (loopC z1k)))) .no))) Tryz.func34 (z0l [.den (.loop (subC (bodyC Tryz.f34) [1, 0, 1, 0, 0])) (loopD z3n.xe z3k (loopC z1k))] (by kernel_rfl) ⟨zgs, trivial⟩) (by kernel_rfl) zm3 (fun x => by kernel_rfl)
def zm0 : Env := ⟨[(entQ zhf zg3)], [], []⟩
theorem zkg : EnvsOK Tryz.prog zm0 := ⟨z0i (z0m zp9) (z1e _), z0r _, z0s _⟩
def zd5 : Shp := ⟨1, 0, [(0, .d .bool)], []⟩
def zef : XS := .one .ret zd5.xe
theorem zjy : zef.OK := XS.one_ok (z0a zd5)
def z8n (t0 : List (List Int)) (f : List Int) : Option ((Bool)) :=
 (ze5 t0 f).bind fun r =>
 some (leI 0 r)
def zes : Sig := ⟨23, [.d (.sl .str), .fn 24 [.rf (.d .str)]], [], 0, zef⟩
def zdw (x : (List (List Int)) × (List Int)) : Option ((Bool)) := z8n x.1 x.2
theorem zlm : FnOK Tryz.prog zes zdw :=
 fn_ok zkg (h := .no) Tryz.func23 (z0l [] (by kernel_rfl) trivial) (by kernel_rfl) zjy (fun x => by kernel_rfl)
def zyj : Env := ⟨[(entQ zes zdw)], [], []⟩
theorem zw4 : EnvsOK Tryz.prog zyj := ⟨z0i (z0m zlm) (z1e _), z0r _, z0s _⟩
def zn5 : Shp := ⟨1, 0, [(0, .d .bool)], []⟩
def zq3 : XS := .one .ret zn5.xe
theorem zvf : zq3.OK := XS.one_ok (z0a zn5)
def zey (l : List (List Int)) (t1 : List Int) : Option ((Bool)) :=
 z0f (List.length l) (
 bif eqI (List.length l : Nat) 0 then
 some true
 else
 (z8n l t1).bind fun r =>
 some r)
def zjv : Sig := ⟨9, [.d (.sl .str), .d .str], [], 0, zq3⟩
def zhn (x : (List (List Int)) × (List Int)) : Option ((Bool)) := zey x.1 x.2
theorem zp5 : FnOK Tryz.prog zjv zhn :=
 fn_ok zw4 (h := .no) Tryz.func9 (z0l [] (by kernel_rfl) trivial) (by kernel_rfl) zvf (fun x => by kernel_rfl)
def zt7 : Env := ⟨[(entQ zbb zal)], [], []⟩
theorem zpk : EnvsOK Tryz.prog zt7 := ⟨z0i (z0m zd2) (z1e _), z0r _, z0s _⟩
def zhl : Shp := ⟨1, 0, [(0, .d .bool)], []⟩
def zk0 : XS := .one .ret zhl.xe
theorem zpb : zk0.OK := XS.one_ok (z0a zhl)
def zgu (t0 : List Int) (t1 : List Int) : Option ((Bool)) :=
 (za2 t0 t1).bind fun r =>
 some r
def zk4 : Sig := ⟨25, [.d .str, .rf (.d .str)], [], 0, zk0⟩
def zi1 (x : (List Int) × (List Int)) : Option ((Bool)) := zgu x.1 x.2
theorem zrn : FnOK Tryz.prog zk4 zi1 :=
 fn_ok zpk (h := .no) Tryz.func25 (z0l [] (by kernel_rfl) trivial) (by kernel_rfl) zpb (fun x => by kernel_rfl)
def zns : Env := ⟨[(entQ zk4 zi1)], [], []⟩
theorem zdf : EnvsOK Tryz.prog zns := ⟨z0i (z0m zrn) (z1e _), z0r _, z0s _⟩
def z9p : Shp := ⟨19, 0, [], []⟩
def z9j : Shp := ⟨19, 0, [(4, .d (.int .i64))], []⟩
def z2z : XS := .or (.exit 0) z9p.xe (.one .ret z9j.xe)
theorem zex : z2z.OK := XS.or_ok (z0a z9p) (XS.one_ok (z0a z9j))
def z3d : Shp := ⟨19, 0, [(0, .d (.sl .str)), (1, .fn 25 [.rf (.d .str)]), (7, .d (.int .i64)), (8, .d (.int .i64))], []⟩
abbrev z6s := (List (List Int)) × (List Int) × Int × Int
abbrev z6v := (Unit) ⊕ (Int)
def z6x (t0 : List (List Int)) (f : List Int) (t7 : Int) (t8 : Int) : Option (z6s ⊕ z6v) :=
 bif ltI t8 t7 then
 (idxI t0 t8).bind fun x =>
 (zgu x f).bind fun r =>
 bif r then
 some (.inr (.inr t8))
 else
 some (.inl (t0, f, t7, W64 (t8 + 1)))
 else
 some (.inr (.inl ()))
def z1a (s : z6s) : Option (z6s ⊕ z6v) := z6x s.1 s.2.1 s.2.2.1 s.2.2.2
theorem zfg : SoundD Tryz.prog (.loop (subC (bodyC Tryz.f34) [1, 0, 1, 0, 0])) (loopD z3d.xe z2z (loopC z1a)) :=
 z1u (S := z3d.xe) (X := z2z) zdf (h := .no) (z0l [] (by kernel_rfl) trivial) (z0a z3d) zex z1a (fun s => by kernel_rfl)
def zdj : Shp := ⟨1, 0, [(0, .d (.int .i64))], []⟩
def zf9 : XS := .one .ret zdj.xe
theorem zke : zf9.OK := XS.one_ok (z0a zdj)
def zc8 (t0 : List (List Int)) (f : List Int) : Option ((Int)) :=
 z0f (List.length t0) (
 (loopC z1a (t0, f, (List.length t0 : Nat), 0)).bind fun o =>
 Sum.elim (fun y =>
 some (-1)) (fun y2 =>
 some y2) o)
def zfw : Sig := ⟨34, [.d (.sl .str), .fn 25 [.rf (.d .str)]], [], 0, zf9⟩
def zei (x : (List (List Int)) × (List Int)) : Option ((Int)) := zc8 x.1 x.2
theorem zmc : FnOK Tryz.prog zfw zei :=
 fn_ok zdf (h := (.two .no (.two (.two .no (.over (loopD z3d.xe z2z (loopC z1a)))) .no))) Tryz.func34 (z0l [.den (.loop (subC (bodyC Tryz.f34) [1, 0, 1, 0, 0])) (loopD z3d.xe z2z (loopC z1a))] (by kernel_rfl) ⟨zfg, trivial⟩) (by kernel_rfl) zke (fun x => by kernel_rfl)
def zkc : Env := ⟨[(entQ zfw zei)], [], []⟩
theorem zia : EnvsOK Tryz.prog zkc := ⟨z0i (z0m zmc) (z1e _), z0r _, z0s _⟩
def zc1 : Shp := ⟨1, 0, [(0, .d .bool)], []⟩
def zda : XS := .one .ret zc1.xe
theorem zhp : zda.OK := XS.one_ok (z0a zc1)
def z7h (t0 : List (List Int)) (f : List Int) : Option ((Bool)) :=
 (zc8 t0 f).bind fun r =>
 some (leI 0 r)
def zdb : Sig := ⟨23, [.d (.sl .str), .fn 25 [.rf (.d .str)]], [], 0, zda⟩
def zcc (x : (List (List Int)) × (List Int)) : Option ((Bool)) := z7h x.1 x.2
theorem zjf : FnOK Tryz.prog zdb zcc :=
 fn_ok zia (h := .no) Tryz.func23 (z0l [] (by kernel_rfl) trivial) (by kernel_rfl) zhp (fun x => by kernel_rfl)
def zvz : Env := ⟨[(entQ zjv zhn), (entQ zdb zcc)], [], []⟩
theorem ztf : EnvsOK Tryz.prog zvz := ⟨z0i (z0m zp5) (z0i (z0m zjf) (z1e _)), z0r _, z0s _⟩
def zkb : Shp := ⟨1, 0, [(0, .d .bool)], []⟩
def zm8 : XS := .one .ret zkb.xe
theorem zrt : zm8.OK := XS.one_ok (z0a zkb)
def zf8 (l : List (List Int)) (t1 : List Int) : Option ((Bool)) :=
 (zey l t1).bind fun r =>
 bif r then
 some true
 else
 (z7h l t1).bind fun r2 =>
 some r2
def zlw : Sig := ⟨10, [.d (.sl .str), .d .str], [], 0, zm8⟩
def zl6 (x : (List (List Int)) × (List Int)) : Option ((Bool)) := zf8 x.1 x.2
theorem zuk : FnOK Tryz.prog zlw zl6 :=
 fn_ok ztf (h := .no) Tryz.func10 (z0l [] (by kernel_rfl) trivial) (by kernel_rfl) zrt (fun x => by kernel_rfl)
def zy7 : Env := ⟨[(entQ zgd zf1), (entQ zjv zhn), (entQ zlw zl6)], [], []⟩
theorem zuf : EnvsOK Tryz.prog zy7 := ⟨z0i (z0m zlb) (z0i (z0m zp5) (z0i (z0m zuk) (z1e _))), z0r _, z0s _⟩
def zkz : Shp := ⟨1, 0, [(0, .d .bool)], []⟩
def zp6 : XS := .one .ret zkz.xe
theorem ztb : zp6.OK := XS.one_ok (z0a zkz)
def zbo  : Option ((Bool)) :=
 (zcp ([([47, 98] : List Int), ([47, 97, 47, 99] : List Int), ([47, 97] : List Int)] : List (List Int))).bind fun r =>
 bif eqI r.2 0 then
 z0f (List.length r.1) (
 bif eqI (List.length r.1 : Nat) 2 then
 (idxI r.1 0).bind fun x =>
 bif eqS x ([47, 97] : List Int) then
 (idxI r.1 1).bind fun x2 =>
 bif eqS x2 ([47, 98] : List Int) then
 (zey r.1 ([47, 97, 47, 120] : List Int)).bind fun r2 =>
 bif r2 then
 (zf8 [] ([47] : List Int)).bind fun r3 =>
 some r3
 else
 some false
 else
 some false
 else
 some false
 else
 some false)
 else
 some false
def zou : Sig := ⟨6, [], [], 0, zp6⟩
def zlz (x : Unit) : Option ((Bool)) := zbo 
theorem zwd : FnOK Tryz.prog zou zlz :=
 fn_ok zuf (h := .no) Tryz.func6 (z0l [] (by kernel_rfl) trivial) (by kernel_rfl) ztb (fun x => by kernel_rfl)
def zy9 : Env := ⟨[], [], []⟩
theorem zky : EnvsOK Tryz.prog zy9 := ⟨z1e _, z0r _, z0s _⟩
def zbz : Shp := ⟨18, 0, [], []⟩
def zby : Shp := ⟨18, 0, [(2, .d .bool)], []⟩
def z5c : XS := .or (.exit 0) zbz.xe (.one .ret zby.xe)
theorem zhs : z5c.OK := XS.or_ok (z0a zbz) (XS.one_ok (z0a zby))
def z5a : Shp := ⟨18, 0, [(8, .d (.sl .str)), (9, .d (.int .i64)), (10, .d (.int .i64))], []⟩
abbrev z8w := (List (List Int)) × Int × Int
abbrev zd8 := (Unit) ⊕ (Bool)
def z8t (t8 : List (List Int)) (t9 : Int) (t10 : Int) : Option (z8w ⊕ zd8) :=
 bif ltI t10 t9 then
 (idxI t8 t10).bind fun x =>
 z0f (List.length x) (
 bif ltI 200 (List.length x : Nat) then
 some (.inr (.inr false))
 else
 some (.inl (t8, t9, W64 (t10 + 1))))
 else
 some (.inr (.inl ()))
def z1s (s : z8w) : Option (z8w ⊕ zd8) := z8t s.1 s.2.1 s.2.2
theorem zin : SoundD Tryz.prog (.loop (subC (bodyC Tryz.f7) [1, 1, 0, 1, 0, 0])) (loopD z5a.xe z5c (loopC z1s)) :=
 z1u (S := z5a.xe) (X := z5c) zky (h := .no) (z0l [] (by kernel_rfl) trivial) (z0a z5a) zhs z1s (fun s => by kernel_rfl)
def zko : Shp := ⟨1, 0, [(0, .d .bool)], []⟩
def zok : XS := .one .ret zko.xe
theorem zt5 : zok.OK := XS.one_ok (z0a zko)
def zgx (l : List (List Int)) : Option ((Bool)) :=
 z0f (List.length l) (
 bif ltI 20 (List.length l : Nat) then
 some false
 else
 z0f (List.length l) (
 (loopC z1s (l, (List.length l : Nat), 0)).bind fun o =>
 Sum.elim (fun y =>
 some true) (fun y2 =>
 some y2) o))
def zom : Sig := ⟨7, [.d (.sl .str)], [], 0, zok⟩
def zm5 (x : (List (List Int))) : Option ((Bool)) := zgx x
theorem zvw : FnOK Tryz.prog zom zm5 :=
 fn_ok zky (h := (.two .no (.two .no (.two (.two .no (.over (loopD z5a.xe z5c (loopC z1s)))) .no)))) Tryz.func7 (z0l [.den (.loop (subC (bodyC Tryz.f7) [1, 1, 0, 1, 0, 0])) (loopD z5a.xe z5c (loopC z1s))] (by kernel_rfl) ⟨zin, trivial⟩) (by kernel_rfl) zt5 (fun x => by kernel_rfl)
def z10n : Env := ⟨[], [], []⟩
theorem zmn : EnvsOK Tryz.prog z10n := ⟨z1e _, z0r _, z0s _⟩
def z7t : Shp := ⟨72, 0, [(0, .d .str), (3, .d (.int .i64)), (4, .d (.int .u8)), (5, .d .bool), (6, .d .bool), (7, .d .bool)], []⟩
def z5x : XS := .one .normal z7t.xe
theorem zdc : z5x.OK := XS.one_ok (z0a z7t)
def zct : Shp := ⟨72, 0, [], []⟩
def zcq : Shp := ⟨72, 0, [(2, .d .bool)], []⟩
def z5q : XS := .or (.exit 0) zct.xe (.one .ret zcq.xe)
theorem zir : z5q.OK := XS.or_ok (z0a zct) (XS.one_ok (z0a zcq))
def z5p : Shp := ⟨72, 0, [(0, .d .str), (3, .d (.int .i64))], []⟩
abbrev za1 := (List Int) × Int
abbrev zdg := (Unit) ⊕ (Bool)
def z9v (t0 : List Int) (i : Int) : Option (za1 ⊕ zdg) :=
 z0f (List.length t0) (
 bif ltI i (List.length t0 : Nat) then
 (idxI t0 i).bind fun x =>
 (show Option (((List Int) × Int × Int × Bool × Bool × Bool)) from
 bif leI 97 x then
 bif leI 65 x then
 bif leI 48 x then
 some (t0, i, x, leI x 122, leI x 90, leI x 57)
 else
 some (t0, i, x, leI x 122, leI x 90, false)
 else
 bif leI 48 x then
 some (t0, i, x, leI x 122, false, leI x 57)
 else
 some (t0, i, x, leI x 122, false, false)
 else
 bif leI 65 x then
 bif leI 48 x then
 some (t0, i, x, false, leI x 90, leI x 57)
 else
 some (t0, i, x, false, leI x 90, false)
 else
 bif leI 48 x then
 some (t0, i, x, false, false, leI x 57)
 else
 some (t0, i, x, false, false, false)).bind fun j =>
 bif !j.2.2.2.1 then
 bif !j.2.2.2.2.1 then
 bif !j.2.2.2.2.2 then
 bif neI j.2.2.1 46 then
 bif neI j.2.2.1 95 then
 bif neI j.2.2.1 45 then
 some (.inr (.inr false))
 else
 some (.inl (j.1, W64 (j.2.1 + 1)))
 else
 some (.inl (j.1, W64 (j.2.1 + 1)))
 else
 some (.inl (j.1, W64 (j.2.1 + 1)))
 else
 some (.inl (j.1, W64 (j.2.1 + 1)))
 else
 some (.inl (j.1, W64 (j.2.1 + 1)))
 else
 some (.inl (j.1, W64 (j.2.1 + 1)))
 else
 some (.inr (.inl ())))
def z2p (s : za1) : Option (za1 ⊕ zdg) := z9v s.1 s.2
theorem zjr : SoundD Tryz.prog (.loop (subC (bodyC Tryz.f35) [1, 1, 0, 1, 0, 0])) (loopD z5p.xe z5q (loopC z2p)) :=
 z1u (S := z5p.xe) (X := z5q) zmn (h := (.two .no (.two (.two .no (.join (fun _ => z5x) .no .no)) .no))) (z0l [.xs (fun _ => z5x)] (by kernel_rfl) ⟨(znf zdc), trivial⟩) (z0a z5p) zir z2p (fun s => by kernel_rfl)
def zmd : Shp := ⟨1, 0, [(0, .d .bool)], []⟩
def zr4 : XS := .one .ret zmd.xe
theorem ztx : zr4.OK := XS.one_ok (z0a zmd)
def zf3 (t0 : List Int) : Option ((Bool)) :=
 bif eqS t0 ([] : List Int) then
 some false
 else
 z0f (List.length t0) (
 bif ltI 12 (List.length t0 : Nat) then
 some false
 else
 bif eqS t0 ([46] : List Int) then
 some false
 else
 bif eqS t0 ([46, 46] : List Int) then
 some false
 else
 (loopC z2p (t0, 0)).bind fun o =>
 Sum.elim (fun y =>
 some true) (fun y2 =>
 some y2) o)
def zqt : Sig := ⟨35, [.d .str], [], 0, zr4⟩
def zoo (x : (List Int)) : Option ((Bool)) := zf3 x
theorem zy5 : FnOK Tryz.prog zqt zoo :=
 fn_ok zmn (h := (.two .no (.two .no (.two (.two .no (.over (loopD z5p.xe z5q (loopC z2p)))) .no)))) Tryz.func35 (z0l [.den (.loop (subC (bodyC Tryz.f35) [1, 1, 0, 1, 0, 0])) (loopD z5p.xe z5q (loopC z2p))] (by kernel_rfl) ⟨zjr, trivial⟩) (by kernel_rfl) ztx (fun x => by kernel_rfl)
def zvp : Env := ⟨[], [], []⟩
theorem zji : EnvsOK Tryz.prog zvp := ⟨z1e _, z0r _, z0s _⟩
def zcg : Shp := ⟨52, 0, [(1, .d (.int .i64)), (6, .d (.int .i64))], []⟩
def zc3 : Shp := ⟨52, 0, [(4, .d (.int .i64))], []⟩
def z5m : XS := .or (.exit 0) zcg.xe (.one .ret zc3.xe)
theorem ziu : z5m.OK := XS.or_ok (z0a zcg) (XS.one_ok (z0a zc3))
def z5l : Shp := ⟨52, 0, [(0, .d .str), (1, .d (.int .i64)), (5, .d (.int .i64)), (6, .d (.int .i64))], []⟩
abbrev za0 := (List Int) × Int × Int × Int
abbrev zdt := (Int × Int) ⊕ (Int)
def z9t (t0 : List Int) (t1 : Int) (n : Int) (t6 : Int) : Option (za0 ⊕ zdt) :=
 z0f (List.length t0) (
 bif ltI t6 (List.length t0 : Nat) then
 (idxI t0 t6).bind fun x =>
 bif leI 48 x then
 (idxI t0 t6).bind fun x2 =>
 bif leI x2 57 then
 (idxI t0 t6).bind fun x3 =>
 bif ltI 4294967295 (W64 ((W64 (10 * n)) + (W64 (WU8 (x3 - 48))))) then
 some (.inr (.inr (-1)))
 else
 bif ltI (W64 (t1 + 1)) (W64 (t6 + 1)) then
 (idxI t0 t1).bind fun x4 =>
 bif eqI x4 48 then
 some (.inr (.inr (-1)))
 else
 some (.inl ((t0, t1, W64 ((W64 (10 * n)) + (W64 (WU8 (x3 - 48)))), W64 (t6 + 1))))
 else
 some (.inl ((t0, t1, W64 ((W64 (10 * n)) + (W64 (WU8 (x3 - 48)))), W64 (t6 + 1))))
 else
 some (.inr (.inl (t1, t6)))
 else
 some (.inr (.inl (t1, t6)))
 else
 some (.inr (.inl (t1, t6))))
def z2t (s : za0) : Option (za0 ⊕ zdt) := z9t s.1 s.2.1 s.2.2.1 s.2.2.2
theorem zju : SoundD Tryz.prog (.loop (subC (bodyC Tryz.f36) [1, 1, 0, 0, 0])) (loopD z5l.xe z5m (loopC z2t)) :=
 z1u (S := z5l.xe) (X := z5m) zji (h := .no) (z0l [] (by kernel_rfl) trivial) (z0a z5l) ziu z2t (fun s => by kernel_rfl)
def zjn : Shp := ⟨1, 0, [(0, .d (.int .i64))], []⟩
def zmy : XS := .one .ret zjn.xe
theorem zrr : zmy.OK := XS.one_ok (z0a zjn)
def zcd (t0 : List Int) (t1 : Int) : Option ((Int)) :=
 (loopC z2t (t0, t1, 0, t1)).bind fun o =>
 Sum.elim (fun y =>
 bif eqI y.2 y.1 then
 some (-1)
 else
 some y.2) (fun y2 =>
 some y2) o
def zm4 : Sig := ⟨36, [.d .str, .d (.int .i64)], [], 0, zmy⟩
def zkp (x : (List Int) × Int) : Option ((Int)) := zcd x.1 x.2
theorem zu5 : FnOK Tryz.prog zm4 zkp :=
 fn_ok zji (h := (.two .no (.two .no (.two (.over (loopD z5l.xe z5m (loopC z2t))) .no)))) Tryz.func36 (z0l [.den (.loop (subC (bodyC Tryz.f36) [1, 1, 0, 0, 0])) (loopD z5l.xe z5m (loopC z2t))] (by kernel_rfl) ⟨zju, trivial⟩) (by kernel_rfl) zrr (fun x => by kernel_rfl)
def zze : Env := ⟨[(entQ zqt zoo), (entQ zm4 zkp)], [], []⟩
theorem zna : EnvsOK Tryz.prog zze := ⟨z0i (z0m zy5) (z0i (z0m zu5) (z1e _)), z0r _, z0s _⟩
def zc5 : Shp := ⟨53, 0, [], []⟩
def zc7 : Shp := ⟨53, 0, [(2, .d .bool)], []⟩
def z5n : XS := .or (.exit 0) zc5.xe (.one .ret zc7.xe)
theorem zio : z5n.OK := XS.or_ok (z0a zc5) (XS.one_ok (z0a zc7))
def z5j : Shp := ⟨53, 0, [(0, .d .str), (3, .d (.int .i64))], []⟩
abbrev za4 := (List Int) × Int
abbrev zdn := (Unit) ⊕ (Bool)
def z9u (t0 : List Int) (i : Int) : Option (za4 ⊕ zdn) :=
 z0f (List.length t0) (
 bif ltI i (List.length t0 : Nat) then
 (idxI t0 i).bind fun x =>
 bif neI x 126 then
 some (.inl (t0, W64 (i + 1)))
 else
 (zcd t0 (W64 (i + 1))).bind fun r =>
 bif subOk 0 i (List.length t0) then
 (zf3 (subL t0 0 i)).bind fun r2 =>
 bif !r2 then
 some (.inr (.inr false))
 else
 bif ltI r 0 then
 some (.inr (.inr false))
 else
 z0f (List.length t0) (
 bif leI (List.length t0 : Nat) r then
 some (.inr (.inr false))
 else
 (idxI t0 r).bind fun x2 =>
 bif neI x2 46 then
 some (.inr (.inr false))
 else
 (zcd t0 (W64 (r + 1))).bind fun r3 =>
 z0f (List.length t0) (
 some (.inr (.inr (eqI r3 (List.length t0 : Nat))))))
 else none
 else
 some (.inr (.inl ())))
def z2r (s : za4) : Option (za4 ⊕ zdn) := z9u s.1 s.2
theorem zka : SoundD Tryz.prog (.loop (subC (bodyC Tryz.f26) [1, 1, 0, 1, 0, 0])) (loopD z5j.xe z5n (loopC z2r)) :=
 z1u (S := z5j.xe) (X := z5n) zna (h := .no) (z0l [] (by kernel_rfl) trivial) (z0a z5j) zio z2r (fun s => by kernel_rfl)
def zn7 : Shp := ⟨1, 0, [(0, .d .bool)], []⟩
def zq9 : XS := .one .ret zn7.xe
theorem zu4 : zq9.OK := XS.one_ok (z0a zn7)
def zi8 (t0 : List Int) : Option ((Bool)) :=
 bif eqS t0 ([108, 111, 115, 116, 43, 102, 111, 117, 110, 100] : List Int) then
 some true
 else
 (zf3 t0).bind fun r =>
 bif r then
 some true
 else
 (loopC z2r (t0, 0)).bind fun o =>
 Sum.elim (fun y =>
 some false) (fun y2 =>
 some y2) o
def zqg : Sig := ⟨26, [.d .str], [], 0, zq9⟩
def zow (x : (List Int)) : Option ((Bool)) := zi8 x
theorem zye : FnOK Tryz.prog zqg zow :=
 fn_ok zna (h := (.two .no (.two .no (.two (.two .no (.over (loopD z5j.xe z5n (loopC z2r)))) .no)))) Tryz.func26 (z0l [.den (.loop (subC (bodyC Tryz.f26) [1, 1, 0, 1, 0, 0])) (loopD z5j.xe z5n (loopC z2r))] (by kernel_rfl) ⟨zka, trivial⟩) (by kernel_rfl) zu4 (fun x => by kernel_rfl)
def zy8 : Env := ⟨[(entQ zqg zow)], [], []⟩
theorem zkl : EnvsOK Tryz.prog zy8 := ⟨z0i (z0m zye) (z1e _), z0r _, z0s _⟩
def z6o : Shp := ⟨58, 0, [(0, .d .str), (4, .wn 0 .str), (5, .d (.int .i64)), (6, .d (.int .i64))], [.row 9 .str]⟩
def z6p : Shp := ⟨58, 0, [(0, .d .str), (4, .wn 0 .str), (5, .d (.int .i64)), (6, .d (.int .i64)), (32, .d .str), (33, .d (.int .i64)), (34, .d (.int .u8)), (35, .d .bool)], [.row 9 .str]⟩
def z4m : XS := .or .normal z6o.xe (.one (.exit 1) z6p.xe)
theorem zbl : z4m.OK := XS.or_ok (z0a z6o) (XS.one_ok (z0a z6p))
def z8p : Shp := ⟨58, 0, [(4, .wn 0 .str)], [.row 9 .str]⟩
def z8q : Shp := ⟨58, 0, [(2, .d (.sl .str)), (3, .d (.int .i64))], []⟩
def z2x : XS := .or (.exit 0) z8p.xe (.one .ret z8q.xe)
theorem ze3 : z2x.OK := XS.or_ok (z0a z8p) (XS.one_ok (z0a z8q))
def z2y : Shp := ⟨58, 0, [(0, .d .str), (4, .wn 0 .str), (5, .d (.int .i64)), (6, .d (.int .i64))], [.row 9 .str]⟩
abbrev z6m := (List Int) × Int × Int × (List (List Int))
abbrev za8 := ((List (List Int))) ⊕ ((List (List Int)) × Int)
def z6l (t0 : List Int) (t5 : Int) (i : Int) (out : List (List Int)) : Option (z6m ⊕ za8) :=
 z0f (List.length t0) (
 bif leI i (List.length t0 : Nat) then
 (show Option (((List Int) × Int × Int × (List (List Int))) ⊕ ((List Int) × Int × Int × (List Int) × Int × Int × Bool × (List (List Int)))) from
 z0f (List.length t0) (
 bif ltI i (List.length t0 : Nat) then
 (idxI t0 i).bind fun x =>
 bif neI x 47 then
 bif Nat.beq (List.length out) (List.length out) then
 some (.inr (t0, t5, i, t0, i, x, neI x 47, out))
 else none
 else
 bif Nat.beq (List.length out) (List.length out) then
 some (.inl (t0, t5, i, out))
 else none
 else
 bif Nat.beq (List.length out) (List.length out) then
 some (.inl (t0, t5, i, out))
 else none)).bind fun j =>
 Sum.elim (fun y =>
 bif subOk y.2.1 y.2.2.1 (List.length y.1) then
 (zi8 (subL y.1 y.2.1 y.2.2.1)).bind fun r =>
 bif !r then
 some (.inr (.inr ([], 20)))
 else
 z0f (List.length y.2.2.2) (
 bif eqI (List.length y.2.2.2 : Nat) 10 then
 some (.inr (.inr ([], 20)))
 else
 bif subOk y.2.1 y.2.2.1 (List.length y.1) then
 bif Nat.beq (List.length y.2.2.2) (List.length y.2.2.2) then
 appG (List.length y.2.2.2) (List.length ([subL y.1 y.2.1 y.2.2.1] : List (List Int))) 16 fun _ =>
 bif Nat.beq (List.length (y.2.2.2 ++ ([subL y.1 y.2.1 y.2.2.1] : List (List Int)))) (List.length (y.2.2.2 ++ ([subL y.1 y.2.1 y.2.2.1] : List (List Int)))) then
 some (.inl (y.1, W64 (y.2.2.1 + 1), W64 (y.2.2.1 + 1), y.2.2.2 ++ ([subL y.1 y.2.1 y.2.2.1] : List (List Int))))
 else none
 else none
 else none)
 else none) (fun y2 =>
 bif Nat.beq (List.length y2.2.2.2.2.2.2.2) (List.length y2.2.2.2.2.2.2.2) then
 some (.inl (y2.1, y2.2.1, W64 (y2.2.2.1 + 1), y2.2.2.2.2.2.2.2))
 else none) j
 else
 bif Nat.beq (List.length out) (List.length out) then
 some (.inr (.inl out))
 else none)
def z1l (s : z6m) : Option (z6m ⊕ za8) := z6l s.1 s.2.1 s.2.2.1 s.2.2.2
theorem zew : SoundD Tryz.prog (.loop (subC (bodyC Tryz.f12) [1, 1, 1, 1, 1, 0, 1, 0, 0])) (loopD z2y.xe z2x (loopC z1l)) :=
 z1u (S := z2y.xe) (X := z2x) zkl (h := (.two .no (.two (.join (fun _ => z4m) .no .no) .no))) (z0l [.xs (fun _ => z4m)] (by kernel_rfl) ⟨(znf zbl), trivial⟩) (z0a z2y) ze3 z1l (fun s => by kernel_rfl)
def zla : Shp := ⟨1, 0, [(0, .tu [.d (.sl .str), .d (.int .i64)])], []⟩
def zp4 : XS := .one .ret zla.xe
theorem ztc : zp4.OK := XS.one_ok (z0a zla)
def zbq (t0 : List Int) : Option (((List (List Int)) × Int)) :=
 bif eqS t0 ([47] : List Int) then
 some ([], 0)
 else
 bif eqS t0 ([] : List Int) then
 some ([], 20)
 else
 z0f (List.length t0) (
 bif ltI 120 (List.length t0 : Nat) then
 some ([], 20)
 else
 (idxI t0 0).bind fun x =>
 bif neI x 47 then
 some ([], 20)
 else
 bif Nat.beq 0 (List.length ([] : List (List Int))) then
 (loopC z1l (t0, 1, 1, ([] : List (List Int)))).bind fun o =>
 Sum.elim (fun y =>
 winK y 0 (List.length y) fun w =>
 some (w, 0)) (fun y2 =>
 some (y2.1, y2.2)) o
 else none)
def zho : Sig := ⟨12, [.d .str], [], 0, zp4⟩
def zgj (x : (List Int)) : Option (((List (List Int)) × Int)) := zbq x
theorem zlu : FnOK Tryz.prog zho zgj :=
 fn_ok zkl (h := (.two .no (.two .no (.two .no (.two .no (.two .no (.two (.two .no (.over (loopD z2y.xe z2x (loopC z1l)))) .no))))))) Tryz.func12 (z0l [.den (.loop (subC (bodyC Tryz.f12) [1, 1, 1, 1, 1, 0, 1, 0, 0])) (loopD z2y.xe z2x (loopC z1l))] (by kernel_rfl) ⟨zew, trivial⟩) (by kernel_rfl) ztc (fun x => by kernel_rfl)
def z10j : Env := ⟨[(entQ zho zgj)], [], []⟩
theorem zwf : EnvsOK Tryz.prog z10j := ⟨z0i (z0m zlu) (z1e _), z0r _, z0s _⟩
def zmr : Shp := ⟨1, 0, [(0, .d .bool)], []⟩
def zqc : XS := .one .ret zmr.xe
theorem zul : zqc.OK := XS.one_ok (z0a zmr)
def zfh (t0 : List Int) : Option ((Bool)) :=
 (zbq t0).bind fun r =>
 some (eqI r.2 0)
def zk2 : Sig := ⟨11, [.d .str], [], 0, zqc⟩
def zhy (x : (List Int)) : Option ((Bool)) := zfh x
theorem zor : FnOK Tryz.prog zk2 zhy :=
 fn_ok zwf (h := .no) Tryz.func11 (z0l [] (by kernel_rfl) trivial) (by kernel_rfl) zul (fun x => by kernel_rfl)
end Go.Proofs.YtomgkgngbpnngaaGreatDoor
set_option maxRecDepth 100000
set_option linter.unusedVariables false
set_option linter.unusedSimpArgs false
namespace Go.Proofs.YtomgkgngbpnngaaGreatDoor
open Go.Tm Go.Ab Go.Lib
def okI (x : Int) : Bool := zai x || decide (48 ≤ x ∧ x ≤ 57) || (decide (x = 46) || decide (x = 95) || decide (x = 45))
def nameI (s : List Int) : Bool := decide (1 ≤ s.length ∧ s.length ≤ 12) && !decide (s = [46]) && !decide (s = [46, 46]) && s.all okI
theorem b8_eq {x : Int} (hx : 0 ≤ x ∧ x < 256) (c : UInt8) : (b8 x == c) = decide (x = c.toNat) := by
 rw [Bool.eq_iff_iff, beq_iff_eq, decide_eq_true_eq]
 constructor
 · intro e; rw [← e, zce hx]
 · intro e
   apply UInt8.toNat_inj.1
   have := zce hx
   omega
theorem z16s {x : Int} (hx : 0 ≤ x ∧ x < 256) : okc (b8 x) = okI x := by
 unfold okc okI
 have h := zce hx
 rw [h, b8_eq hx, b8_eq hx, b8_eq hx]
 have : decide (48 ≤ (b8 x).toNat ∧ (b8 x).toNat ≤ 57) = decide (48 ≤ x ∧ x ≤ 57) := by
   rw [Bool.eq_iff_iff, decide_eq_true_eq, decide_eq_true_eq]; omega
 rw [this]; rfl
theorem z16f {s t : List Int} (hs : Bs s) (ht : Bs t) : s.map b8 = t.map b8 ↔ s = t := by
 constructor
 · intro h
   induction s generalizing t with
   | nil => cases t with
     | nil => rfl
     | cons y t => simp at h
   | cons x s ih => cases t with
     | nil => simp at h
     | cons y t =>
       simp only [List.map_cons, List.cons.injEq] at h
       rw [znb (hs x (by simp)) (ht y (by simp)) h.1, ih (fun z hz => hs z (by simp [hz])) (fun z hz => ht z (by simp [hz])) h.2]
 · rintro rfl; rfl
theorem z1ci {s : List Int} (hb : Bs s) : nameB (ba s) = nameI s := by
 unfold nameB nameI
 have e0 : (ba s).data.toList = s.map b8 := zge s
 rw [e0, z9b]
 have h1 : (s.map b8 == [46]) = decide (s = [46]) := by
   rw [Bool.eq_iff_iff, beq_iff_eq, decide_eq_true_eq]
   exact z16f (t := [46]) hb (fun x hx => by simp at hx; subst hx; decide)
 have h2 : (s.map b8 == [46, 46]) = decide (s = [46, 46]) := by
   rw [Bool.eq_iff_iff, beq_iff_eq, decide_eq_true_eq]
   exact z16f (t := [46, 46]) hb (fun x hx => by simp at hx; subst hx; decide)
 have h3 : (s.map b8).all okc = s.all okI := by
   rw [List.all_map]
   rw [Bool.eq_iff_iff, List.all_eq_true, List.all_eq_true]
   constructor
   · intro h x hx; rw [← z16s (hb x hx)]; exact h x hx
   · intro h x hx; show okc (b8 x) = true; rw [z16s (hb x hx)]; exact h x hx
 rw [h1, h2, h3]
theorem z15g {s : List Int} (hb : Bs s) (hl : s.length ≤ 1000) : zno s = some (nameI s) := by
 unfold zno zh2
 rw [ble_t (by omega), z1ci hb]; rfl
theorem zps {s : List Int} (hb : Bs s) (hl : s.length ≤ 1000) : zfq s = some (canon s) := by
 unfold zfq zh2
 rw [ble_t (by omega), z15z hb]; rfl
theorem zv4 {s : List Int} (hb : Bs s) (hl : s.length ≤ 1000) : zf3 s = some (nameI s) := by
 refine ok_is ?_
 unfold zf3 nameI
 repeat' first
   | (dsimp only [Int.toNat_natCast, List.length_nil])
   | with_reducible first | refine z2w ?_ | refine z2v ?_ | refine z0t ?_ | refine z2u ?_ | refine z1w ?_ | refine z3v ?_ | refine qs ?_ | refine qb ?_ | refine z4d ?_ | refine qw ?_ | refine z4g ?_ | refine z4f ?_ | refine qi ?_ | refine qg (h := ?_) | refine qx (h := ?_) | refine qy (h := ?_) | refine qa ?_ | refine qc ?_ | refine ql ?_ | refine qp ?_ | refine z2i ?_ | rfl
   | (with_reducible first | refine ok_lt ?_ ?_ | refine ok_le ?_ ?_ | refine z3z ?_ ?_ | refine z4c ?_ ?_ | refine z3y ?_ ?_ | refine qu ?_ ?_ | refine ok_if ?_ ?_) <;> intro _ <;> try (exfalso; omega)
 · rename_i h; subst h; rfl
 · rename_i h1 h2; rw [decide_eq_false (p := 1 ≤ s.length ∧ _) (by omega)]; rfl
 · rename_i h1 h2 h3; subst h3; rfl
 · rename_i h1 h2 h3 h4; subst h4; rfl
 · rename_i h1 h2 h3 h4
   have hpos : 1 ≤ s.length := by
     cases s with
     | nil => exact absurd rfl h1
     | cons x l => simp
   have e : (decide (1 ≤ s.length ∧ s.length ≤ 12) && !decide (s = [46]) && !decide (s = [46, 46]) && s.all okI) = s.all okI := by
     rw [decide_eq_true (p := 1 ≤ s.length ∧ _) ⟨hpos, by omega⟩, decide_eq_false h3, decide_eq_false h4]; simp
   rw [e]
   refine zuy s.length (fun i _ => (s, (i : Int))) (fun i (_ : Unit) => (s.take i).all okI = true) () rfl rfl (fun _ hall => ?_) fun i _ hi hall => ?_
   · unfold z2p z9v
     dsimp only
     repeat' first
       | (dsimp only [Int.toNat_natCast, List.length_nil])
       | with_reducible first | refine z2w ?_ | refine z2v ?_ | refine z0t ?_ | refine z2u ?_ | refine z1w ?_ | refine z3v ?_ | refine qs ?_ | refine qb ?_ | refine z4d ?_ | refine qw ?_ | refine z4g ?_ | refine z4f ?_ | refine qi ?_ | refine qg (h := ?_) | refine qx (h := ?_) | refine qy (h := ?_) | refine qa ?_ | refine qc ?_ | refine ql ?_ | refine qp ?_ | refine z2i ?_ | rfl
       | (with_reducible first | refine ok_lt ?_ ?_ | refine ok_le ?_ ?_ | refine z3z ?_ ?_ | refine z4c ?_ ?_ | refine z3y ?_ ?_ | refine qu ?_ ?_ | refine ok_if ?_ ?_) <;> intro _ <;> try (exfalso; omega)
     rw [List.take_length] at hall
     exact hall.symm
   · unfold z2p z9v
     dsimp only
     have hx := hb s[i] (List.getElem_mem hi)
     have hstep : okI s[i] = true → (s.take (i + 1)).all okI = true := fun h => by
       rw [List.take_succ_eq_append_getElem hi, List.all_append, hall, List.all_cons, h]; rfl
     have hno : okI s[i] = false → s.all okI = false := fun h => by
       rw [List.all_eq_false]; exact ⟨s[i], List.getElem_mem hi, by simp [h]⟩
     have hok : okI s[i] = (decide (97 ≤ s[i] ∧ s[i] ≤ 122) || decide (65 ≤ s[i] ∧ s[i] ≤ 90) || decide (48 ≤ s[i] ∧ s[i] ≤ 57) || (decide (s[i] = 46) || decide (s[i] = 95) || decide (s[i] = 45))) := rfl
     repeat' first
       | (dsimp only [Int.toNat_natCast, List.length_nil])
       | with_reducible first | refine z2w ?_ | refine z2v ?_ | refine z0t ?_ | refine z2u ?_ | refine z1w ?_ | refine z3v ?_ | refine qs ?_ | refine qb ?_ | refine z4d ?_ | refine qw ?_ | refine z4g ?_ | refine z4f ?_ | refine qi ?_ | refine qg (h := ?_) | refine qx (h := ?_) | refine qy (h := ?_) | refine qa ?_ | refine qc ?_ | refine ql ?_ | refine qp ?_ | refine z2i ?_ | rfl
       | (with_reducible first | refine ok_lt ?_ ?_ | refine ok_le ?_ ?_ | refine z3z ?_ ?_ | refine z4c ?_ ?_ | refine z3y ?_ ?_ | refine qu ?_ ?_ | refine ok_if ?_ ?_) <;> intro _ <;> try (exfalso; omega)
     all_goals first
       | (refine ⟨(), by rw [z7o (by omega)]; rfl, hstep ?_⟩; rw [hok]; simp only [Bool.or_eq_true, decide_eq_true_eq, Bool.not_eq_true', Bool.not_eq_false', decide_eq_false_iff_not] at *; omega)
       | (refine (hno ?_).symm; rw [hok]; simp only [Bool.or_eq_false_iff, Bool.or_eq_true, decide_eq_true_eq, Bool.not_eq_true', Bool.not_eq_false', decide_eq_false_iff_not] at *; omega)
end Go.Proofs.YtomgkgngbpnngaaGreatDoor