import Derived.Test.YtgpmclpgcmgajaaDoorPaLtoPaW4
import Derived.Laws.RangeString
import Derived.Laws.Runes
import Derived.Laws.RangeAny
import Derived.LoopTactic
import Derived.Shelf.RegionOpenPlain
import Derived.Scope
import Derived.Deep.RegionWith
import Derived.Test.YtgpmclpgcmgajaaDoorTm26to28
import Derived.Shelf.Strings.OnBuilder
import Derived.Shelf.Strings.Split
set_option linter.unusedVariables false
set_option linter.unusedSimpArgs false
namespace Go.Proofs.YtgpmclpgcmgajaaDoor
open Go.Shelf Go.Proofs Go.RowKit Go.Sort Go.Lib Go.Ab
theorem zb3 (w : World) (s : ByteArray) (p : Nat) : Below w.heap.size w (w.iter s p) :=
 ⟨rfl, rfl, rfl, by show w.heap.size ≤ (w.heap.push _).size; rw [Array.size_push]; omega, fun k hk => RowKit.Below.heap_alloc w _ k hk⟩
theorem zv5 (pos : Nat) (h : pos < 3) : Utf8.decode ⟨#[46, 95, 45]⟩ pos = (([46, 95, 45] : List Nat).getD pos 0, 1) := by
 match pos, h with
 | 0, _ => decide
 | 1, _ => decide
 | 2, _ => decide
set_option maxHeartbeats 6400000 in
set_option maxRecDepth 100000 in
theorem zvu (w : World) :
   Calls Tryd.prog 47 #[.string ⟨#[46, 95, 45]⟩, .int .i32 65533] w fun e w' => e = .returned (.int .i64 (-1)) ∧ Below w.heap.size w w' := by
 have mixed := zbo.mixed
 go_enter Tryd.func47, Tryd.ntmps47
 go_wp2
 go_loopw [5] (fun _ w' => ∃ pos : Nat, pos ≤ 3 ∧ w' = w.iter ⟨#[46, 95, 45]⟩ pos) (fun _ w' => 3 - w'.iterPos w.heap.size)
 case atStart => exact ⟨0, by omega, rfl⟩
 case round =>
   obtain ⟨pos, hp3, rfl⟩ := hrel
   by_cases hp : pos < 3
   · obtain ⟨c, hc, hne⟩ : ∃ c : Nat, Utf8.decode ⟨#[46, 95, 45]⟩ pos = (c, 1) ∧ ((c : Int) == 65533) = false := by
       refine ⟨_, zv5 pos hp, ?_⟩
       match pos, hp with
       | 0, _ => rfl
       | 1, _ => rfl
       | 2, _ => rfl
     have hnx : ∀ ty, (Instr.next (.pointer (some ⟨w.heap.size, 0, none⟩)) true ty).run Tryd.prog (w.iter ⟨#[46, 95, 45]⟩ pos) = .ok (.tuple #[.bool true, .int .i64 pos, .int .i32 c]) (w.iter ⟨#[46, 95, 45]⟩ (pos + 1)) := fun ty => by
       rw [run_next_any w ⟨#[46, 95, 45]⟩ pos ty (show pos < 3 from hp), hc]
     go_wp2
     exact ⟨⟨pos + 1, by omega, rfl⟩, by simp; omega⟩
   · have hge : ¬ pos < 3 := hp
     have hnx : ∀ ty, (Instr.next (.pointer (some ⟨w.heap.size, 0, none⟩)) true ty).run Tryd.prog (w.iter ⟨#[46, 95, 45]⟩ pos) = .ok (.tuple #[.bool false]) (w.iter ⟨#[46, 95, 45]⟩ pos) := fun ty => run_next_end w ⟨#[46, 95, 45]⟩ pos ty (show ¬ pos < 3 from hp)
     go_wp2
     go_ret
     exact ⟨rfl, zb3 _ _ _⟩
theorem zxa (r : Int) (h0 : 128 ≤ r) (h1 : r ≤ 1114111) (w : World) :
   Calls Tryd.prog 47 #[.string ⟨#[46, 95, 45]⟩, .int .i32 r] w fun e w' => e = .returned (.int .i64 (-1)) ∧ Below w.heap.size w w' := by
 by_cases hr : r = 65533
 · subst hr; exact zvu w
 · rcases zwt r h0 h1 with ⟨a, b, hb, he⟩ | ⟨z, a, b, hb, he⟩ | ⟨y, z, a, b, hb, he⟩
   · exact zwb r h0 h1 hr a b hb he w
   · exact zwc r h0 h1 hr z a b hb he w
   · exact zw0 r h0 h1 hr y z a b hb he w
theorem zx5 (r : Int) (h0 : 128 ≤ r) (h1 : r ≤ 1114111) (w : World) :
   Calls Tryd.prog 36 #[.string ⟨#[46, 95, 45]⟩, .int .i32 r] w fun e w' => e = .returned (.bool false) ∧ Below w.heap.size w w' := by
 go_enter Tryd.func36, Tryd.ntmps36
 go_wp2_with (go_at_call 47; refine (zxa r h0 h1 _).mono ?_; rintro e w' ⟨rfl, hb⟩)
 go_ret
 exact ⟨rfl, hb⟩
end Go.Proofs.YtgpmclpgcmgajaaDoor
set_option linter.unusedVariables false
set_option linter.unusedSimpArgs false
namespace Go.Proofs.YtgpmclpgcmgajaaDoor
open Go.Shelf Go.Proofs Go.RowKit Go.Sort Go.Lib Go.Ab
def z5c (c : Int) : Bool := decide (97 ≤ c ∧ c ≤ 122) || decide (65 ≤ c ∧ c ≤ 90)
theorem z3q (c : Int) (w : World) : Calls Tryd.prog 35 #[.int .i32 c] w fun e w' => e = .returned (.bool (z5c c)) ∧ w' = w := by
 by_cases h1 : 97 ≤ c <;> by_cases h2 : c ≤ 122 <;> by_cases h3 : 65 ≤ c <;> by_cases h4 : c ≤ 90 <;>
 · have e1 : z5c c = (decide (97 ≤ c) && decide (c ≤ 122) || decide (65 ≤ c) && decide (c ≤ 90)) := by simp [z5c]
   rw [e1]
   go_enter Tryd.func35, Tryd.ntmps35
   go_wp2
   go_ret
   refine ⟨?_, rfl⟩
   simp [h1, h2, h3, h4]
end Go.Proofs.YtgpmclpgcmgajaaDoor
set_option linter.unusedVariables false
set_option linter.unusedSimpArgs false
namespace Go.Proofs.YtgpmclpgcmgajaaDoor
open Go.Shelf Go.Proofs Go.RowKit Go.Sort Go.Lib Go.Ab
def okc (b : UInt8) : Bool := z5c b.toNat || decide (48 ≤ b.toNat ∧ b.toNat ≤ 57) || (b == 46 || b == 95 || b == 45)
def nameB (s : ByteArray) : Bool := decide (1 ≤ s.size ∧ s.size ≤ 12) && !(s.data.toList == [46]) && !(s.data.toList == [46, 46]) && s.data.toList.all okc
theorem zvl (b : UInt8) : decide (0 ≤ Lib.indexByte [46, 95, 45] b) = (b == 46 || b == 95 || b == 45) := by
 by_cases h1 : b = 46
 · subst h1; rfl
 · by_cases h2 : b = 95
   · subst h2; rfl
   · by_cases h3 : b = 45
     · subst h3; rfl
     · have h1' : (46 : UInt8) ≠ b := fun e => h1 e.symm
       have h2' : (95 : UInt8) ≠ b := fun e => h2 e.symm
       have h3' : (45 : UInt8) ≠ b := fun e => h3 e.symm
       simp [Lib.indexByte, h1, h2, h3, h1', h2', h3']
theorem zxf (s : ByteArray) (h0 : ∀ j (hj : j < s.size), okc (s[j]'hj) = true) : s.data.toList.all okc = true := by
 rw [List.all_eq_true]
 intro b hb
 obtain ⟨j, hj, rfl⟩ := List.mem_iff_getElem.1 hb
 have hj' : j < s.size := by simpa using hj
 exact h0 j hj'
theorem zq6 (s : ByteArray) (pos : Nat) (h : pos < s.size) (hb : okc (s[pos]'h) = false) : s.data.toList.all okc = false := by
 rw [List.all_eq_false]
 refine ⟨s[pos]'h, ?_, by simp [hb]⟩
 have : s[pos]'h = s.data.toList[pos]'(by simpa using h) := by simp; rfl
 rw [this]
 exact List.getElem_mem _
theorem zwz (s : ByteArray) (pos : Nat) : (Utf8.decode s pos).1 ≤ 1114111 := by
 unfold Utf8.decode
 dsimp only
 have hv : ∀ c, Utf8.valid c = true → c ≤ 1114111 := fun c h => by simp [Utf8.valid] at h; omega
 have := (s.get! (pos + 0)).toNat_lt
 have := (s.get! (pos + 1)).toNat_lt
 have := (s.get! (pos + 2)).toNat_lt
 repeat' split
 all_goals first
   | (simp only [Utf8.runeError]; omega)
   | (rename_i h; have h2 := hv _ ((Bool.and_eq_true _ _ ▸ h : _ ∧ _).2); dsimp only; omega)
   | omega
theorem zu0 (s : ByteArray) (h : ((((s.size : Int) < 1 ∨ 12 < (s.size : Int)) ∨ (s.toList == [46]) = true) ∨ (s.toList == [46, 46]) = true)) : nameB s = false := by
 unfold nameB
 rw [← ByteArray.toList_eq]
 rcases h with ((h | h) | h) | h
 · rw [decide_eq_false (by omega)]; rfl
 · rw [decide_eq_false (by omega)]; rfl
 · rw [h]; simp
 · rw [h]; simp
theorem ztm (s : ByteArray) (h : ((((1 : Int) ≤ s.size ∧ (s.size : Int) ≤ 12) ∧ (s.toList == [46]) = false) ∧ (s.toList == [46, 46]) = false)) : nameB s = s.data.toList.all okc := by
 unfold nameB
 rw [← ByteArray.toList_eq, decide_eq_true (by omega), h.1.2, h.2]
 simp
theorem zvk (b : UInt8) : okc b = (z5c b.toNat || (decide (48 ≤ (b.toNat : Int)) && decide ((b.toNat : Int) ≤ 57)) || decide (0 ≤ Lib.indexByte [46, 95, 45] b)) := by
 rw [zvl]
 unfold okc
 congr 2
 by_cases h1 : 48 ≤ b.toNat <;> by_cases h2 : b.toNat ≤ 57 <;> simp [h1, h2] <;> omega
theorem zx9 (b : UInt8) (h : 128 ≤ b.toNat) : okc b = false := by
 have h1 : z5c b.toNat = false := by simp [z5c]; omega
 have h2 : ¬ (48 ≤ b.toNat ∧ b.toNat ≤ 57) := by omega
 have h3 : b ≠ 46 := fun e => by subst e; revert h; decide
 have h4 : b ≠ 95 := fun e => by subst e; revert h; decide
 have h5 : b ≠ 45 := fun e => by subst e; revert h; decide
 unfold okc
 rw [h1, decide_eq_false h2]
 simp [h3, h4, h5]
theorem zss (c : Nat) (h : 128 ≤ c) : z5c (c : Int) = false := by simp [z5c]; omega
theorem zpb (w : World) (s : ByteArray) (p : Nat) {w' : World} (h : Below (w.iter s p).heap.size (w.iter s p) w') : Below w.heap.size w w' := by
 have h0 : Below w.heap.size w (w.iter s p) := ⟨rfl, rfl, rfl, by show w.heap.size ≤ (w.heap.push _).size; rw [Array.size_push]; omega, fun k hk => RowKit.Below.heap_alloc w _ k hk⟩
 exact h0.trans ⟨h.os, h.tape, h.output, h.size, fun k hk => h.block k (Nat.lt_of_lt_of_le hk h0.size)⟩
set_option maxHeartbeats 6400000 in
set_option maxRecDepth 100000 in
theorem zqm (s : ByteArray) (hs : s.size ≤ 9223372036854775807) (w : World) : Calls Tryd.prog 25 #[.string s] w fun e w' => e = .returned (.bool (nameB s)) ∧ Below w.heap.size w w' := by
 by_cases hb : ((((s.size : Int) < 1 ∨ 12 < (s.size : Int)) ∨ (s.toList == [46]) = true) ∨ (s.toList == [46, 46]) = true)
 · rw [zu0 s hb]
   go_enter Tryd.func25, Tryd.ntmps25
   go_wp2
   all_goals first
     | (go_ret; exact ⟨rfl, Below.refl _ _⟩)
     | (exfalso; simp_all; done)
     | (exfalso; simp_all; omega)
 · have hg : ((((1 : Int) ≤ s.size ∧ (s.size : Int) ≤ 12) ∧ (s.toList == [46]) = false) ∧ (s.toList == [46, 46]) = false) := by
     simp only [not_or, Bool.not_eq_true] at hb
     exact ⟨⟨⟨by omega, by omega⟩, hb.1.2⟩, hb.2⟩
   rw [ztm s hg]
   obtain ⟨⟨⟨g1, g2⟩, g3⟩, g4⟩ := hg
   go_enter Tryd.func25, Tryd.ntmps25
   go_wp2
   go_loopw [4] (fun _ w' => ∃ pos : Nat, pos ≤ s.size ∧ w' = w.iter s pos ∧ ∀ j (hj : j < pos) (hj2 : j < s.size), okc (s[j]'hj2) = true) (fun _ w' => s.size - w'.iterPos w.heap.size)
   case atStart => exact ⟨0, Nat.zero_le _, rfl, fun j hj => absurd hj (Nat.not_lt_zero _)⟩
   case round =>
     obtain ⟨pos, hps, rfl, hok⟩ := hrel
     by_cases hp : pos < s.size
     · by_cases ha : (s[pos]'hp).toNat < 128
       · obtain ⟨b, hbe⟩ : ∃ b : UInt8, b = s[pos]'hp := ⟨_, rfl⟩
         have hb0 := b.toNat_lt
         have hnx : ∀ ty, (Instr.next (.pointer (some ⟨w.heap.size, 0, none⟩)) true ty).run Tryd.prog (w.iter s pos) = .ok (.tuple #[.bool true, .int .i64 pos, .int .i32 b.toNat]) (w.iter s (pos + 1)) := fun ty => by
           rw [hbe]; exact run_next_ascii w s pos ty hp ha
         rw [← hbe] at ha
         have hix : (((b.toNat : Int)).toNat.toUInt8) = b := by simp
         have hgo : okc b = true → (∀ j (hj : j < pos + 1) (hj2 : j < s.size), okc (s[j]'hj2) = true) := fun h j hj hj2 => by
           by_cases e : j = pos
           · subst e; rw [← hbe]; exact h
           · exact hok j (by omega) hj2
         have hno : okc b = false → s.data.toList.all okc = false := fun h => zq6 s pos hp (by rw [← hbe]; exact h)
         rw [zvk] at hgo hno
         clear hbe
         cases hl : z5c b.toNat with
         | true =>
           rw [hl] at hgo
           clear hno
           go_wp2_with (go_at_call 35; refine (z3q _ _).mono ?_; rintro e w' ⟨rfl, rfl⟩; rw [hl])
           exact ⟨⟨pos + 1, by omega, rfl, hgo rfl⟩, by simp; omega⟩
         | false =>
           rw [hl] at hgo hno
           by_cases g48 : (b.toNat : Int) < 48
           · have e48 : decide (48 ≤ (b.toNat : Int)) = false := decide_eq_false (by omega)
             rw [e48] at hgo hno
             by_cases hd : 0 ≤ Lib.indexByte [46, 95, 45] b
             · rw [decide_eq_true hd] at hgo
               clear hno
               go_wp2_with (first
                 | (go_at_call 35; refine (z3q _ _).mono ?_; rintro e w' ⟨rfl, rfl⟩; rw [hl])
                 | (go_at_call 36; refine (Any.strings_ContainsRune_ascii zgz _ _ _ (by omega) (by omega)).mono ?_; rintro e w' ⟨rfl, rfl⟩; rw [hix, decide_eq_true hd]))
               exact ⟨⟨pos + 1, by omega, rfl, hgo (by simp)⟩, by simp; omega⟩
             · rw [decide_eq_false hd] at hno
               clear hgo
               have hno := hno (by simp)
               go_wp2_with (first
                 | (go_at_call 35; refine (z3q _ _).mono ?_; rintro e w' ⟨rfl, rfl⟩; rw [hl])
                 | (go_at_call 36; refine (Any.strings_ContainsRune_ascii zgz _ _ _ (by omega) (by omega)).mono ?_; rintro e w' ⟨rfl, rfl⟩; rw [hix, show decide (0 ≤ Lib.indexByte [46, 95, 45] b) = false from decide_eq_false (by omega)]))
               (first | go_ret | go_ret3 | (dsimp +zetaDelta only [Exit.noGoto, Exit.inBlock, Exit.then]; go_ret))
               exact ⟨by rw [hno]; rfl, zb3 _ _ _⟩
           · by_cases g57 : 57 < (b.toNat : Int)
             · have e57 : decide ((b.toNat : Int) ≤ 57) = false := decide_eq_false (by omega)
               rw [e57] at hgo hno
               by_cases hd : 0 ≤ Lib.indexByte [46, 95, 45] b
               · rw [decide_eq_true hd] at hgo
                 clear hno
                 go_wp2_with (first
                   | (go_at_call 35; refine (z3q _ _).mono ?_; rintro e w' ⟨rfl, rfl⟩; rw [hl])
                   | (go_at_call 36; refine (Any.strings_ContainsRune_ascii zgz _ _ _ (by omega) (by omega)).mono ?_; rintro e w' ⟨rfl, rfl⟩; rw [hix, decide_eq_true hd]))
                 exact ⟨⟨pos + 1, by omega, rfl, hgo (by simp)⟩, by simp; omega⟩
               · rw [decide_eq_false hd] at hno
                 clear hgo
                 have hno := hno (by simp)
                 go_wp2_with (first
                   | (go_at_call 35; refine (z3q _ _).mono ?_; rintro e w' ⟨rfl, rfl⟩; rw [hl])
                   | (go_at_call 36; refine (Any.strings_ContainsRune_ascii zgz _ _ _ (by omega) (by omega)).mono ?_; rintro e w' ⟨rfl, rfl⟩; rw [hix, show decide (0 ≤ Lib.indexByte [46, 95, 45] b) = false from decide_eq_false (by omega)]))
                 (first | go_ret | go_ret3 | (dsimp +zetaDelta only [Exit.noGoto, Exit.inBlock, Exit.then]; go_ret))
                 exact ⟨by rw [hno]; rfl, zb3 _ _ _⟩
             · have e48 : decide (48 ≤ (b.toNat : Int)) = true := decide_eq_true (by omega)
               have e57 : decide ((b.toNat : Int) ≤ 57) = true := decide_eq_true (by omega)
               rw [e48, e57] at hgo
               clear hno
               go_wp2_with (first
                 | (go_at_call 35; refine (z3q _ _).mono ?_; rintro e w' ⟨rfl, rfl⟩; rw [hl]))
               exact ⟨⟨pos + 1, by omega, rfl, hgo (by simp)⟩, by simp; omega⟩
       · have hno : s.data.toList.all okc = false := zq6 s pos hp (zx9 _ (by omega))
         obtain ⟨c, hc⟩ : ∃ c : Nat, c = (Utf8.decode s pos).1 := ⟨_, rfl⟩
         have hc1 : 128 ≤ c := hc ▸ (decode_high s pos hp (by omega)).1
         have hc2 : c ≤ 1114111 := hc ▸ zwz s pos
         obtain ⟨d, hde⟩ : ∃ d : Nat, d = pos + (Utf8.decode s pos).2 := ⟨_, rfl⟩
         have hnx : ∀ ty, (Instr.next (.pointer (some ⟨w.heap.size, 0, none⟩)) true ty).run Tryd.prog (w.iter s pos) = .ok (.tuple #[.bool true, .int .i64 pos, .int .i32 c]) (w.iter s d) := fun ty => by
           rw [hc, hde]; exact run_next_any w s pos ty hp
         have hl := zss c hc1
         have g57 : (57 : Int) < c := by omega
         have g48 : ¬ (c : Int) < 48 := by omega
         clear hc hde
         go_wp2_with (first
           | (go_at_call 35; refine (z3q _ _).mono ?_; rintro e w' ⟨rfl, rfl⟩; rw [hl])
           | (go_at_call 36; refine (zx5 _ (by omega) (by omega) _).mono ?_; rintro e w' ⟨rfl, hbel⟩))
         (first | go_ret | go_ret3 | (dsimp +zetaDelta only [Exit.noGoto, Exit.inBlock, Exit.then]; go_ret))
         exact ⟨by rw [hno]; rfl, zpb _ _ _ hbel⟩
     · have hall : s.data.toList.all okc = true := zxf s fun j hj => hok j (by omega) hj
       have hge : ¬ pos < s.size := hp
       have hnx : ∀ ty, (Instr.next (.pointer (some ⟨w.heap.size, 0, none⟩)) true ty).run Tryd.prog (w.iter s pos) = .ok (.tuple #[.bool false]) (w.iter s pos) := fun ty => run_next_end w s pos ty hge
       go_wp2
       (first | go_ret | go_ret3 | (dsimp +zetaDelta only [Exit.noGoto, Exit.inBlock, Exit.then]; go_ret))
       exact ⟨by rw [hall]; rfl, zb3 _ _ _⟩
end Go.Proofs.YtgpmclpgcmgajaaDoor
set_option linter.unusedVariables false
set_option linter.unusedSimpArgs false
namespace Go.Proofs.YtgpmclpgcmgajaaDoor
open Go.Shelf Go.Proofs Go.RowKit Go.Sort Go.Lib Go.Ab Go.Tm
theorem zgu {w : World} {c : Cx} {H : List AObj} {ts : List Bool} (g : Ab.Good w c H ts) : Glob w := g.gl.var
def zek (s : List Int) : Option Bool := zad (List.length s) (some (nameB (ba s)))
def zja : Sig := libS 25 [.d .str] .bool
def zhh (x : List Int) : Option Bool := zek x
theorem zp4 : FnOK Tryd.prog zja zhh := zkt (u := .str) (B := .bool) (by kernel_rfl) fun x y hy hx => by
 obtain ⟨hl, h2⟩ := zi3 (show zad (List.length x) (some (nameB (ba x))) = some y from hy)
 cases h2
 refine ⟨trivial, fun w c vs g hs hv => ?_⟩
 rw [vals1 hs hv]
 refine (zqm (ba x) (by rw [z3w]; omega) w).mono ?_
 rintro e w' ⟨rfl, hb⟩
 exact ⟨_, rfl, hb, fun _ => by simp only [pvU, VR]; exact ⟨trivial, rfl⟩⟩
def z8v (s : List Int) : Option Bool := zad (List.length s) (some (zbj (ba s)))
def zfu : Sig := libS 26 [.d .str] .bool
def zfb (x : List Int) : Option Bool := z8v x
theorem zmr : FnOK Tryd.prog zfu zfb := zkt (u := .str) (B := .bool) (by kernel_rfl) fun x y hy hx => by
 obtain ⟨hl, h2⟩ := zi3 (show zad (List.length x) (some (zbj (ba x))) = some y from hy)
 cases h2
 refine ⟨trivial, fun w c vs g hs hv => ?_⟩
 rw [vals1 hs hv]
 refine (zoc (ba x) (by rw [z3w]; omega) w g.gl.sz (zgu g)).mono ?_
 rintro e w' ⟨rfl, hb⟩
 exact ⟨_, rfl, hb, fun _ => by simp only [pvU, VR]; exact ⟨trivial, rfl⟩⟩
def z9v (n : Int) : Option (List Int) := some (nums (Lib.itoa n))
def zev : Sig := libS 30 [.d (.int .i64)] .str
def zd7 (x : Int) : Option (List Int) := z9v x
theorem zhg : FnOK Tryd.prog zev zd7 := zkt (u := .int .i64) (B := .str) (by kernel_rfl) fun x y hy hx => by
 cases (show some (nums (Lib.itoa x)) = some y from hy)
 refine ⟨zdz _, fun w c vs g hs hv => ?_⟩
 rw [vals1 hs hv]
 have h1 : (-9223372036854775808 : Int) ≤ x := hx.1
 have h2 : x ≤ 9223372036854775807 := hx.2
 refine (Any.strconv_Itoa zv4 x h1 h2 w (zgu g).1).mono ?_
 rintro e w' ⟨rfl, k, os, rfl⟩
 exact ⟨_, rfl, zj8 w k os, fun _ => by simp only [pvU, VR, zh3]; exact ⟨trivial, rfl⟩⟩
def za0 (n b : Int) : Option (List Int) := bif eqI b 10 then some (nums (Lib.decDigits n.toNat)) else none
def zc1 : Sig := libS 31 [.d (.int .u64), .d (.int .i64)] .str
def zax (x : Int × Int) : Option (List Int) := za0 x.1 x.2
theorem zhe : FnOK Tryd.prog zc1 zax := zl5 (u := .int .u64) (v := .int .i64) (B := .str) (by kernel_rfl) fun x z y hy hx hz => by
 have hy' : (bif eqI z 10 then some (nums (Lib.decDigits x.toNat)) else none) = some y := hy
 cases hb : eqI z 10 with
 | false => rw [hb] at hy'; cases hy'
 | true =>
   rw [hb] at hy'
   cases hy'
   have hz10 : z = 10 := by simpa [eqI] using hb
   subst hz10
   refine ⟨zdz _, fun w c vs g hs hv => ?_⟩
   rw [vals2 hs hv]
   have h1 : (0 : Int) ≤ x := hx.1
   have h2 : x ≤ 18446744073709551615 := hx.2
   have e : Value.int .u64 x = .int .u64 (x.toNat : Int) := by rw [Int.toNat_of_nonneg h1]
   rw [e]
   have key : ∀ x : Int, 0 ≤ x → x ≤ 18446744073709551615 → x.toNat < 18446744073709551616 := fun x _ _ => by omega
   refine (zs2 x.toNat (key x h1 h2) w (zgu g).1).mono ?_
   rintro e w' ⟨rfl, hb⟩
   exact ⟨_, rfl, hb, fun _ => by simp only [pvU, VR, zh3]; exact ⟨trivial, rfl⟩⟩
def joinL (l : List (List Int)) (sep : List Int) : List UInt8 := Lib.join ((l.map ba).map (·.data.toList)) (ba sep).data.toList
def zim (l : List (List Int)) (sep : List Int) : Option (List Int) :=
 bif Nat.ble (List.length l) 140737488355328 && Nat.ble (joinL l sep).length 140737488355328 then some (nums (joinL l sep)) else none
def zjc : Sig := libS 28 [.d (.sl .str), .d .str] .str
def zhk (x : List (List Int) × List Int) : Option (List Int) := zim x.1 x.2
theorem zea (l : List (List Int)) : List.flatMap (fun x => cellU .str x) l = (l.map ba).map fun b => PV.val (.string b) := by
 induction l with
 | nil => rfl
 | cons x l ih => rw [List.flatMap_cons, ih]; rfl
theorem ztd {w : World} {c : Cx} : ∀ (qs : List PV) {f : Nat → Option Value} (h : VRs w c qs f) (i : Nat) (q : PV), qs[i]? = some q → ∃ v, f i = some v ∧ VR w c q v
 | [], _, _, i, q, h => by simp at h
 | p :: ps, f, h, 0, q, hq => by
   simp only [VRs] at h
   obtain ⟨⟨v, h1, h2⟩, _⟩ := h
   simp at hq; subst hq
   exact ⟨v, h1, h2⟩
 | p :: ps, f, h, i + 1, q, hq => by
   simp only [VRs] at h
   exact ztd ps h.2 i q (by simpa using hq)
theorem zpg : FnOK Tryd.prog zjc zhk := zl5 (u := .sl .str) (v := .str) (B := .str) (by kernel_rfl) fun x z y hy hx hz => by
 have hy' : (bif Nat.ble (List.length x) 140737488355328 && Nat.ble (joinL x z).length 140737488355328 then some (nums (joinL x z)) else none) = some y := hy
 cases hb : Nat.ble (List.length x) 140737488355328 && Nat.ble (joinL x z).length 140737488355328 with
 | false => rw [hb] at hy'; cases hy'
 | true =>
   rw [hb] at hy'
   cases hy'
   rw [Bool.and_eq_true] at hb
   have hl1 := Nat.le_of_ble_eq_true hb.1
   have hl2 := Nat.le_of_ble_eq_true hb.2
   refine ⟨zdz _, fun w c vs g hs hv => ?_⟩
   have hv0 := hv
   simp only [VRs, VR, pvU] at hv
   obtain ⟨⟨v1, e1, h1⟩, ⟨v2, e2, rfl, _⟩, _⟩ := hv
   have hvs : vs = #[v1, .string (ba z)] := by
     apply Array.ext (by simp [hs])
     intro i hi hi'
     have g1 := (Array.getElem?_eq_some_iff.1 e1).2
     have g2 := (Array.getElem?_eq_some_iff.1 e2).2
     have hs2 : vs.size = 2 := hs
     match i, hi with
     | 0, _ => simpa using g1
     | 1, _ => simpa using g2
     | n + 2, hi => omega
   rw [hvs]
   have fin : ∀ e w', (e = Ending.returned (.string ⟨(joinL x z).toArray⟩) ∧ Below w.heap.size w w') → ∃ v, e = .returned v ∧ Below w.heap.size w w' ∧ (Ab.Good w' c [] [] → VR w' c (pvU .str (nums (joinL x z))) v) := by
     rintro e w' ⟨rfl, hb⟩
     exact ⟨_, rfl, hb, fun _ => by simp only [pvU, VR, zh3]; exact ⟨trivial, rfl⟩⟩
   rcases h1 with ⟨rfl, hlen, hnil, _⟩ | ⟨a, cap, rfl, hcap, hf, _, _, hcs⟩
   · have hx0 : x = [] := List.length_eq_zero_iff.1 hlen
     subst hx0
     exact (Any.strings_Join_none zks bX none 0 (ba z) w).mono fun e w' ⟨he, hw⟩ => fin e w' ⟨he, hw ▸ Below.refl _ _⟩
   · rw [zea] at hf hcs
     rcases hf with hf | ⟨hsp, hbl, _, _, _⟩
     · have hx0 : x = [] := by simpa using hf
       subst hx0
       exact (Any.strings_Join_none zks bX (some a) cap (ba z) w).mono fun e w' ⟨he, hw⟩ => fin e w' ⟨he, hw ▸ Below.refl _ _⟩
     · obtain ⟨bk, off, sp⟩ := a
       dsimp only at hsp hbl hcs
       subst hsp
       have hcells : ∀ (j : Nat) b, (x.map ba)[j]? = some b → w.cell? ⟨bk, off + j, none⟩ = some (.string b) := fun j b hj => by
         obtain ⟨v, h3, h4⟩ := ztd _ hcs j (.val (.string b)) (by rw [List.getElem?_map, hj]; rfl)
         simp only [VR] at h4
         rw [h3, h4.1]
       have hlen : (x.map ba).length = List.length x := List.length_map _
       have hj := Any.strings_Join zks bX bk off cap (x.map ba) (ba z) w hcells hbl (by rw [hlen]; exact hl1) (by rw [hlen]; exact hcap) hl2
       rw [hlen] at hj
       exact hj.mono fun e w' h => fin e w' h
theorem zp6 (s : ByteArray) (c : UInt8) (hs : s.size < 4294967281) (w : World) :
   Calls Tryd.prog 23 #[.string s, .string ⟨#[c]⟩] w fun e w' => e = .returned (.slice (some ⟨w.heap.size, 0, none⟩) (Lib.countB s ⟨#[c]⟩ + 1) (Lib.countB s ⟨#[c]⟩ + 1)) ∧
     w' = w.alloc (.cells ((Lib.splitB ⟨#[c]⟩ 0 (Lib.countB s ⟨#[c]⟩) s).map Value.string).toArray 9) := by
 have hle := Lib.countB_le ⟨#[c]⟩ (Nat.le_refl 1) s.size s (Nat.le_refl _)
 have hlen := Lib.splitB_all ⟨#[c]⟩ (Nat.le_refl 1) 0 _ s rfl
 have hcnt : Calls Tryd.prog 44 #[.string s, .string ⟨#[c]⟩] w fun e w' => e = .returned (.int .i64 (Lib.countB s ⟨#[c]⟩)) ∧ w' = w := by
   refine (Any.strings_Count_one zwl s c w).mono fun e w' ⟨he, hw⟩ => ⟨?_, hw⟩
   rw [he]
   show _ = Ending.returned (Value.int .i64 ((Lib.count s.data.toList [c] : Nat) : Int))
   rw [Lib.count_one]
   rfl
 have hidx : ∀ (x : ByteArray) (cs : Array Value), x.size ≤ s.size → Calls Tryd.prog 45 #[.string x, .string ⟨#[c]⟩] (w.alloc (.cells cs 9)) fun e w' => e = .returned (.int .i64 (Lib.indexB x ⟨#[c]⟩)) ∧ w' = w.alloc (.cells cs 9) := fun x cs _ => by
   refine (Any.strings_Index_one zw9 x c _).mono fun e w' ⟨he, hw⟩ => ⟨?_, hw⟩
   rw [he]
   show _ = Ending.returned (Value.int .i64 (Lib.index x.data.toList [c]))
   rw [Lib.index_one]
 have h := Any.strings_genSplit_core zwk (by kernel_rfl) s ⟨#[c]⟩ 0 (-1) (Lib.countB s ⟨#[c]⟩ + 1) w hs (Nat.le_refl 1) (Nat.zero_le _) hidx hcnt (by decide) (by decide) (by rw [if_pos (by decide)]; omega)
 rw [Nat.add_sub_cancel, hlen] at h
 have e2 : Lib.cellsOf (Lib.splitB ⟨#[c]⟩ 0 (Lib.countB s ⟨#[c]⟩) s) (Lib.countB s ⟨#[c]⟩ + 1) = ((Lib.splitB ⟨#[c]⟩ 0 (Lib.countB s ⟨#[c]⟩) s).map Value.string).toArray := by rw [← hlen]; exact Lib.cellsOf_full _
 rw [e2] at h
 go_enter Tryd.func23, Tryd.ntmps23
 go_wp2_with (go_at_call 33; refine h.mono ?_; rintro e w' ⟨rfl, hw⟩; rw [hw])
 go_ret
 exact ⟨rfl, rfl⟩
def zan (c : Int) (s : List Int) : List (List Int) := (Lib.splitB ⟨#[c.toNat.toUInt8]⟩ 0 (Lib.countB (ba s) ⟨#[c.toNat.toUInt8]⟩) (ba s)).map fun b => nums b.data.toList
def z8e (s sep : List Int) : Option (List (List Int)) := match sep with
 | [c] => bif Nat.ble (List.length s) 4294967280 then some (zan c s) else none
 | _ => none
def zhw : Sig := libS 23 [.d .str, .d .str] (.sl .str)
def zgj (x : List Int × List Int) : Option (List (List Int)) := z8e x.1 x.2
theorem zrn (c : Int) (s : List Int) : (zan c s).map ba = Lib.splitB ⟨#[c.toNat.toUInt8]⟩ 0 (Lib.countB (ba s) ⟨#[c.toNat.toUInt8]⟩) (ba s) := by
 unfold zan
 rw [List.map_map]
 have : (ba ∘ fun b : ByteArray => nums b.data.toList) = id := by
   funext b
   simp [zh3]
 rw [this, List.map_id]
theorem ztv {w : World} (cs : List Value) (t : TypeId) (i : Nat) : (w.alloc (.cells cs.toArray t)).cell? ⟨w.heap.size, 0 + i, none⟩ = cs[i]? := by
 rw [World.cell?_alloc_new]
 simp
theorem zok : FnOK Tryd.prog zhw zgj := zl5 (u := .str) (v := .str) (B := .sl .str) (by kernel_rfl) fun x z y hy hx hz => by
 have hy' : z8e x z = some y := hy
 unfold z8e at hy'
 split at hy'
 · rename_i c
   cases hb : Nat.ble (List.length x) 4294967280 with
   | false => rw [hb] at hy'; cases hy'
   | true =>
     rw [hb] at hy'
     cases hy'
     have hl := Nat.le_of_ble_eq_true hb
     refine ⟨fun l hl => ?_, fun w cx vs g hs hv => ?_⟩
     · simp only [zan, List.mem_map] at hl
       obtain ⟨b, _, rfl⟩ := hl
       exact zdz _
     rw [vals2 hs hv]
     have hsep : ba [c] = ⟨#[c.toNat.toUInt8]⟩ := rfl
     rw [hsep]
     have hx2 : (ba x).size < 4294967281 := by rw [z3w]; omega
     have hlen := Lib.splitB_all ⟨#[c.toNat.toUInt8]⟩ (Nat.le_refl 1) 0 _ (ba x) rfl
     refine (zp6 (ba x) c.toNat.toUInt8 hx2 w).mono ?_
     rintro e w' ⟨rfl, rfl⟩
     rw [← zrn] at hlen ⊢
     rw [List.length_map] at hlen
     refine ⟨_, rfl, ⟨rfl, rfl, rfl, by show w.heap.size ≤ (w.heap.push _).size; rw [Array.size_push]; omega, fun k hk => RowKit.Below.heap_alloc w _ k hk⟩, fun g' => ?_⟩
     simp only [pvU, VR]
     refine .inr ⟨_, _, by rw [← hlen], by rw [hlen]; exact Nat.le_refl _, ?_, trivial, ?_, ?_⟩
     · exact Foot.new g (by show w.heap.size < (w.heap.push _).size; rw [Array.size_push]; omega) _ 0 _ rfl
     · intro p hp
       rw [zea] at hp
       simp only [List.mem_map] at hp
       obtain ⟨b, _, rfl⟩ := hp
       rfl
     · rw [zea]
       refine Ab.VRs_mk fun i q hq => ?_
       rw [List.getElem?_map] at hq
       cases hb : ((zan c x).map ba)[i]? with
       | none => rw [hb] at hq; cases hq
       | some b =>
         rw [hb] at hq
         cases hq
         refine ⟨.string b, ?_, by simp only [VR]; exact ⟨trivial, rfl⟩⟩
         show (w.alloc (.cells (((zan c x).map ba).map Value.string).toArray 9)).cell? ⟨w.heap.size, 0 + i, none⟩ = _
         rw [ztv, List.getElem?_map, hb]; rfl
 · cases hy'
end Go.Proofs.YtgpmclpgcmgajaaDoor
set_option linter.unusedVariables false
set_option linter.unusedSimpArgs false
namespace Go.Proofs.YtgpmclpgcmgajaaDoor
open Go.Tm Go.Ab Go.Lib
def Bs (s : List Int) : Prop := ∀ x, x ∈ s → 0 ≤ x ∧ x < 256
def isD (x : Int) : Bool := decide (48 ≤ x ∧ x ≤ 57)
def val (a : Int) : List Int → Int
 | [] => a
 | x :: l => val (10 * a + (x - 48)) l
def lead (l : List Int) : Bool := decide (2 ≤ l.length) && decide (l.head? = some 48)
def canon (l : List Int) : Bool := !l.isEmpty && l.all isD && !lead l && decide (val 0 l ≤ 4294967295)
def b8 (x : Int) : UInt8 := UInt8.ofNat x.toNat
theorem zbg (s : List Int) : byts s = s.map b8 := by
 unfold byts ba
 simp [b8]
theorem z8r {x : Int} (h : 0 ≤ x ∧ x < 256) : ((b8 x).toNat : Int) = x := by
 unfold b8
 rw [UInt8.toNat_ofNat']
 omega
theorem ze0 {x : Int} : isD x = true ↔ 48 ≤ x ∧ x ≤ 57 := by simp [isD]
theorem znx : ∀ (s : List Int) (a : Int), 0 ≤ a → s.all isD = true → a ≤ val a s
 | [], a, _, _ => Int.le_refl _
 | x :: l, a, ha, hd => by
   rw [List.all_cons, Bool.and_eq_true, ze0] at hd
   have := znx l (10 * a + (x - 48)) (by omega) hd.2
   rw [val]
   omega
theorem ziv : ∀ (s : List Int) (a x : Int), val a (s ++ [x]) = 10 * val a s + (x - 48)
 | [], a, x => rfl
 | y :: l, a, x => by rw [List.cons_append, val, val, ziv l]
theorem zno : ∀ (s : List Int) (a : Nat), Bs s → s.all isD = true → val a s ≤ 4294967295 → parseUintM 4294967295 a (s.map b8) = .ok (val a s).toNat
 | [], a, _, _, _ => by simp [parseUintM, val]
 | x :: l, a, hb, hd, hv => by
   rw [List.all_cons, Bool.and_eq_true, ze0] at hd
   have hx := z8r (hb x (by simp))
   have hn : (10 * (a : Int) + (x - 48)) = ((a * 10 + ((b8 x).toNat - 48) : Nat) : Int) := by omega
   rw [val, hn] at hv ⊢
   have ih := zno l _ (fun y hy => hb y (by simp [hy])) hd.2 hv
   have hge := znx l ((a * 10 + ((b8 x).toNat - 48) : Nat) : Int) (by omega) hd.2
   rw [List.map_cons, parseUintM, if_pos (by omega), if_neg (by omega), if_neg (by omega)]
   exact ih
theorem zll : ∀ (s : List Int) (a u : Nat), Bs s → a ≤ 4294967295 → parseUintM 4294967295 a (s.map b8) = .ok u → s.all isD = true ∧ (u : Int) = val a s ∧ u ≤ 4294967295
 | [], a, u, _, ha, h => by
   simp only [List.map_nil, parseUintM] at h
   cases h
   exact ⟨rfl, rfl, ha⟩
 | x :: l, a, u, hb, ha, h => by
   have hx := z8r (hb x (by simp))
   rw [List.map_cons, parseUintM] at h
   split at h
   · rename_i hd
     split at h
     · cases h
     · split at h
       · cases h
       · rename_i h1 h2
         obtain ⟨g1, g2, g3⟩ := zll l _ u (fun y hy => hb y (by simp [hy])) (by omega) h
         refine ⟨?_, ?_, g3⟩
         · rw [List.all_cons, g1, Bool.and_true, ze0]; omega
         · rw [g2, val]; congr 1; omega
   · cases h
theorem ziw : ∀ (n u : Nat), u ≤ n → (2 ≤ (decDigits u).length → (decDigits u).head? ≠ some 48) ∧ decDigits u ≠ []
 | 0, u, h => by
   have : u = 0 := by omega
   subst this
   rw [decDigits_one (by omega)]
   exact ⟨fun h => by simp at h, by simp⟩
 | n + 1, u, h => by
   by_cases h1 : u < 10
   · rw [decDigits_one h1]
     exact ⟨fun h => by simp at h, by simp⟩
   · have ih := ziw n (u / 10) (by omega)
     rw [decDigits, dif_neg h1]
     refine ⟨fun _ => ?_, by simp⟩
     by_cases h2 : u / 10 < 10
     · rw [decDigits_one h2]
       simp only [List.cons_append, List.head?_cons]
       intro e
       have e := Option.some.inj e
       have := congrArg UInt8.toNat e
       rw [UInt8.toNat_ofNat'] at this
       have h48 : (48 : UInt8).toNat = 48 := rfl
       omega
     · have hl : 2 ≤ (decDigits (u / 10)).length := by
         rw [decDigits_length, nDigits_big h2]
         have : 1 ≤ nDigits (u / 10 / 10) := by
           by_cases h3 : u / 10 / 10 < 10
           · rw [nDigits_small h3]; exact Nat.le_refl _
           · rw [nDigits_big h3]; omega
         omega
       have := ih.1 hl
       cases hd : decDigits (u / 10) with
       | nil => exact absurd hd ih.2
       | cons y l => rw [hd] at this; simpa using this
theorem zso : ∀ (n : Nat) (s : List Int), s.length = n → Bs s → s ≠ [] → s.all isD = true → lead s = false → decDigits (val 0 s).toNat = s.map b8
 | 0, s, hn, _, hne, _, _ => absurd (List.length_eq_zero_iff.1 hn) hne
 | n + 1, s, hn, hb, hne, hd, hl => by
   obtain ⟨t, x, rfl⟩ : ∃ t x, s = t ++ [x] := ⟨s.dropLast, s.getLast hne, (List.dropLast_concat_getLast hne).symm⟩
   rw [List.all_append, Bool.and_eq_true] at hd
   have hx := (List.all_cons .. ▸ hd.2 : (isD x && List.all [] isD) = true)
   rw [Bool.and_eq_true, ze0] at hx
   have hbx := z8r (hb x (by simp))
   rw [ziv, List.map_append, List.map_cons, List.map_nil]
   have hb8 : ∀ k : Nat, (k : Int) = x - 48 → UInt8.ofNat (48 + k) = b8 x := fun k hk => by
     unfold b8
     congr 1
     omega
   by_cases ht : t = []
   · subst ht
     have hv : (10 * val 0 [] + (x - 48)).toNat = (x - 48).toNat := by simp [val]
     rw [hv, decDigits_one (by omega), hb8 _ (by omega)]; rfl
   · have htl : 1 ≤ t.length := by
       cases t with
       | nil => exact absurd rfl ht
       | cons y l => simp
     have hth : t.head? ≠ some 48 := by
       intro e
       unfold lead at hl
       rw [decide_eq_true (by simp; omega), Bool.true_and, decide_eq_false_iff_not] at hl
       apply hl
       cases t with
       | nil => exact absurd rfl ht
       | cons y l => simpa using e
     have hlt : lead t = false := by
       unfold lead
       rw [decide_eq_false (p := t.head? = some 48) hth, Bool.and_false]
     have ih := zso n t (by simp at hn; exact hn) (fun y hy => hb y (by simp [hy])) ht hd.1 hlt
     have hv1 : 1 ≤ val 0 t := by
       cases t with
       | nil => exact absurd rfl ht
       | cons y l =>
         rw [List.all_cons, Bool.and_eq_true, ze0] at hd
         have hy : y ≠ 48 := fun e => hth (by rw [e]; rfl)
         have := znx l (10 * 0 + (y - 48)) (by omega) hd.1.2
         rw [val]
         omega
     rw [decDigits, dif_neg (by omega)]
     have e1 : (10 * val 0 t + (x - 48)).toNat / 10 = (val 0 t).toNat := by omega
     have e2 : (((10 * val 0 t + (x - 48)).toNat % 10 : Nat) : Int) = x - 48 := by omega
     rw [e1, ih, hb8 _ e2]
theorem zfn {x y : Int} (hx : 0 ≤ x ∧ x < 256) (hy : 0 ≤ y ∧ y < 256) (h : b8 x = b8 y) : x = y := by
 rw [← z8r hx, ← z8r hy, h]
theorem zsn {s : List Int} (hb : Bs s) : zbj (ba s) = canon s := by
 unfold zbj
 have e0 : (ba s).data.toList = s.map b8 := zbg s
 rw [e0]
 unfold parseUintB
 by_cases hs : s = []
 · subst hs; rfl
 · rw [if_neg (by simpa using hs)]
   have hbad : (∀ u, parseUintM (2 ^ 32 - 1) 0 (s.map b8) ≠ .ok u) → canon s = false := fun hn => by
     cases hc : canon s with
     | false => rfl
     | true =>
       unfold canon at hc
       simp only [Bool.and_eq_true, decide_eq_true_eq] at hc
       exact absurd (zno s 0 hb hc.1.1.2 hc.2) (hn _)
   cases hp : parseUintM (2 ^ 32 - 1) 0 (s.map b8)
   · rename_i u
     obtain ⟨h1, h2, h3⟩ := zll s 0 u hb (by omega) hp
     have hu : (val 0 s).toNat = u := by rw [show val 0 s = val ((0 : Nat) : Int) s from rfl, ← h2]; rfl
     have hv : val 0 s ≤ 4294967295 := by rw [show val 0 s = val ((0 : Nat) : Int) s from rfl, ← h2]; omega
     dsimp only
     rw [Bool.eq_iff_iff, beq_iff_eq]
     unfold canon
     rw [h1, decide_eq_true hv]
     simp only [Bool.and_true, Bool.and_eq_true, Bool.not_eq_true', List.isEmpty_eq_false_iff]
     constructor
     · intro e
       refine ⟨hs, ?_⟩
       have := (ziw u u (Nat.le_refl _)).1
       rw [e] at this
       unfold lead
       by_cases h2 : 2 ≤ s.length
       · have h3 := this (by simpa using h2)
         rw [decide_eq_true h2, Bool.true_and, decide_eq_false_iff_not]
         intro e2
         apply h3
         cases s with
         | nil => exact absurd rfl hs
         | cons y l => simp at e2; subst e2; rfl
       · rw [decide_eq_false h2]; rfl
     · rintro ⟨_, hl⟩
       rw [← hu]
       exact zso s.length s rfl hb hs h1 hl
   all_goals exact (hbad fun u hu => by rw [hp] at hu; cases hu).symm
end Go.Proofs.YtgpmclpgcmgajaaDoor