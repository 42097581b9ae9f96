import Derived.Test.YtomgkgngbpnngaaDoorCdLtoCdW2
import Derived.Laws.RangeString
import Derived.Laws.Runes
import Derived.Laws.RangeAny
import Derived.LoopTactic
import Derived.Shelf.RegionOpenPlain
import Derived.Scope
import Derived.Deep.RegionWith
set_option linter.unusedVariables false
set_option linter.unusedSimpArgs false
namespace Go.Proofs.YtomgkgngbpnngaaDoor
open Go.Shelf Go.Proofs Go.RowKit Go.Sort Go.Lib Go.Ab
theorem z15e (r : Int) (h0 : 128 ≤ r) (h1 : r ≤ 1114111) :
   (∃ a b : UInt8, 128 ≤ b.toNat ∧ Utf8.encode r = ⟨#[a, b]⟩) ∨ (∃ a b c : UInt8, 128 ≤ c.toNat ∧ Utf8.encode r = ⟨#[a, b, c]⟩) ∨ ∃ a b c d : UInt8, 128 ≤ d.toNat ∧ Utf8.encode r = ⟨#[a, b, c, d]⟩ := by
 unfold Utf8.encode
 generalize hc : (if Utf8.valid r = true then r.toNat else Utf8.runeError) = c
 have hc1 : 128 ≤ c ∧ c ≤ 1114111 := by
   subst hc
   split
   · omega
   · decide
 have hb : ∀ n, n < 256 → 128 ≤ n → 128 ≤ (UInt8.ofNat n).toNat := fun n h1 h2 => by rw [UInt8.toNat_ofNat']; omega
 dsimp only
 rw [if_neg (by omega)]
 by_cases h2 : c < 0x800
 · rw [if_pos h2]; exact .inl ⟨_, _, hb _ (by omega) (by omega), rfl⟩
 · rw [if_neg h2]
   by_cases h3 : c < 0x10000
   · rw [if_pos h3]; exact .inr (.inl ⟨_, _, _, hb _ (by omega) (by omega), rfl⟩)
   · rw [if_neg h3]; exact .inr (.inr ⟨_, _, _, _, hb _ (by omega) (by omega), rfl⟩)
theorem zw6 (l : List UInt8) (c : UInt8) (h : ∀ b, b ∈ l → b.toNat < 128) (hc : 128 ≤ c.toNat) : Lib.indexByte l c = -1 := by
 induction l with
 | nil => rfl
 | cons b l ih =>
   have hb := h b (by simp)
   have hne : b ≠ c := fun e => by subst e; omega
   have := ih fun x hx => h x (by simp [hx])
   simp [Lib.indexByte, this, hne]
set_option maxHeartbeats 6400000 in
set_option maxRecDepth 100000 in
theorem z13a (r : Int) (h0 : 128 ≤ r) (h1 : r ≤ 1114111) (hr : r ≠ 65533) (a b : UInt8) (hb : 128 ≤ b.toNat) (he : Utf8.encode r = ⟨#[a, b]⟩) (w : World) :
   Calls Tryd.prog 62 #[.string ⟨#[46, 95, 45]⟩, .int .i32 r] w fun e w' => e = .returned (.int .i64 (-1)) ∧ Below w.heap.size w w' := by
 have hcv : ∀ W, (convert 21 9 (.int .i32 r)).run Tryd.prog W = .ok (.string ⟨#[a, b]⟩) W := fun W => by
   simp [convert, run_underlying Tryd.underlying21, run_underlying Tryd.underlying9, Conv.intToString, he]
 have mixed := zfs.mixed
 have e1 : ((95 : Int) == (b.toNat : Int)) = false := beq_eq_false_iff_ne.2 (by omega)
 have hix : Lib.indexByte (({ data := #[46, 95, 45] } : ByteArray).extract 2 3).data.toList ((({ data := #[a, b] } : ByteArray)[1]'(by show 1 < 2; decide)).toNat : Int).toNat.toUInt8 = -1 := zw6 _ _ (by decide) (by show 128 ≤ ((b.toNat : Int).toNat.toUInt8).toNat; simpa using hb)
 have e4 : (((({ data := #[46, 95, 45] } : ByteArray)[1]'(by show 1 < 3; decide)).toNat : Int) != ((({ data := #[a, b] } : ByteArray)[1]'(by show 1 < 2; decide)).toNat : Int)) = true := bne_iff_ne.2 (by show (95 : Int) ≠ (b.toNat : Int); omega)
 have e2 : ((45 : Int) == (b.toNat : Int)) = false := beq_eq_false_iff_ne.2 (by omega)
 have e3 : ¬ (95 : Int) = (b.toNat : Int) := by omega
 go_enter Tryd.func62, Tryd.ntmps62
 go_wp2
 all_goals try (go_ret; exact ⟨rfl, Below.refl _ _⟩)
 all_goals (apply wp_scope_straight; go_wp2)
 all_goals (
   go_loopw [9] (fun iv w' => iv = .int .i64 1 ∧ w' = w) (fun _ _ => 0)
   case atStart => exact ⟨rfl, rfl⟩
   case round =>
     obtain ⟨rfl, rfl⟩ := hrel
     go_wp2
     apply wp_scope_straight
     go_wp2
     go_region_o
     go_wp2
     all_goals first
       | (exfalso; exact absurd (e4.symm.trans (by assumption)) (by decide))
       | (go_region_with (go_at_call 72; refine (Any.strings_IndexByte zfs _ _ _).mono ?_; rintro e w' ⟨rfl, rfl⟩; rw [hix])
          go_wp2
          all_goals (
            (first | go_ret3 | go_end0 | (dsimp +zetaDelta only [Exit.noGoto, Exit.inBlock, Exit.then]; go_ret))
            exact ⟨rfl, ⟨rfl, rfl, rfl, Nat.le_refl _, fun _ _ => rfl⟩⟩)))
end Go.Proofs.YtomgkgngbpnngaaDoor
set_option linter.unusedVariables false
set_option linter.unusedSimpArgs false
namespace Go.Proofs.YtomgkgngbpnngaaDoor
open Go.Shelf Go.Proofs Go.RowKit Go.Sort Go.Lib Go.Ab
set_option maxHeartbeats 6400000 in
set_option maxRecDepth 100000 in
theorem z13s (r : Int) (h0 : 128 ≤ r) (h1 : r ≤ 1114111) (hr : r ≠ 65533) (z a b : UInt8) (hb : 128 ≤ b.toNat) (he : Utf8.encode r = ⟨#[z, a, b]⟩) (w : World) :
   Calls Tryd.prog 62 #[.string ⟨#[46, 95, 45]⟩, .int .i32 r] w fun e w' => e = .returned (.int .i64 (-1)) ∧ Below w.heap.size w w' := by
 have hcv : ∀ W, (convert 21 9 (.int .i32 r)).run Tryd.prog W = .ok (.string ⟨#[z, a, b]⟩) W := fun W => by
   simp [convert, run_underlying Tryd.underlying21, run_underlying Tryd.underlying9, Conv.intToString, he]
 have mixed := zfs.mixed
 have e1 : ((95 : Int) == (b.toNat : Int)) = false := beq_eq_false_iff_ne.2 (by omega)
 have hix : Lib.indexByte (ByteArray.empty).data.toList ((({ data := #[z, a, b] } : ByteArray)[2]'(by show 2 < 3; decide)).toNat : Int).toNat.toUInt8 = -1 := zw6 _ _ (by decide) (by show 128 ≤ ((b.toNat : Int).toNat.toUInt8).toNat; simpa using hb)
 have e4 : (((({ data := #[46, 95, 45] } : ByteArray)[2]'(by show 2 < 3; decide)).toNat : Int) != ((({ data := #[z, a, b] } : ByteArray)[2]'(by show 2 < 3; decide)).toNat : Int)) = true := bne_iff_ne.2 (by show (45 : Int) ≠ (b.toNat : Int); omega)
 have e2 : ((45 : Int) == (b.toNat : Int)) = false := beq_eq_false_iff_ne.2 (by omega)
 have e3 : ¬ (95 : Int) = (b.toNat : Int) := by omega
 go_enter Tryd.func62, Tryd.ntmps62
 go_wp2
 all_goals try (go_ret; exact ⟨rfl, Below.refl _ _⟩)
 all_goals (apply wp_scope_straight; go_wp2)
 all_goals (
   go_loopw [9] (fun iv w' => iv = .int .i64 2 ∧ w' = w) (fun _ _ => 0)
   case atStart => exact ⟨rfl, rfl⟩
   case round =>
     obtain ⟨rfl, rfl⟩ := hrel
     go_wp2
     apply wp_scope_straight
     go_wp2
     go_region_o
     go_wp2
     all_goals first
       | (exfalso; exact absurd (e4.symm.trans (by assumption)) (by decide))
       | (go_region_with (go_at_call 72; refine (Any.strings_IndexByte zfs _ _ _).mono ?_; rintro e w' ⟨rfl, rfl⟩; rw [hix])
          go_wp2
          all_goals (
            (first | go_ret3 | go_end0 | (dsimp +zetaDelta only [Exit.noGoto, Exit.inBlock, Exit.then]; go_ret))
            exact ⟨rfl, ⟨rfl, rfl, rfl, Nat.le_refl _, fun _ _ => rfl⟩⟩)))
set_option maxHeartbeats 6400000 in
set_option maxRecDepth 100000 in
theorem z14k (r : Int) (h0 : 128 ≤ r) (h1 : r ≤ 1114111) (hr : r ≠ 65533) (y z a b : UInt8) (hb : 128 ≤ b.toNat) (he : Utf8.encode r = ⟨#[y, z, a, b]⟩) (w : World) :
   Calls Tryd.prog 62 #[.string ⟨#[46, 95, 45]⟩, .int .i32 r] w fun e w' => e = .returned (.int .i64 (-1)) ∧ Below w.heap.size w w' := by
 have hcv : ∀ W, (convert 21 9 (.int .i32 r)).run Tryd.prog W = .ok (.string ⟨#[y, z, a, b]⟩) W := fun W => by
   simp [convert, run_underlying Tryd.underlying21, run_underlying Tryd.underlying9, Conv.intToString, he]
 have mixed := zfs.mixed
 go_enter Tryd.func62, Tryd.ntmps62
 go_wp2
 all_goals try (go_ret; exact ⟨rfl, Below.refl _ _⟩)
 all_goals (apply wp_scope_straight; go_wp2)
 all_goals (
   go_loopw [9] (fun iv w' => iv = .int .i64 3 ∧ w' = w) (fun _ _ => 0)
   case atStart => exact ⟨rfl, rfl⟩
   case round =>
     obtain ⟨rfl, rfl⟩ := hrel
     go_wp2
     all_goals (
            (first | go_ret3 | go_end0 | (dsimp +zetaDelta only [Exit.noGoto, Exit.inBlock, Exit.then]; go_ret))
            exact ⟨rfl, ⟨rfl, rfl, rfl, Nat.le_refl _, fun _ _ => rfl⟩⟩))
end Go.Proofs.YtomgkgngbpnngaaDoor
set_option linter.unusedVariables false
set_option linter.unusedSimpArgs false
namespace Go.Proofs.YtomgkgngbpnngaaDoor
open Go.Shelf Go.Proofs Go.RowKit Go.Sort Go.Lib Go.Ab
theorem zf4 (w : World) (s : ByteArray) (p : Nat) : Below w.heap.size w (w.iter s p) :=
 ⟨rfl, rfl, rfl, by show w.heap.size ≤ (w.heap.push _).size; rw [Array.size_push]; omega, fun k hk => RowKit.Below.heap_alloc w _ k hk⟩
theorem z11w (pos : Nat) (h : pos < 3) : Utf8.decode ⟨#[46, 95, 45]⟩ pos = (([46, 95, 45] : List Nat).getD pos 0, 1) := by
 match pos, h with
 | 0, _ => decide
 | 1, _ => decide
 | 2, _ => decide
set_option maxHeartbeats 6400000 in
set_option maxRecDepth 100000 in
theorem z13f (w : World) :
   Calls Tryd.prog 62 #[.string ⟨#[46, 95, 45]⟩, .int .i32 65533] w fun e w' => e = .returned (.int .i64 (-1)) ∧ Below w.heap.size w w' := by
 have mixed := zfs.mixed
 go_enter Tryd.func62, Tryd.ntmps62
 go_wp2
 go_loopw [5] (fun _ w' => ∃ pos : Nat, pos ≤ 3 ∧ w' = w.iter ⟨#[46, 95, 45]⟩ pos) (fun _ w' => 3 - w'.iterPos w.heap.size)
 case atStart => exact ⟨0, by omega, rfl⟩
 case round =>
   obtain ⟨pos, hp3, rfl⟩ := hrel
   by_cases hp : pos < 3
   · obtain ⟨c, hc, hne⟩ : ∃ c : Nat, Utf8.decode ⟨#[46, 95, 45]⟩ pos = (c, 1) ∧ ((c : Int) == 65533) = false := by
       refine ⟨_, z11w pos hp, ?_⟩
       match pos, hp with
       | 0, _ => rfl
       | 1, _ => rfl
       | 2, _ => rfl
     have hnx : ∀ ty, (Instr.next (.pointer (some ⟨w.heap.size, 0, none⟩)) true ty).run Tryd.prog (w.iter ⟨#[46, 95, 45]⟩ pos) = .ok (.tuple #[.bool true, .int .i64 pos, .int .i32 c]) (w.iter ⟨#[46, 95, 45]⟩ (pos + 1)) := fun ty => by
       rw [run_next_any w ⟨#[46, 95, 45]⟩ pos ty (show pos < 3 from hp), hc]
     go_wp2
     exact ⟨⟨pos + 1, by omega, rfl⟩, by simp; omega⟩
   · have hge : ¬ pos < 3 := hp
     have hnx : ∀ ty, (Instr.next (.pointer (some ⟨w.heap.size, 0, none⟩)) true ty).run Tryd.prog (w.iter ⟨#[46, 95, 45]⟩ pos) = .ok (.tuple #[.bool false]) (w.iter ⟨#[46, 95, 45]⟩ pos) := fun ty => run_next_end w ⟨#[46, 95, 45]⟩ pos ty (show ¬ pos < 3 from hp)
     go_wp2
     go_ret
     exact ⟨rfl, zf4 _ _ _⟩
theorem z15i (r : Int) (h0 : 128 ≤ r) (h1 : r ≤ 1114111) (w : World) :
   Calls Tryd.prog 62 #[.string ⟨#[46, 95, 45]⟩, .int .i32 r] w fun e w' => e = .returned (.int .i64 (-1)) ∧ Below w.heap.size w w' := by
 by_cases hr : r = 65533
 · subst hr; exact z13f w
 · rcases z15e r h0 h1 with ⟨a, b, hb, he⟩ | ⟨z, a, b, hb, he⟩ | ⟨y, z, a, b, hb, he⟩
   · exact z13a r h0 h1 hr a b hb he w
   · exact z13s r h0 h1 hr z a b hb he w
   · exact z14k r h0 h1 hr y z a b hb he w
theorem z15l (r : Int) (h0 : 128 ≤ r) (h1 : r ≤ 1114111) (w : World) :
   Calls Tryd.prog 49 #[.string ⟨#[46, 95, 45]⟩, .int .i32 r] w fun e w' => e = .returned (.bool false) ∧ Below w.heap.size w w' := by
 go_enter Tryd.func49, Tryd.ntmps49
 go_wp2_with (go_at_call 62; refine (z15i r h0 h1 _).mono ?_; rintro e w' ⟨rfl, hb⟩)
 go_ret
 exact ⟨rfl, hb⟩
end Go.Proofs.YtomgkgngbpnngaaDoor
set_option linter.unusedVariables false
set_option linter.unusedSimpArgs false
namespace Go.Proofs.YtomgkgngbpnngaaDoor
open Go.Shelf Go.Proofs Go.RowKit Go.Sort Go.Lib Go.Ab
def z8d (c : Int) : Bool := decide (97 ≤ c ∧ c ≤ 122) || decide (65 ≤ c ∧ c ≤ 90)
theorem z6e (c : Int) (w : World) : Calls Tryd.prog 48 #[.int .i32 c] w fun e w' => e = .returned (.bool (z8d c)) ∧ w' = w := by
 by_cases h1 : 97 ≤ c <;> by_cases h2 : c ≤ 122 <;> by_cases h3 : 65 ≤ c <;> by_cases h4 : c ≤ 90 <;>
 · have e1 : z8d c = (decide (97 ≤ c) && decide (c ≤ 122) || decide (65 ≤ c) && decide (c ≤ 90)) := by simp [z8d]
   rw [e1]
   go_enter Tryd.func48, Tryd.ntmps48
   go_wp2
   go_ret
   refine ⟨?_, rfl⟩
   simp [h1, h2, h3, h4]
end Go.Proofs.YtomgkgngbpnngaaDoor
set_option linter.unusedVariables false
set_option linter.unusedSimpArgs false
namespace Go.Proofs.YtomgkgngbpnngaaDoor
open Go.Shelf Go.Proofs Go.RowKit Go.Sort Go.Lib Go.Ab
def okc (b : UInt8) : Bool := z8d b.toNat || decide (48 ≤ b.toNat ∧ b.toNat ≤ 57) || (b == 46 || b == 95 || b == 45)
def nameB (s : ByteArray) : Bool := decide (1 ≤ s.size ∧ s.size ≤ 12) && !(s.data.toList == [46]) && !(s.data.toList == [46, 46]) && s.data.toList.all okc
theorem z14b (b : UInt8) : decide (0 ≤ Lib.indexByte [46, 95, 45] b) = (b == 46 || b == 95 || b == 45) := by
 by_cases h1 : b = 46
 · subst h1; rfl
 · by_cases h2 : b = 95
   · subst h2; rfl
   · by_cases h3 : b = 45
     · subst h3; rfl
     · have h1' : (46 : UInt8) ≠ b := fun e => h1 e.symm
       have h2' : (95 : UInt8) ≠ b := fun e => h2 e.symm
       have h3' : (45 : UInt8) ≠ b := fun e => h3 e.symm
       simp [Lib.indexByte, h1, h2, h3, h1', h2', h3']
theorem z14y (s : ByteArray) (h0 : ∀ j (hj : j < s.size), okc (s[j]'hj) = true) : s.data.toList.all okc = true := by
 rw [List.all_eq_true]
 intro b hb
 obtain ⟨j, hj, rfl⟩ := List.mem_iff_getElem.1 hb
 have hj' : j < s.size := by simpa using hj
 exact h0 j hj'
theorem zwk (s : ByteArray) (pos : Nat) (h : pos < s.size) (hb : okc (s[pos]'h) = false) : s.data.toList.all okc = false := by
 rw [List.all_eq_false]
 refine ⟨s[pos]'h, ?_, by simp [hb]⟩
 have : s[pos]'h = s.data.toList[pos]'(by simpa using h) := by simp; rfl
 rw [this]
 exact List.getElem_mem _
theorem z15c (s : ByteArray) (pos : Nat) : (Utf8.decode s pos).1 ≤ 1114111 := by
 unfold Utf8.decode
 dsimp only
 have hv : ∀ c, Utf8.valid c = true → c ≤ 1114111 := fun c h => by simp [Utf8.valid] at h; omega
 have := (s.get! (pos + 0)).toNat_lt
 have := (s.get! (pos + 1)).toNat_lt
 have := (s.get! (pos + 2)).toNat_lt
 repeat' split
 all_goals first
   | (simp only [Utf8.runeError]; omega)
   | (rename_i h; have h2 := hv _ ((Bool.and_eq_true _ _ ▸ h : _ ∧ _).2); dsimp only; omega)
   | omega
theorem z10r (s : ByteArray) (h : ((((s.size : Int) < 1 ∨ 12 < (s.size : Int)) ∨ (s.toList == [46]) = true) ∨ (s.toList == [46, 46]) = true)) : nameB s = false := by
 unfold nameB
 rw [← ByteArray.toList_eq]
 rcases h with ((h | h) | h) | h
 · rw [decide_eq_false (by omega)]; rfl
 · rw [decide_eq_false (by omega)]; rfl
 · rw [h]; simp
 · rw [h]; simp
theorem zyl (s : ByteArray) (h : ((((1 : Int) ≤ s.size ∧ (s.size : Int) ≤ 12) ∧ (s.toList == [46]) = false) ∧ (s.toList == [46, 46]) = false)) : nameB s = s.data.toList.all okc := by
 unfold nameB
 rw [← ByteArray.toList_eq, decide_eq_true (by omega), h.1.2, h.2]
 simp
theorem z13o (b : UInt8) : okc b = (z8d b.toNat || (decide (48 ≤ (b.toNat : Int)) && decide ((b.toNat : Int) ≤ 57)) || decide (0 ≤ Lib.indexByte [46, 95, 45] b)) := by
 rw [z14b]
 unfold okc
 congr 2
 by_cases h1 : 48 ≤ b.toNat <;> by_cases h2 : b.toNat ≤ 57 <;> simp [h1, h2] <;> omega
theorem z15u (b : UInt8) (h : 128 ≤ b.toNat) : okc b = false := by
 have h1 : z8d b.toNat = false := by simp [z8d]; omega
 have h2 : ¬ (48 ≤ b.toNat ∧ b.toNat ≤ 57) := by omega
 have h3 : b ≠ 46 := fun e => by subst e; revert h; decide
 have h4 : b ≠ 95 := fun e => by subst e; revert h; decide
 have h5 : b ≠ 45 := fun e => by subst e; revert h; decide
 unfold okc
 rw [h1, decide_eq_false h2]
 simp [h3, h4, h5]
theorem zzo (c : Nat) (h : 128 ≤ c) : z8d (c : Int) = false := by simp [z8d]; omega
theorem zv6 (w : World) (s : ByteArray) (p : Nat) {w' : World} (h : Below (w.iter s p).heap.size (w.iter s p) w') : Below w.heap.size w w' := by
 have h0 : Below w.heap.size w (w.iter s p) := ⟨rfl, rfl, rfl, by show w.heap.size ≤ (w.heap.push _).size; rw [Array.size_push]; omega, fun k hk => RowKit.Below.heap_alloc w _ k hk⟩
 exact h0.trans ⟨h.os, h.tape, h.output, h.size, fun k hk => h.block k (Nat.lt_of_lt_of_le hk h0.size)⟩
set_option maxHeartbeats 6400000 in
set_option maxRecDepth 100000 in
theorem zwx (s : ByteArray) (hs : s.size ≤ 9223372036854775807) (w : World) : Calls Tryd.prog 31 #[.string s] w fun e w' => e = .returned (.bool (nameB s)) ∧ Below w.heap.size w w' := by
 by_cases hb : ((((s.size : Int) < 1 ∨ 12 < (s.size : Int)) ∨ (s.toList == [46]) = true) ∨ (s.toList == [46, 46]) = true)
 · rw [z10r s hb]
   go_enter Tryd.func31, Tryd.ntmps31
   go_wp2
   all_goals first
     | (go_ret; exact ⟨rfl, Below.refl _ _⟩)
     | (exfalso; simp_all; done)
     | (exfalso; simp_all; omega)
 · have hg : ((((1 : Int) ≤ s.size ∧ (s.size : Int) ≤ 12) ∧ (s.toList == [46]) = false) ∧ (s.toList == [46, 46]) = false) := by
     simp only [not_or, Bool.not_eq_true] at hb
     exact ⟨⟨⟨by omega, by omega⟩, hb.1.2⟩, hb.2⟩
   rw [zyl s hg]
   obtain ⟨⟨⟨g1, g2⟩, g3⟩, g4⟩ := hg
   go_enter Tryd.func31, Tryd.ntmps31
   go_wp2
   go_loopw [4] (fun _ w' => ∃ pos : Nat, pos ≤ s.size ∧ w' = w.iter s pos ∧ ∀ j (hj : j < pos) (hj2 : j < s.size), okc (s[j]'hj2) = true) (fun _ w' => s.size - w'.iterPos w.heap.size)
   case atStart => exact ⟨0, Nat.zero_le _, rfl, fun j hj => absurd hj (Nat.not_lt_zero _)⟩
   case round =>
     obtain ⟨pos, hps, rfl, hok⟩ := hrel
     by_cases hp : pos < s.size
     · by_cases ha : (s[pos]'hp).toNat < 128
       · obtain ⟨b, hbe⟩ : ∃ b : UInt8, b = s[pos]'hp := ⟨_, rfl⟩
         have hb0 := b.toNat_lt
         have hnx : ∀ ty, (Instr.next (.pointer (some ⟨w.heap.size, 0, none⟩)) true ty).run Tryd.prog (w.iter s pos) = .ok (.tuple #[.bool true, .int .i64 pos, .int .i32 b.toNat]) (w.iter s (pos + 1)) := fun ty => by
           rw [hbe]; exact run_next_ascii w s pos ty hp ha
         rw [← hbe] at ha
         have hix : (((b.toNat : Int)).toNat.toUInt8) = b := by simp
         have hgo : okc b = true → (∀ j (hj : j < pos + 1) (hj2 : j < s.size), okc (s[j]'hj2) = true) := fun h j hj hj2 => by
           by_cases e : j = pos
           · subst e; rw [← hbe]; exact h
           · exact hok j (by omega) hj2
         have hno : okc b = false → s.data.toList.all okc = false := fun h => zwk s pos hp (by rw [← hbe]; exact h)
         rw [z13o] at hgo hno
         clear hbe
         cases hl : z8d b.toNat with
         | true =>
           rw [hl] at hgo
           clear hno
           go_wp2_with (go_at_call 48; refine (z6e _ _).mono ?_; rintro e w' ⟨rfl, rfl⟩; rw [hl])
           exact ⟨⟨pos + 1, by omega, rfl, hgo rfl⟩, by simp; omega⟩
         | false =>
           rw [hl] at hgo hno
           by_cases g48 : (b.toNat : Int) < 48
           · have e48 : decide (48 ≤ (b.toNat : Int)) = false := decide_eq_false (by omega)
             rw [e48] at hgo hno
             by_cases hd : 0 ≤ Lib.indexByte [46, 95, 45] b
             · rw [decide_eq_true hd] at hgo
               clear hno
               go_wp2_with (first
                 | (go_at_call 48; refine (z6e _ _).mono ?_; rintro e w' ⟨rfl, rfl⟩; rw [hl])
                 | (go_at_call 49; refine (Any.strings_ContainsRune_ascii zmr _ _ _ (by omega) (by omega)).mono ?_; rintro e w' ⟨rfl, rfl⟩; rw [hix, decide_eq_true hd]))
               exact ⟨⟨pos + 1, by omega, rfl, hgo (by simp)⟩, by simp; omega⟩
             · rw [decide_eq_false hd] at hno
               clear hgo
               have hno := hno (by simp)
               go_wp2_with (first
                 | (go_at_call 48; refine (z6e _ _).mono ?_; rintro e w' ⟨rfl, rfl⟩; rw [hl])
                 | (go_at_call 49; refine (Any.strings_ContainsRune_ascii zmr _ _ _ (by omega) (by omega)).mono ?_; rintro e w' ⟨rfl, rfl⟩; rw [hix, show decide (0 ≤ Lib.indexByte [46, 95, 45] b) = false from decide_eq_false (by omega)]))
               (first | go_ret | go_ret3 | (dsimp +zetaDelta only [Exit.noGoto, Exit.inBlock, Exit.then]; go_ret))
               exact ⟨by rw [hno]; rfl, zf4 _ _ _⟩
           · by_cases g57 : 57 < (b.toNat : Int)
             · have e57 : decide ((b.toNat : Int) ≤ 57) = false := decide_eq_false (by omega)
               rw [e57] at hgo hno
               by_cases hd : 0 ≤ Lib.indexByte [46, 95, 45] b
               · rw [decide_eq_true hd] at hgo
                 clear hno
                 go_wp2_with (first
                   | (go_at_call 48; refine (z6e _ _).mono ?_; rintro e w' ⟨rfl, rfl⟩; rw [hl])
                   | (go_at_call 49; refine (Any.strings_ContainsRune_ascii zmr _ _ _ (by omega) (by omega)).mono ?_; rintro e w' ⟨rfl, rfl⟩; rw [hix, decide_eq_true hd]))
                 exact ⟨⟨pos + 1, by omega, rfl, hgo (by simp)⟩, by simp; omega⟩
               · rw [decide_eq_false hd] at hno
                 clear hgo
                 have hno := hno (by simp)
                 go_wp2_with (first
                   | (go_at_call 48; refine (z6e _ _).mono ?_; rintro e w' ⟨rfl, rfl⟩; rw [hl])
                   | (go_at_call 49; refine (Any.strings_ContainsRune_ascii zmr _ _ _ (by omega) (by omega)).mono ?_; rintro e w' ⟨rfl, rfl⟩; rw [hix, show decide (0 ≤ Lib.indexByte [46, 95, 45] b) = false from decide_eq_false (by omega)]))
                 (first | go_ret | go_ret3 | (dsimp +zetaDelta only [Exit.noGoto, Exit.inBlock, Exit.then]; go_ret))
                 exact ⟨by rw [hno]; rfl, zf4 _ _ _⟩
             · have e48 : decide (48 ≤ (b.toNat : Int)) = true := decide_eq_true (by omega)
               have e57 : decide ((b.toNat : Int) ≤ 57) = true := decide_eq_true (by omega)
               rw [e48, e57] at hgo
               clear hno
               go_wp2_with (first
                 | (go_at_call 48; refine (z6e _ _).mono ?_; rintro e w' ⟨rfl, rfl⟩; rw [hl]))
               exact ⟨⟨pos + 1, by omega, rfl, hgo (by simp)⟩, by simp; omega⟩
       · have hno : s.data.toList.all okc = false := zwk s pos hp (z15u _ (by omega))
         obtain ⟨c, hc⟩ : ∃ c : Nat, c = (Utf8.decode s pos).1 := ⟨_, rfl⟩
         have hc1 : 128 ≤ c := hc ▸ (decode_high s pos hp (by omega)).1
         have hc2 : c ≤ 1114111 := hc ▸ z15c s pos
         obtain ⟨d, hde⟩ : ∃ d : Nat, d = pos + (Utf8.decode s pos).2 := ⟨_, rfl⟩
         have hnx : ∀ ty, (Instr.next (.pointer (some ⟨w.heap.size, 0, none⟩)) true ty).run Tryd.prog (w.iter s pos) = .ok (.tuple #[.bool true, .int .i64 pos, .int .i32 c]) (w.iter s d) := fun ty => by
           rw [hc, hde]; exact run_next_any w s pos ty hp
         have hl := zzo c hc1
         have g57 : (57 : Int) < c := by omega
         have g48 : ¬ (c : Int) < 48 := by omega
         clear hc hde
         go_wp2_with (first
           | (go_at_call 48; refine (z6e _ _).mono ?_; rintro e w' ⟨rfl, rfl⟩; rw [hl])
           | (go_at_call 49; refine (z15l _ (by omega) (by omega) _).mono ?_; rintro e w' ⟨rfl, hbel⟩))
         (first | go_ret | go_ret3 | (dsimp +zetaDelta only [Exit.noGoto, Exit.inBlock, Exit.then]; go_ret))
         exact ⟨by rw [hno]; rfl, zv6 _ _ _ hbel⟩
     · have hall : s.data.toList.all okc = true := z14y s fun j hj => hok j (by omega) hj
       have hge : ¬ pos < s.size := hp
       have hnx : ∀ ty, (Instr.next (.pointer (some ⟨w.heap.size, 0, none⟩)) true ty).run Tryd.prog (w.iter s pos) = .ok (.tuple #[.bool false]) (w.iter s pos) := fun ty => run_next_end w s pos ty hge
       go_wp2
       (first | go_ret | go_ret3 | (dsimp +zetaDelta only [Exit.noGoto, Exit.inBlock, Exit.then]; go_ret))
       exact ⟨by rw [hall]; rfl, zf4 _ _ _⟩
end Go.Proofs.YtomgkgngbpnngaaDoor