/- An abstract calculus over the model's weakest preconditions, part 12: arguments that read as data; a law's call. -/
import Derived.Test.YtfjikgkcleefiaaDoorAb11
import Derived.Below
import GoSem.ClaimChange
namespace Go.Ab
open Go.RowKit (Below)

mutual
def cellsD {H : Type} : DataW H → List PV
  | .lit (.bool b) => [.val (.bool b)]
  | .lit (.int k n) => [.val (.int k n)]
  | .lit (.string l) => [.val (.string ⟨l.toArray⟩)]
  | .lit _ => [.dead]
  | .nil => [.tr 0 [] .no]
  | .slice es _ => [.tr es.length (cellsDs es) .no]
  | .agg ps => cellsDs ps
  | .ptr _ => [.dead]
  | .iface _ _ => [.dead]
  | .map _ => [.dead]
  | .held _ => [.dead]
def cellsDs {H : Type} : List (DataW H) → List PV
  | [] => []
  | d :: ds => cellsD d ++ cellsDs ds
end

/-- a field stands where the one ahead of it ends -/
def tilesFrom (P : Program) : List Field → Nat → Nat → Bool
  | [], off, n => off == n
  | f :: fs, off, n => f.offset == off && tilesFrom P fs (off + P.cellsOf f.type) n

/-- types of plain data: whole numbers, truths, strings, and structs, arrays and slices of such -/
def plainTy (P : Program) : Nat → TypeId → Bool
  | 0, _ => false
  | n + 1, t =>
    match P.underlying t with
    | some .bool | some (.int _) | some .string => true
    | some (.slice e) => plainTy P n e
    | some (.array k e) => plainTy P n e && P.cellsOf t == k * P.cellsOf e
    | some (.struct fs) => fs.toList.all (fun f => plainTy P n f.type) && tilesFrom P fs.toList 0 (P.cellsOf t)
    | _ => false

theorem mapM_opt {α β : Type} {f : α → Option β} : ∀ {l : List α} {xs : List β}, l.mapM f = some xs → xs.length = l.length ∧ ∀ (i : Nat) a, l[i]? = some a → ∃ x, xs[i]? = some x ∧ f a = some x
  | [], xs, h => by
    simp at h; subst h
    exact ⟨rfl, fun i a h => by simp at h⟩
  | a :: l, xs, h => by
    rw [List.mapM_cons] at h
    cases hf : f a with
    | none => rw [hf] at h; cases h
    | some x =>
      rw [hf] at h
      cases hl : l.mapM f with
      | none => rw [hl] at h; cases h
      | some ys =>
        rw [hl] at h
        simp at h
        subst h
        obtain ⟨h1, h2⟩ := mapM_opt hl
        refine ⟨by simp [h1], fun i b hb => ?_⟩
        cases i with
        | zero => simp at hb; subst hb; exact ⟨x, rfl, hf⟩
        | succ i => exact h2 i b (by simpa using hb)

theorem cells?_get {w : World} {base : Nat} {a : Addr} {n : Nat} {cs : List Value} (h : w.cells? base a n = some cs) : cs.length = n ∧ ∀ i, i < n → w.cell? (a.add i) = cs[i]? := by
  unfold World.cells? at h
  split at h
  · obtain ⟨h1, h2⟩ := mapM_opt h
    refine ⟨by simpa using h1, fun i hi => ?_⟩
    obtain ⟨x, h3, h4⟩ := h2 i i (by simp [hi])
    rw [h4, h3]
  · cases h

theorem VRs_append {w : World} {c : Cx} {xs ys : List PV} {f : Nat → Option Value} (h1 : VRs w c xs f) (h2 : VRs w c ys (fun i => f (xs.length + i))) : VRs w c (xs ++ ys) f :=
  VRs_mk fun i p hp => by
    by_cases hi : i < xs.length
    · rw [List.getElem?_append_left hi] at hp; exact VRs_get h1 hp
    · rw [List.getElem?_append_right (Nat.le_of_not_lt hi)] at hp
      obtain ⟨v, h3, h4⟩ := VRs_get h2 hp
      exact ⟨v, by have : xs.length + (i - xs.length) = i := by omega
                   rw [this] at h3; exact h3, h4⟩

theorem VRs_congr {w : World} {c : Cx} {xs : List PV} {f g : Nat → Option Value} (h : VRs w c xs f) (hfg : ∀ i, i < xs.length → f i = g i) : VRs w c xs g :=
  VRs_mk fun i p hp => by
    obtain ⟨v, h1, h2⟩ := VRs_get h hp
    exact ⟨v, by rw [← hfg i (List.getElem?_eq_some_iff.1 hp).1]; exact h1, h2⟩

/-- what a reading tells of one value -/
def Rd {H : Type} (w : World) (c : Cx) (d : DataW H) (cs : List Value) : Prop :=
  (cellsD d).length = cs.length ∧ Leafs (cellsD d) ∧ VRs w c (cellsD d) (fun i => cs[i]?)

/-- parts of equal size, one behind the other -/
theorem rd_rows {H : Type} {w : World} {c : Cx} {sz : Nat} : ∀ {ds : List (DataW H)} {css : List (List Value)}, ds.length = css.length → (∀ (i : Nat) d cs, ds[i]? = some d → css[i]? = some cs → Rd w c d cs ∧ cs.length = sz) →
    (cellsDs ds).length = ds.length * sz ∧ Leafs (cellsDs ds) ∧ VRs w c (cellsDs ds) (fun i => css.flatten[i]?)
  | [], [], _, _ => ⟨by simp [cellsDs], fun q hq => by simp [cellsDs] at hq, by simp only [cellsDs, VRs]⟩
  | d :: ds, cs :: css, hl, h => by
    obtain ⟨⟨h1, h2, h3⟩, h4⟩ := h 0 d cs rfl rfl
    obtain ⟨h5, h6, h7⟩ := rd_rows (ds := ds) (css := css) (by simpa using hl) (fun i d cs hd hc => h (i + 1) d cs (by simpa using hd) (by simpa using hc))
    refine ⟨by simp [cellsDs, h1, h4, h5, Nat.add_mul, Nat.add_comm], fun q hq => ?_, ?_⟩
    · simp only [cellsDs, List.mem_append] at hq
      exact hq.elim (h2 q) (h6 q)
    · simp only [cellsDs, List.flatten_cons]
      refine VRs_append (VRs_congr h3 fun i hi => ?_) (VRs_congr h7 fun i hi => ?_)
      · rw [List.getElem?_append_left (by omega)]
      · rw [List.getElem?_append_right (by omega)]
        congr 1; omega
  | [], _ :: _, hl, _ => by simp at hl
  | _ :: _, [], hl, _ => by simp at hl

theorem flatten_get {sz : Nat} : ∀ {css : List (List Value)} {i r : Nat} {cs : List Value}, (∀ c, c ∈ css → c.length = sz) → css[i]? = some cs → r < sz → css.flatten[i * sz + r]? = cs[r]?
  | [], _, _, _, _, h, _ => by simp at h
  | c :: css, 0, r, cs, hsz, h, hr => by
    simp at h; subst h
    rw [List.flatten_cons, List.getElem?_append_left (by rw [hsz c (by simp)]; omega)]; simp
  | c :: css, i + 1, r, cs, hsz, h, hr => by
    have hc := hsz c (by simp)
    rw [List.flatten_cons, List.getElem?_append_right (by rw [hc, Nat.add_mul]; omega), hc]
    have : (i + 1) * sz + r - sz = i * sz + r := by rw [Nat.add_mul]; omega
    rw [this]
    exact flatten_get (fun c hc => hsz c (by simp [hc])) (by simpa using h) hr

theorem trod_rd {H : Type} {enc : TypeId × Value → H} {P : Program} {w : World} {c : Cx} (hm : c.m = []) (hT : c.T = []) (hok : ∀ b e, c.ok b e) {spare : Nat → Bool} {held : Bool} :
    ∀ (fuel n : Nat) (t : TypeId) (cs : List Value) (d : DataW H) (ps : List MemPlace), plainTy P n t = true → DataW.trod enc P w 0 spare held fuel t cs = some (d, ps) → Rd w c d cs ∧
      (P.underlying t = some .bool ∨ (∃ k, P.underlying t = some (.int k)) ∨ P.underlying t = some .string ∨ (∃ e, P.underlying t = some (.slice e)) ∨ cs.length = P.cellsOf t) := by
  intro fuel
  induction fuel with
  | zero => intro n t cs d ps _ h; simp [DataW.trod] at h
  | succ fuel ih =>
    intro n t cs d ps hp h
    cases n with
    | zero => simp [plainTy] at hp
    | succ n =>
      simp only [plainTy] at hp
      cases hu : P.underlying t with
      | none => rw [hu] at hp; cases hp
      | some u =>
        rw [hu] at hp
        cases u <;> simp only [Bool.false_eq_true] at hp
        · -- bool
          refine ⟨?_, .inl rfl⟩
          have hcase : ∃ b, cs = [.bool b] ∧ d = .lit (.bool b) := by
            cases cs with
            | nil => simp [DataW.trod, hu] at h
            | cons v r => cases r <;> cases v <;> simp [DataW.trod, hu] at h ⊢; exact h.1.symm
          obtain ⟨b, rfl, rfl⟩ := hcase
          refine ⟨rfl, fun q hq => by simp [cellsD] at hq; subst hq; rfl, ?_⟩
          simp only [cellsD, VRs]
          exact ⟨⟨_, rfl, VR_val rfl⟩, trivial⟩
        · rename_i k
          refine ⟨?_, .inr (.inl ⟨k, rfl⟩)⟩
          have hcase : ∃ x, cs = [.int k x] ∧ d = .lit (.int k x) := by
            cases cs with
            | nil => simp [DataW.trod, hu] at h
            | cons v r => cases r <;> cases v <;> simp [DataW.trod, hu] at h ⊢; obtain ⟨⟨h1, _⟩, h2, _⟩ := h; exact ⟨_, ⟨h1, rfl⟩, h2.symm⟩
          obtain ⟨x, rfl, rfl⟩ := hcase
          refine ⟨rfl, fun q hq => by simp [cellsD] at hq; subst hq; rfl, ?_⟩
          simp only [cellsD, VRs]
          exact ⟨⟨_, rfl, VR_val rfl⟩, trivial⟩
        · refine ⟨?_, .inr (.inr (.inl rfl))⟩
          have hcase : ∃ x, cs = [.string x] ∧ d = .lit (.string x.data.toList) := by
            cases cs with
            | nil => simp [DataW.trod, hu] at h
            | cons v r => cases r <;> cases v <;> simp [DataW.trod, hu] at h ⊢; exact h.2.1.symm
          obtain ⟨x, rfl, rfl⟩ := hcase
          refine ⟨rfl, fun q hq => by simp [cellsD] at hq; subst hq; rfl, ?_⟩
          simp only [cellsD, VRs]
          exact ⟨⟨_, rfl, VR_val rfl⟩, trivial⟩
        · -- a slice
          rename_i e
          refine ⟨?_, .inr (.inr (.inr (.inl ⟨e, rfl⟩)))⟩
          have hcase : (cs = [.slice none 0 0] ∧ d = .nil) ∨ ∃ a len cap, cs = [.slice (some a) len cap] ∧ len ≤ cap ∧ ∃ elems rest,
              (List.range len).mapM (fun i => (w.cells? 0 (a.add (i * P.cellsOf e)) (P.cellsOf e)).bind (DataW.trod enc P w 0 spare held fuel e)) = some elems ∧
              d = .slice (elems.map (·.1)) rest := by
            cases cs with
            | nil => simp [DataW.trod, hu] at h
            | cons v r =>
              cases r with
              | cons v2 r2 => cases v <;> simp [DataW.trod, hu] at h
              | nil =>
                cases v <;> try (simp [DataW.trod, hu] at h; done)
                rename_i a len cap
                cases a with
                | none =>
                  cases len <;> cases cap <;> simp [DataW.trod, hu] at h
                  exact .inl ⟨rfl, h.1.symm⟩
                | some a =>
                  simp only [DataW.trod, hu] at h
                  split at h <;> first | (cases h; done) | skip
                  rename_i hc
                  obtain ⟨_, hlc, _⟩ := hc
                  cases hm1 : (List.range len).mapM (fun i => (w.cells? 0 (a.add (i * P.cellsOf e)) (P.cellsOf e)).bind (DataW.trod enc P w 0 spare held fuel e)) with
                  | none => rw [hm1] at h; cases h
                  | some elems =>
                    rw [hm1] at h
                    simp only [Option.bind_some] at h
                    rw [Option.map_eq_some_iff] at h
                    obtain ⟨rest, _, h2⟩ := h
                    cases h2
                    exact .inr ⟨a, len, cap, rfl, hlc, elems, _, hm1, rfl⟩
          rcases hcase with ⟨rfl, rfl⟩ | ⟨a, len, cap, rfl, hlc, elems, rest, hel, rfl⟩
          · refine ⟨rfl, fun q hq => by simp [cellsD] at hq; subst hq; rfl, ?_⟩
            simp only [cellsD, VRs]
            exact ⟨⟨_, rfl, by simp only [VR]; exact .inl ⟨trivial, trivial, trivial, rfl⟩⟩, trivial⟩
          · obtain ⟨hlen, hat⟩ := mapM_opt hel
            simp at hlen
            -- the cells of each element
            have hcells : ∀ i, i < len → ∃ ci x, w.cells? 0 (a.add (i * P.cellsOf e)) (P.cellsOf e) = some ci ∧ elems[i]? = some x ∧ DataW.trod enc P w 0 spare held fuel e ci = some x := by
              intro i hi
              obtain ⟨x, h1, h2⟩ := hat i i (by simp [hi])
              rw [Option.bind_eq_some_iff] at h2
              obtain ⟨ci, h3, h4⟩ := h2
              exact ⟨ci, x, h3, h1, h4⟩
            let css : List (List Value) := (List.range len).map fun i => (w.cells? 0 (a.add (i * P.cellsOf e)) (P.cellsOf e)).getD []
            have hcss : ∀ i, i < len → css[i]? = some ((w.cells? 0 (a.add (i * P.cellsOf e)) (P.cellsOf e)).getD []) := fun i hi => by simp [css, hi]
            have hsz : ∀ cc, cc ∈ css → cc.length = P.cellsOf e := by
              intro cc hcc
              simp only [css, List.mem_map, List.mem_range] at hcc
              obtain ⟨i, hi, rfl⟩ := hcc
              obtain ⟨ci, x, h1, _, _⟩ := hcells i hi
              rw [h1]; exact (cells?_get h1).1
            obtain ⟨h5, h6, h7⟩ := rd_rows (w := w) (c := c) (sz := P.cellsOf e) (ds := elems.map (·.1)) (css := css) (by simp [css, hlen]) (fun i d' cs' hd hc => by
              have hi : i < len := by
                have := (List.getElem?_eq_some_iff.1 hc).1; simpa [css] using this
              obtain ⟨ci, x, h1, h2, h3⟩ := hcells i hi
              rw [List.getElem?_map, h2] at hd
              simp at hd
              rw [hcss i hi, h1] at hc
              simp at hc
              subst hc; subst hd
              exact ⟨(ih n e ci x.1 x.2 hp h3).1, (cells?_get h1).1⟩)
            have hlen2 : (cellsDs (elems.map (·.1))).length = len * P.cellsOf e := by rw [h5]; simp [hlen]
            -- where the cells lie
            have hlie : ∀ j, j < len * P.cellsOf e → ∃ v, a.spot = none ∧ w.cell? ⟨a.block, a.off + j, none⟩ = some v ∧ css.flatten[j]? = some v := by
              intro j hj
              have hpos : 0 < P.cellsOf e := by
                rcases Nat.eq_zero_or_pos (P.cellsOf e) with h0 | h0
                · rw [h0] at hj; simp at hj
                · exact h0
              have hi : j / P.cellsOf e < len := (Nat.div_lt_iff_lt_mul hpos).2 hj
              have hr : j % P.cellsOf e < P.cellsOf e := Nat.mod_lt _ hpos
              obtain ⟨ci, x, h1, _, _⟩ := hcells _ hi
              obtain ⟨g1, g2⟩ := cells?_get h1
              have hci : ∃ v, ci[j % P.cellsOf e]? = some v := ⟨ci[j % P.cellsOf e], by simp [g1, hr]⟩
              obtain ⟨v, hv⟩ := hci
              have hcell : w.cell? ((a.add (j / P.cellsOf e * P.cellsOf e)).add (j % P.cellsOf e)) = some v := by rw [g2 _ hr, hv]
              have hfl : css.flatten[j]? = some v := by
                have := flatten_get (sz := P.cellsOf e) hsz (hcss _ hi) hr
                rw [Nat.div_add_mod'] at this
                rw [this, h1]; exact hv
              by_cases hs : a.spot = none
              · refine ⟨v, hs, ?_, hfl⟩
                have e1 : ∀ k, a.add k = ⟨a.block, a.off + k, none⟩ := fun k => by
                  cases a with
                  | mk b o s => simp only at hs; subst hs; exact addr_add b o k
                rw [e1, addr_add] at hcell
                have : a.off + j / P.cellsOf e * P.cellsOf e + j % P.cellsOf e = a.off + j := by
                  rw [Nat.add_assoc, Nat.div_add_mod']
                rw [this] at hcell; exact hcell
              · -- a place within no cell: the first cell couldn't be read
                exfalso
                have h0 : 0 < len := Nat.lt_of_le_of_lt (Nat.zero_le _) hi
                obtain ⟨c0, x0, q1, _, _⟩ := hcells 0 h0
                obtain ⟨q2, q3⟩ := cells?_get q1
                have := q3 0 hpos
                have e0 : (a.add (0 * P.cellsOf e)).add 0 = a := by simp [Addr.add]
                rw [e0] at this
                have hv0 : ∃ v0, c0[0]? = some v0 := ⟨c0[0], by simp [q2, hpos]⟩
                obtain ⟨v0, hv0⟩ := hv0
                rw [hv0] at this
                unfold World.cell? at this
                have hsome : a.spot.isSome = true := by
                  cases hsp : a.spot with
                  | none => exact absurd hsp hs
                  | some _ => rfl
                split at this
                · rw [if_pos hsome] at this; cases this
                · cases this
            refine ⟨rfl, fun q hq => by simp [cellsD] at hq; subst hq; rfl, ?_⟩
            simp only [cellsD, VRs]
            refine ⟨⟨_, rfl, ?_⟩, trivial⟩
            simp only [VR]
            refine .inr ⟨a, cap, by simp [hlen], by simpa [hlen] using hlc, ?_, trivial, h6, VRs_mk fun j p hp' => ?_⟩
            · rw [hlen2]
              by_cases h0 : len * P.cellsOf e = 0
              · exact .inl h0
              · obtain ⟨v, hs, hv, _⟩ := hlie 0 (Nat.pos_of_ne_zero h0)
                have hblt : a.block < w.heap.size := by
                  unfold World.cell? at hv
                  split at hv
                  · rename_i hb; exact (Array.getElem?_eq_some_iff.1 hb).1
                  · cases hv
                exact .inr ⟨hs, hblt, by rw [hm]; simp, fun i k h => by rw [hT] at h; simp at h, hok _ _⟩
            · have hj : j < len * P.cellsOf e := by
                have := (List.getElem?_eq_some_iff.1 hp').1
                rw [hlen2] at this; exact this
              obtain ⟨v, _, hv, hf⟩ := hlie j hj
              obtain ⟨v', h8, h9⟩ := VRs_get h7 hp'
              rw [hf] at h8; cases h8
              exact ⟨v, hv, h9⟩
        · -- an array
          rename_i k e
          simp only [Bool.and_eq_true, beq_iff_eq] at hp
          obtain ⟨hpe, hsize⟩ := hp
          have hcase : cs.length = P.cellsOf t ∧ ∃ xs, (List.range k).mapM (fun i => DataW.trod enc P w 0 spare held fuel e ((cs.drop (i * P.cellsOf e)).take (P.cellsOf e))) = some xs ∧ d = .agg (xs.map (·.1)) := by
            have h' : (if cs.length = P.cellsOf t then ((List.range k).mapM fun i => DataW.trod enc P w 0 spare held fuel e ((cs.drop (i * P.cellsOf e)).take (P.cellsOf e))).map fun xs => (.agg (xs.map (·.1)), xs.flatMap (·.2)) else none) = some (d, ps) := by
              simpa only [DataW.trod, hu] using h
            split at h' <;> first | (cases h'; done) | skip
            rename_i hl
            rw [Option.map_eq_some_iff] at h'
            obtain ⟨xs, h1, h2⟩ := h'
            cases h2
            exact ⟨hl, xs, h1, rfl⟩
          obtain ⟨hl, xs, hxs, rfl⟩ := hcase
          refine ⟨?_, .inr (.inr (.inr (.inr hl)))⟩
          obtain ⟨hlen, hat⟩ := mapM_opt hxs
          simp at hlen
          let css : List (List Value) := (List.range k).map fun i => (cs.drop (i * P.cellsOf e)).take (P.cellsOf e)
          have hparts : ∀ i, i < k → ((cs.drop (i * P.cellsOf e)).take (P.cellsOf e)).length = P.cellsOf e := by
            intro i hi
            have : (i + 1) * P.cellsOf e ≤ k * P.cellsOf e := Nat.mul_le_mul_right _ hi
            rw [Nat.add_mul, Nat.one_mul] at this
            rw [List.length_take, List.length_drop, hl, hsize]; omega
          obtain ⟨h5, h6, h7⟩ := rd_rows (w := w) (c := c) (sz := P.cellsOf e) (ds := xs.map (·.1)) (css := css) (by simp [css, hlen]) (fun i d' cs' hd hc => by
            have hi : i < k := by
              have := (List.getElem?_eq_some_iff.1 hc).1; simpa [css] using this
            obtain ⟨x, h1, h2⟩ := hat i i (by simp [hi])
            rw [List.getElem?_map, h1] at hd
            simp at hd
            simp [css, hi] at hc
            subst hc; subst hd
            exact ⟨(ih n e _ x.1 x.2 hpe h2).1, hparts i hi⟩)
          have hfl : ∀ j, j < k * P.cellsOf e → css.flatten[j]? = cs[j]? := by
            intro j hj
            have hpos : 0 < P.cellsOf e := by
              rcases Nat.eq_zero_or_pos (P.cellsOf e) with h0 | h0
              · rw [h0] at hj; simp at hj
              · exact h0
            have hi : j / P.cellsOf e < k := (Nat.div_lt_iff_lt_mul hpos).2 hj
            have hr : j % P.cellsOf e < P.cellsOf e := Nat.mod_lt _ hpos
            have := flatten_get (sz := P.cellsOf e) (css := css) (fun c hc => by
              simp only [css, List.mem_map, List.mem_range] at hc
              obtain ⟨i, hi, rfl⟩ := hc
              exact hparts i hi) (show css[j / P.cellsOf e]? = some _ from by simp [css, hi]; rfl) hr
            rw [Nat.div_add_mod'] at this
            rw [this, List.getElem?_take, if_pos hr, List.getElem?_drop, Nat.div_add_mod']
          have hle : (xs.map (·.1)).length = k := by simp [hlen]
          refine ⟨by simp only [cellsD]; rw [h5, hle, hl, hsize], by simpa only [cellsD] using h6, ?_⟩
          simp only [cellsD]
          refine VRs_congr h7 fun j hj => hfl j (by rw [h5, hle] at hj; exact hj)
        · -- a struct
          rename_i fs
          simp only [Bool.and_eq_true] at hp
          obtain ⟨hpf, htile⟩ := hp
          have hcase : cs.length = P.cellsOf t ∧ ∃ xs, fs.toList.mapM (fun f => DataW.trod enc P w 0 spare held fuel f.type ((cs.drop f.offset).take (P.cellsOf f.type))) = some xs ∧ d = .agg (xs.map (·.1)) := by
            have h' : (if cs.length = P.cellsOf t then (fs.toList.mapM fun f => DataW.trod enc P w 0 spare held fuel f.type ((cs.drop f.offset).take (P.cellsOf f.type))).map fun xs => (.agg (xs.map (·.1)), xs.flatMap (·.2)) else none) = some (d, ps) := by
              simpa only [DataW.trod, hu] using h
            split at h' <;> first | (cases h'; done) | skip
            rename_i hl
            rw [Option.map_eq_some_iff] at h'
            obtain ⟨xs, h1, h2⟩ := h'
            cases h2
            exact ⟨hl, xs, h1, rfl⟩
          obtain ⟨hl, xs, hxs, rfl⟩ := hcase
          refine ⟨?_, .inr (.inr (.inr (.inr hl)))⟩
          -- field by field
          have key : ∀ (gs : List Field) (off : Nat) (ys : List (DataW H × List MemPlace)), (∀ f, f ∈ gs → plainTy P n f.type = true) → tilesFrom P gs off (P.cellsOf t) = true →
              gs.mapM (fun f => DataW.trod enc P w 0 spare held fuel f.type ((cs.drop f.offset).take (P.cellsOf f.type))) = some ys →
              off + (cellsDs (ys.map (·.1))).length = P.cellsOf t ∧ Leafs (cellsDs (ys.map (·.1))) ∧ VRs w c (cellsDs (ys.map (·.1))) (fun i => cs[off + i]?) := by
            intro gs
            induction gs with
            | nil =>
              intro off ys _ ht hm'
              simp at hm'; subst hm'
              simp only [tilesFrom, beq_iff_eq] at ht
              exact ⟨by simpa [cellsDs] using ht, fun q hq => by simp [cellsDs] at hq, by simp only [List.map_nil, cellsDs, VRs]⟩
            | cons f gs ihg =>
              intro off ys hpl ht hm'
              simp only [tilesFrom, Bool.and_eq_true, beq_iff_eq] at ht
              obtain ⟨ho, ht⟩ := ht
              rw [List.mapM_cons] at hm'
              cases hf : DataW.trod enc P w 0 spare held fuel f.type ((cs.drop f.offset).take (P.cellsOf f.type)) with
              | none => rw [hf] at hm'; cases hm'
              | some x =>
                rw [hf] at hm'
                cases hg : gs.mapM (fun f => DataW.trod enc P w 0 spare held fuel f.type ((cs.drop f.offset).take (P.cellsOf f.type))) with
                | none => rw [hg] at hm'; cases hm'
                | some zs =>
                  rw [hg] at hm'
                  simp at hm'
                  subst hm'
                  obtain ⟨⟨h1, h2, h3⟩, _⟩ := ih n f.type _ x.1 x.2 (hpl f (by simp)) hf
                  obtain ⟨h4, h5, h6⟩ := ihg (off + P.cellsOf f.type) zs (fun g hg => hpl g (by simp [hg])) ht hg
                  have hlf : ((cs.drop f.offset).take (P.cellsOf f.type)).length = P.cellsOf f.type := by
                    simp; omega
                  rw [hlf] at h1
                  refine ⟨by simp only [List.map_cons, cellsDs, List.length_append]; omega, fun q hq => ?_, ?_⟩
                  · simp only [List.map_cons, cellsDs, List.mem_append] at hq
                    exact hq.elim (h2 q) (h5 q)
                  · simp only [List.map_cons, cellsDs]
                    refine VRs_append (VRs_congr h3 fun i hi => ?_) (VRs_congr h6 fun i hi => ?_)
                    · rw [List.getElem?_take, if_pos (by omega), List.getElem?_drop, ho]
                    · rw [h1, Nat.add_assoc]
          obtain ⟨h4, h5, h6⟩ := key fs.toList 0 xs (fun f hf => List.all_eq_true.1 hpf f hf) htile hxs
          refine ⟨by simp only [cellsD]; omega, by simpa only [cellsD] using h5, ?_⟩
          simp only [cellsD]
          exact VRs_congr h6 fun i hi => by rw [Nat.zero_add]

end Go.Ab
