/- Layer 20: a place of wards, retirements and truths, read off a law's argument. -/
import Derived.Test.YtnfmpdnmcdbkdaaAb14
import Derived.Test.YtnfmpdnmcdbkdaaWardSpec
namespace Go.Proofs.Ytnfmpdnmcdbkdaa
open Go.Ab

theorem isPl_mk {zs : List Int} {rs os us : List Bool} (h1 : zs.length = 8) (h2 : rs.length = 8) (h3 : os.length = 8) (h4 : us.length = 8) :
    IsPl (zs.map (fun z => .val (.int .i64 z)) ++ (rs.map (fun b => .val (.bool b)) ++ (os.map (fun b => .val (.bool b)) ++ us.map (fun b => .val (.bool b))))) (fun i => zs.getD i 0) (fun i => rs.getD i false) (fun i => os.getD i false) (fun i => us.getD i false) where
  len := by simp; omega
  w := fun i hi => by
    rw [List.getElem?_append_left (by simp; omega)]
    have : i < zs.length := by omega
    simp [vi, this]
  r := fun i hi => by
    rw [List.getElem?_append_right (by simp; omega), List.getElem?_append_left (by simp; omega)]
    have : i < rs.length := by omega
    simp [vb, this, h1]
  ro := fun i hi => by
    rw [List.getElem?_append_right (by simp; omega), List.getElem?_append_right (by simp; omega), List.getElem?_append_left (by simp; omega)]
    have : i < os.length := by omega
    simp [vb, h1, h2, show 16 + i - 8 - 8 = i by omega, this]
  up := fun i hi => by
    rw [List.getElem?_append_right (by simp; omega), List.getElem?_append_right (by simp; omega), List.getElem?_append_right (by simp; omega)]
    have : i < us.length := by omega
    simp [vb, h1, h2, h3, show 24 + i - 8 - 8 - 8 = i by omega, this]
  pure := Pures_iff.2 fun p hp => by
    simp only [List.mem_append, List.mem_map] at hp
    rcases hp with ⟨_, _, rfl⟩ | ⟨_, _, rfl⟩ | ⟨_, _, rfl⟩ | ⟨_, _, rfl⟩ <;> trivial

theorem place_of {H : Type} {P : Program} {n : Nat} {t t1 t2 t3 t4 e b : TypeId} {fs : Array Field} {d : DataW H} (hu : P.underlying t = some (.struct fs)) (hf : fs.toList.map (·.type) = [t1, t2, t3, t4])
    (u1 : P.underlying t1 = some (.array 8 e)) (u2 : P.underlying t2 = some (.array 8 b)) (u3 : P.underlying t3 = some (.array 8 b)) (u4 : P.underlying t4 = some (.array 8 b))
    (ue : P.underlying e = some (.int .i64)) (ub : P.underlying b = some .bool) (h : Fits P n t d) : ∃ W R ro up, IsPl (cellsD d) W R ro up := by
  obtain ⟨m, xs, _, rfl, hl, hx⟩ := fits_struct hu h
  have hs : fs.toList.length = 4 := by have := congrArg List.length hf; simpa using this
  obtain ⟨f1, f2, f3, f4, hfs⟩ := list_four hs
  rw [hfs] at hf
  simp only [List.map_cons, List.map_nil, List.cons.injEq, and_true] at hf
  obtain ⟨rfl, rfl, rfl, rfl⟩ := hf
  obtain ⟨d1, d2, d3, d4, rfl⟩ := list_four (l := xs) (by rw [hl]; simpa using hs)
  have g : ∀ i : Nat, fs[i]? = [f1, f2, f3, f4][i]? := fun i => by rw [← hfs]; simp
  obtain ⟨zs, a1, b1, _⟩ := fits_ints u1 ue (hx 0 f1 d1 (by rw [g]; rfl) rfl)
  obtain ⟨rs, a2, b2⟩ := fits_bools u2 ub (hx 1 f2 d2 (by rw [g]; rfl) rfl)
  obtain ⟨os, a3, b3⟩ := fits_bools u3 ub (hx 2 f3 d3 (by rw [g]; rfl) rfl)
  obtain ⟨us, a4, b4⟩ := fits_bools u4 ub (hx 3 f4 d4 (by rw [g]; rfl) rfl)
  refine ⟨fun i => zs.getD i 0, fun i => rs.getD i false, fun i => os.getD i false, fun i => us.getD i false, ?_⟩
  rw [show cellsD (.agg [d1, d2, d3, d4] : DataW H) = cellsD d1 ++ (cellsD d2 ++ (cellsD d3 ++ cellsD d4)) by simp [cellsD, cellsDs], b1, b2, b3, b4]
  exact isPl_mk a1 a2 a3 a4

end Go.Proofs.Ytnfmpdnmcdbkdaa
