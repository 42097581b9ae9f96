import Derived.Test.YtpfjfldagldgnaaAb0to4
namespace Go.Ab
theorem zni {P : Program} {w : World} {k : IntKind} {i : Int} : (asIntOf (.int k i)).run P w = .ok (k, i) w := rfl
theorem zuk {P : Program} {w : World} {t e : TypeId} {a : Addr} {len cap sz : Nat} {k : IntKind} {i : Int} (ht : P.underlying t = some (.slice e))
   (hs : tySz P e = some sz) (h0 : 0 ≤ i) (h1 : i < len) :
   (Instr.indexAt t (.slice (some a) len cap) (.int k i)).run P w = .ok (.pointer (some (a.add (i.toNat * sz)))) w := by
 unfold Instr.indexAt
 simp only [Sem.run_bind, zni, Result.andThen_ok, run_underlying ht, Sem.run_pure]
 rw [if_pos ⟨h0, h1⟩]
 simp only [Sem.run_bind, run_sizeOf hs, Result.andThen_ok, Sem.run_pure]
theorem zuo {P : Program} {w : World} {t e : TypeId} {a : Addr} {n sz : Nat} {k : IntKind} {i : Int} (ht : P.underlying t = some (.array n e))
   (hs : tySz P e = some sz) (h0 : 0 ≤ i) (h1 : i < n) :
   (Instr.indexAt t (.pointer (some a)) (.int k i)).run P w = .ok (.pointer (some (a.add (i.toNat * sz)))) w := by
 unfold Instr.indexAt
 simp only [Sem.run_bind, zni, Result.andThen_ok, run_underlying ht, Sem.run_pure, Instr.sureAddr]
 rw [if_pos ⟨h0, h1⟩]
 simp only [Sem.run_bind, run_sizeOf hs, Result.andThen_ok, Sem.run_pure]
theorem zq6 {w : World} {c : Cx} {H : List AObj} {ts : List Bool} (g : Good w c H ts) {a : Addr} {cs : List PV} (hf : Foot w c a cs.length) (hl : Leafs cs)
   (hc : VRs w c cs (fun i => w.cell? ⟨a.block, a.off + i, none⟩)) (d : Nat) : VR w c (.fz (cs.drop d)) (.pointer (some (a.add d))) := by
 simp only [VR]
 refine ⟨a.add d, rfl, ?_, fun q hq => hl q (List.mem_of_mem_drop hq), ?_⟩
 · by_cases hd : d ≤ cs.length
   · exact hf.le g d (by simp; omega)
   · exact .inl (by simp; omega)
 · refine z2d fun i p hp => ?_
   rw [List.getElem?_drop] at hp
   obtain ⟨v, h1, h2⟩ := z0s (zwy hf hc) hp
   have hlt := (List.getElem?_eq_some_iff.1 hp).1
   rcases hf with hf | ⟨hs, _⟩
   · omega
   · have e : ∀ j, a.add j = ⟨a.block, a.off + j, none⟩ := fun j => by
       cases a with
       | mk b o s => simp only at hs; subst hs; exact z7d b o j
     rw [e] at h1 ⊢
     refine ⟨v, ?_, h2⟩
     show w.cell? ⟨a.block, a.off + d + i, none⟩ = some v
     rw [Nat.add_assoc]; exact h1
theorem z1lk {P : Program} {o : Oper} {σ : AS} {t e : TypeId} {x y : Operand} {len sz : Nat} {cs : List PV} {tl : Tail} {k : IntKind} {i : Int} (ho : o.op = .indexAddr t x y)
   (ht : P.underlying t = some (.slice e)) (hs : tySz P e = some sz) (hx : σ.eval x = .tr len cs tl) (hy : σ.eval y = .val (.int k i)) (h0 : 0 ≤ i) (h1 : i < len) :
   QStep P o σ (.fz (cs.drop (i.toNat * sz))) :=
 q_run fun w c act hr => by
   have hv := hr.2.eval x
   have e2 := z0r hr.2 hy
   rw [hx] at hv
   simp only [VR] at hv
   rcases hv with ⟨_, hl, _⟩ | ⟨a, cap, hv, _, hf, _, hl, hc⟩
   · omega
   · exact ⟨.pointer (some (a.add (i.toNat * sz))), by simp only [execOp, ho, hv, e2, Sem.run_bind, zuk ht hs h0 h1, Result.andThen_ok]; rfl,
       zq6 hr.1 hf hl hc _⟩
theorem z1kr {P : Program} {o : Oper} {σ : AS} {t e : TypeId} {x y : Operand} {b off len cap sz : Nat} {k : IntKind} {i : Int} (ho : o.op = .indexAddr t x y)
   (ht : P.underlying t = some (.slice e)) (hs : tySz P e = some sz) (hx : σ.eval x = .sl b off len cap) (hy : σ.eval y = .val (.int k i)) (h0 : 0 ≤ i) (h1 : i < len) :
   QStep P o σ (.ptr b (off + i.toNat * sz)) :=
 q_run fun w c act hr => by
   have hv := hr.2.eval x
   have e2 := z0r hr.2 hy
   rw [hx] at hv
   simp only [VR] at hv
   rcases hv with ⟨_, hv⟩ | ⟨kk, cap', off', hk, hv, h0', _⟩
   · omega
   have hoo : off' = off := h0'.resolve_left (fun h => by omega)
   rw [hoo] at hv
   refine ⟨.pointer (some ⟨kk, off + i.toNat * sz, none⟩), ?_, ?_⟩
   · simp only [execOp, ho, hv, e2, Sem.run_bind, zuk ht hs h0 h1, Result.andThen_ok, z7d]; rfl
   · simp only [VR]; exact ⟨kk, hk, rfl⟩
theorem z1ji {P : Program} {o : Oper} {σ : AS} {t e : TypeId} {x y : Operand} {b off n sz : Nat} {k : IntKind} {i : Int} (ho : o.op = .indexAddr t x y)
   (ht : P.underlying t = some (.array n e)) (hs : tySz P e = some sz) (hx : σ.eval x = .ptr b off) (hy : σ.eval y = .val (.int k i)) (h0 : 0 ≤ i) (h1 : i < n) :
   QStep P o σ (.ptr b (off + i.toNat * sz)) :=
 q_run fun w c act hr => by
   have hv := hr.2.eval x
   have e2 := z0r hr.2 hy
   rw [hx] at hv
   simp only [VR] at hv
   obtain ⟨kk, hk, hv⟩ := hv
   refine ⟨.pointer (some ⟨kk, off + i.toNat * sz, none⟩), ?_, ?_⟩
   · simp only [execOp, ho, hv, e2, Sem.run_bind, zuo ht hs h0 h1, Result.andThen_ok, z7d]; rfl
   · simp only [VR]; exact ⟨kk, hk, rfl⟩
theorem z1la {P : Program} {o : Oper} {σ : AS} {t e : TypeId} {x y : Operand} {n sz : Nat} {cs : List PV} {k : IntKind} {i : Int} (ho : o.op = .indexAddr t x y)
   (ht : P.underlying t = some (.array n e)) (hs : tySz P e = some sz) (hx : σ.eval x = .fz cs) (hy : σ.eval y = .val (.int k i)) (h0 : 0 ≤ i) (h1 : i < n) :
   QStep P o σ (.fz (cs.drop (i.toNat * sz))) :=
 q_run fun w c act hr => by
   have hv := hr.2.eval x
   have e2 := z0r hr.2 hy
   rw [hx] at hv
   simp only [VR] at hv
   obtain ⟨a, hv, hf, hl, hc⟩ := hv
   exact ⟨.pointer (some (a.add (i.toNat * sz))), by simp only [execOp, ho, hv, e2, Sem.run_bind, zuo ht hs h0 h1, Result.andThen_ok]; rfl,
       zq6 hr.1 hf hl hc _⟩
theorem z1cz {P : Program} {o : Oper} {σ : AS} {t : TypeId} {x : Operand} {i fo : Nat} {cs : List PV} (ho : o.op = .fieldAddr t x i) (hf : z16p P t i = some fo)
   (hx : σ.eval x = .fz cs) : QStep P o σ (.fz (cs.drop fo)) :=
 q_run fun w c act hr => by
   have hv := hr.2.eval x
   rw [hx] at hv
   simp only [VR] at hv
   obtain ⟨a, e, hft, hl, hc⟩ := hv
   refine ⟨.pointer (some (a.add fo)), ?_, zq6 hr.1 hft hl hc _⟩
   simp only [execOp, ho, e, Sem.run_bind, z1aa hf, Result.andThen_ok]; rfl
def Part (P : Program) (t : TypeId) (cs : List PV) (off : Nat) (q : PV) : Prop :=
 ∀ w c (vs : Array Value), vs.size = cs.length → Leafs cs → VRs w c cs (fun i => vs[i]?) → ∃ u, (part t vs off).run P w = .ok u w ∧ VR w c q u
theorem z1p7 {P : Program} {t : TypeId} {cs qs : List PV} {off n : Nat} (ha : tyAgg P t = some true) (hn : tySz P t = some n)
   (hq : (cs.drop off).take n = qs) (hlen : qs.length = n) : Part P t cs off (.agg qs) := by
 intro w c vs hv hl h
 refine ⟨.agg (vs.extract off (off + n)), by simp only [part, Sem.run_bind, zp8 ha, Result.andThen_ok, if_true, run_sizeOf hn]; rfl, ?_⟩
 simp only [VR]
 have hle : off + n ≤ cs.length ∨ n = 0 := by
   have : ((cs.drop off).take n).length = n := by rw [hq, hlen]
   simp at this; omega
 refine ⟨_, rfl, by simp [hlen]; omega, fun q hq' => hl q (List.mem_of_mem_drop (List.mem_of_mem_take (hq ▸ hq'))), z2d fun i p hp => ?_⟩
 rw [← hq, List.getElem?_take] at hp
 split at hp
 · rename_i hi
   rw [List.getElem?_drop] at hp
   obtain ⟨u, h1, h2⟩ := z0s h hp
   refine ⟨u, ?_, h2⟩
   rw [Array.getElem?_extract, if_pos (by omega)]
   exact h1
 · cases hp
theorem z1o2 {P : Program} {t : TypeId} {cs : List PV} {q : PV} {off : Nat} (ha : tyAgg P t = some false) (hq : cs[off]? = some q) : Part P t cs off q := by
 intro w c vs hv _ h
 obtain ⟨u, h1, h2⟩ := z0s h hq
 exact ⟨u, by simp only [part, Sem.run_bind, zp8 ha, Result.andThen_ok, Bool.false_eq_true, if_false, h1]; rfl, h2⟩
theorem q_fld {P : Program} {o : Oper} {σ : AS} {t : TypeId} {x : Operand} {i : Nat} {cs : List PV} {q : PV} {fs : Array Field} {f : Field} (ho : o.op = .field t x i)
   (ht : P.underlying t = some (.struct fs)) (hf : fs[i]? = some f) (hx : σ.eval x = .agg cs) (hp : Part P f.type cs f.offset q) : QStep P o σ q :=
 q_run fun w c act hr => by
   have hv := hr.2.eval x
   rw [hx] at hv
   simp only [VR] at hv
   obtain ⟨vs, e, h1, hl, h2⟩ := hv
   obtain ⟨u, h3, h4⟩ := hp w c vs h1 hl h2
   refine ⟨u, ?_, h4⟩
   simp only [execOp, ho, e, Instr.field, Sem.run_bind, run_underlying ht, Result.andThen_ok, hf, asAgg, Sem.run_pure, h3]
theorem q_idx {P : Program} {o : Oper} {σ : AS} {t e : TypeId} {x y : Operand} {n sz : Nat} {k : IntKind} {i : Int} {cs : List PV} {q : PV} (ho : o.op = .index t x y)
   (ht : P.underlying t = some (.array n e)) (hs : tySz P e = some sz) (hx : σ.eval x = .agg cs) (hy : σ.eval y = .val (.int k i)) (h0 : 0 ≤ i) (h1 : i < n)
   (hp : Part P e cs (i.toNat * sz) q) : QStep P o σ q :=
 q_run fun w c act hr => by
   have hv := hr.2.eval x
   have e2 := z0r hr.2 hy
   rw [hx] at hv
   simp only [VR] at hv
   obtain ⟨vs, ev, hn, hl, h2⟩ := hv
   obtain ⟨u, h3, h4⟩ := hp w c vs hn hl h2
   refine ⟨u, ?_, h4⟩
   simp only [execOp, ho, ev, e2, Instr.index, Sem.run_bind, zni, run_underlying ht, Result.andThen_ok]
   rw [if_pos ⟨h0, h1⟩]
   simp only [Sem.run_bind, run_sizeOf hs, Result.andThen_ok, h3, Sem.run_pure]
theorem z1p6 {P : Program} {o : Oper} {σ : AS} {t : TypeId} {x y : Operand} {k : IntKind} {i : Int} {s : ByteArray} {b : UInt8} (ho : o.op = .index t x y)
   (ht : P.underlying t = some .string) (hx : σ.eval x = .val (.string s)) (hy : σ.eval y = .val (.int k i)) (h0 : 0 ≤ i) (hb : s[i.toNat]? = some b) :
   QStep P o σ (.val (.int .u8 b.toNat)) :=
 q_run fun w c act hr => by
   have e1 := z0r hr.2 hx
   have e2 := z0r hr.2 hy
   refine ⟨_, ?_, z4f rfl⟩
   simp only [execOp, ho, e1, e2, Instr.index, Sem.run_bind, zni, run_underlying ht, Result.andThen_ok]
   rw [if_pos h0, hb]; rfl
theorem z1mu {P : Program} {o : Oper} {σ : AS} {x : Operand} {i : Nat} {ps : List PV} {q : PV} (ho : o.op = .extract x i) (hx : σ.eval x = .tup ps)
   (hq : ps[i]? = some q) : QStep P o σ q :=
 q_run fun w c act hr => by
   have hv := hr.2.eval x
   rw [hx] at hv
   simp only [VR] at hv
   obtain ⟨vs, e, h1, h2⟩ := hv
   obtain ⟨u, h3, h4⟩ := z0s h2 hq
   exact ⟨u, by simp [execOp, ho, e, Instr.extract, h3], h4⟩
theorem z1ej {P : Program} {o : Oper} {σ : AS} {x : Operand} {b off : Nat} (ho : o.op = .nilCheck x) (hx : σ.eval x = .ptr b off) : QStep P o σ (.ptr b off) :=
 q_run fun w c act hr => by
   have hv := hr.2.eval x
   rw [hx] at hv
   have hv' := hv
   simp only [VR] at hv
   obtain ⟨k, _, e⟩ := hv
   exact ⟨act.eval x, by simp only [execOp, ho, e]; rfl, hv'⟩
theorem z1g6 {P : Program} {o : Oper} {σ : AS} {x : Operand} {cs : List PV} (ho : o.op = .nilCheck x) (hx : σ.eval x = .fz cs) : QStep P o σ (.fz cs) :=
 q_run fun w c act hr => by
   have hv := hr.2.eval x
   rw [hx] at hv
   have hv' := hv
   simp only [VR] at hv
   obtain ⟨k, e, _⟩ := hv
   exact ⟨act.eval x, by simp only [execOp, ho, e]; rfl, hv'⟩
theorem z1g5 {P : Program} {o : Oper} {σ : AS} {x : Operand} {f : FuncId} {cs : List PV} (ho : o.op = .nilCheck x) (hx : σ.eval x = .fn f cs) : QStep P o σ (.fn f cs) :=
 q_run fun w c act hr => by
   have hv := hr.2.eval x
   rw [hx] at hv
   have hv' := hv
   simp only [VR] at hv
   obtain ⟨k, e, _⟩ := hv
   exact ⟨act.eval x, by simp only [execOp, ho, e]; rfl, hv'⟩
theorem zal {P : Program} {w w' : World} {o : Oper} {ρ : Operand → Value} {b : Builtin} {xs : Array Operand} {ats : Array TypeId} {n : Next}
   (ho : o.op = .call { callee := .builtin b, args := xs, argTypes := ats })
   (h : (builtin b ats o.type (xs.map fun | .const _ => true | _ => false) (xs.map ρ)).run P w = .ok n w') : (execOp ρ o).run P w = .ok n w' := by
 simp only [execOp, ho, resolve, Sem.run_bind, Sem.run_pure, Result.andThen_ok, invoke]
 exact h
theorem z12z {P : Program} {o : Oper} {σ : AS} {t e : TypeId} {x : Operand} {len : Nat} {cs : List PV} {tl : Tail}
   (ho : o.op = .call { callee := .builtin .len, args := #[x], argTypes := #[t] }) (ht : P.underlying t = some (.slice e)) (hx : σ.eval x = .tr len cs tl) :
   QStep P o σ (.val (.int .i64 len)) :=
 q_run fun w c act hr => by
   have hv := hr.2.eval x
   rw [hx] at hv
   simp only [VR] at hv
   have hl : ∃ a cap, act.eval x = .slice a len cap := by
     rcases hv with ⟨h1, h2, _⟩ | ⟨a, cap, h1, _⟩
     · exact ⟨none, 0, by rw [h1, h2]⟩
     · exact ⟨some a, cap, h1⟩
   obtain ⟨a, cap, e⟩ := hl
   refine ⟨_, zal ho ?_, z4f rfl⟩
   simp [builtin, Builtin.len_, run_underlying ht, e, goInt]
theorem z1pk {P : Program} {o : Oper} {σ : AS} {t e : TypeId} {x : Operand} {b off len cap : Nat}
   (ho : o.op = .call { callee := .builtin .len, args := #[x], argTypes := #[t] }) (ht : P.underlying t = some (.slice e)) (hx : σ.eval x = .sl b off len cap) :
   QStep P o σ (.val (.int .i64 len)) :=
 q_run fun w c act hr => by
   have hv := hr.2.eval x
   rw [hx] at hv
   simp only [VR] at hv
   have hl : ∃ a cap, act.eval x = .slice a len cap := by
     rcases hv with ⟨⟨ad, h1⟩, h2⟩ | ⟨k, cap', off', _, h1, _⟩
     · exact ⟨ad, 0, by rw [h1, h2]⟩
     · exact ⟨_, _, h1⟩
   obtain ⟨a, cap', e⟩ := hl
   refine ⟨_, zal ho ?_, z4f rfl⟩
   simp [builtin, Builtin.len_, run_underlying ht, e, goInt]
theorem z1nr {P : Program} {o : Oper} {σ : AS} {t : TypeId} {x : Operand} {s : ByteArray}
   (ho : o.op = .call { callee := .builtin .len, args := #[x], argTypes := #[t] }) (ht : P.underlying t = some .string) (hx : σ.eval x = .val (.string s)) :
   QStep P o σ (.val (.int .i64 s.size)) :=
 q_run fun w c act hr => by
   have e := z0r hr.2 hx
   refine ⟨_, zal ho ?_, z4f rfl⟩
   simp [builtin, Builtin.len_, run_underlying ht, e, goInt]
theorem q_max {P : Program} {o : Oper} {σ : AS} {ats : Array TypeId} {x y : Operand} {k : IntKind} {a b : Int}
   (ho : o.op = .call { callee := .builtin .max, args := #[x, y], argTypes := ats }) (hx : σ.eval x = .val (.int k a)) (hy : σ.eval y = .val (.int k b)) :
   QStep P o σ (.val (.int k (if b > a then b else a))) :=
 q_run fun w c act hr => by
   have e1 := z0r hr.2 hx
   have e2 := z0r hr.2 hy
   refine ⟨_, zal ho ?_, z4f rfl⟩
   simp [builtin, Builtin.max_, Builtin.max2, e1, e2]
theorem q_min {P : Program} {o : Oper} {σ : AS} {ats : Array TypeId} {x y : Operand} {k : IntKind} {a b : Int}
   (ho : o.op = .call { callee := .builtin .min, args := #[x, y], argTypes := ats }) (hx : σ.eval x = .val (.int k a)) (hy : σ.eval y = .val (.int k b)) :
   QStep P o σ (.val (.int k (if b < a then b else a))) :=
 q_run fun w c act hr => by
   have e1 := z0r hr.2 hx
   have e2 := z0r hr.2 hy
   refine ⟨_, zal ho ?_, z4f rfl⟩
   simp [builtin, Builtin.min_, Builtin.min2, e1, e2]
end Go.Ab
namespace Go.Ab
def cellsOf : PV → List PV
 | .agg cs => cs
 | p => [p]
def stor : PV → Bool
 | .tup _ | .dead => false
 | _ => true
theorem zza {w : World} {c : Cx} {p : PV} {v : Value} (hs : stor p = true) (h : VR w c p v) :
   v.cells.size = (cellsOf p).length ∧ Leafs (cellsOf p) ∧ VRs w c (cellsOf p) (fun i => v.cells[i]?) := by
 by_cases hl : leaf p = true
 · have e : cellsOf p = [p] := by cases p <;> first | rfl | cases hl
   have ev : v.cells = #[v] := by
     have := z13t hl h
     cases v <;> first | rfl | cases this
   rw [e, ev]
   refine ⟨rfl, fun q hq => by simp at hq; subst hq; exact hl, ?_⟩
   simp only [VRs]
   exact ⟨⟨v, rfl, h⟩, trivial⟩
 · cases p <;> first | (exact absurd rfl hl) | (cases hs; done) | skip
   simp only [VR] at h
   obtain ⟨vs, rfl, h1, h2, h3⟩ := h
   exact ⟨h1, h2, h3⟩
def z9t (P : Program) (t : TypeId) : Option (List PV) :=
 match (P.info? t).bind (·.zero) with
 | some v => some (v.cells.toList.map ofV)
 | none => none
theorem zb5 {P : Program} {w : World} {t : TypeId} {cs : List PV} (h : z9t P t = some cs) :
   ∃ v, (zeroValue t).run P w = .ok v w ∧ v.cells.size = cs.length ∧ ∀ c, VRs w c cs (fun i => v.cells[i]?) := by
 unfold z9t at h
 cases hi : P.info? t with
 | none => rw [hi] at h; cases h
 | some i =>
   rw [hi] at h
   simp only [Option.bind_some] at h
   cases hz : i.zero with
   | none => rw [hz] at h; cases h
   | some v =>
     rw [hz] at h
     simp at h
     subst h
     refine ⟨v, by simp [zeroValue, typeInfo, hi, hz], by simp, fun c => z2d fun j p hp => ?_⟩
     rw [List.getElem?_map] at hp
     cases hj : v.cells.toList[j]? with
     | none => rw [hj] at hp; cases hp
     | some u =>
       rw [hj] at hp
       simp at hp
       subst hp
       exact ⟨u, by simpa using hj, z1oc u⟩
def zlt (P : Program) (t : TypeId) (i : Nat) : Option (Nat × Nat) :=
 match P.underlying t with
 | some (.struct fs) => match fs[i]? with
   | some f => (tySz P f.type).map (fun n => (f.offset, n))
   | none => none
 | some (.array _ e) => (tySz P e).map (fun n => (i * n, n))
 | _ => none
def Fill (place : Nat → Option (Nat × Nat)) : List PV → List (Nat × PV) → List PV → Prop
 | cs, [], r => cs = r
 | cs, (i, p) :: rest, r => ∃ off n, place i = some (off, n) ∧ stor p = true ∧ (cellsOf p).length = n ∧ off + n ≤ cs.length ∧ Fill place (splice cs off (cellsOf p)) rest r
theorem z1ng {vs : List Value} : ∀ {cells : Array Value} {off j : Nat}, off + j + vs.length ≤ cells.size → ∀ i,
   ((vs.zipIdx j).foldl (fun cs (x : Value × Nat) => cs.setIfInBounds (off + x.2) x.1) cells)[i]? = if off + j ≤ i ∧ i < off + j + vs.length then vs[i - (off + j)]? else cells[i]? := by
 induction vs with
 | nil => intro cells off j _ i; simp; omega
 | cons v vs ih =>
   intro cells off j h i
   simp only [List.zipIdx_cons, List.foldl_cons]
   rw [ih (by simp at h ⊢; omega)]
   simp only [List.length_cons] at h ⊢
   by_cases h1 : off + (j + 1) ≤ i ∧ i < off + (j + 1) + vs.length
   · rw [if_pos h1, if_pos (by omega)]
     have : i - (off + j) = (i - (off + (j + 1))) + 1 := by omega
     rw [this]; rfl
   · rw [if_neg h1]
     by_cases h2 : i = off + j
     · subst h2
       rw [if_pos (by omega), Array.getElem?_setIfInBounds_self_of_lt (by omega)]
       simp
     · rw [if_neg (by omega), Array.getElem?_setIfInBounds_ne (by omega)]
theorem z1ki {vs : List (Value × Nat)} {off : Nat} : ∀ {cells : Array Value}, (vs.foldl (fun cs (x : Value × Nat) => cs.setIfInBounds (off + x.2) x.1) cells).size = cells.size := by
 induction vs with
 | nil => intro _; rfl
 | cons v vs ih => intro cells; rw [List.foldl_cons, ih]; simp
theorem zpn (cs ps : List PV) (off i : Nat) (h : off + ps.length ≤ cs.length) :
   (splice cs off ps)[i]? = if off ≤ i ∧ i < off + ps.length then ps[i - off]? else cs[i]? := by
 unfold splice
 have hl : (cs.take off).length = off := by simp; omega
 by_cases h1 : i < off
 · rw [if_neg (by omega), List.append_assoc, List.getElem?_append_left (by omega), List.getElem?_take, if_pos h1]
 · by_cases h2 : i < off + ps.length
   · rw [if_pos (by omega), List.append_assoc, List.getElem?_append_right (by omega), hl, List.getElem?_append_left (by omega)]
   · rw [if_neg (by omega), List.getElem?_append_right (by simp; omega), List.getElem?_drop]
     congr 1
     simp; omega
theorem z14k {w : World} {c : Cx} {place : Nat → Option (Nat × Nat)} : ∀ {parts : List (Nat × PV)} {vals : List (Nat × Value)} {cs r : List PV} {cells : Array Value},
   Fill place cs parts r → cells.size = cs.length → Leafs cs → VRs w c cs (fun i => cells[i]?) →
   vals.length = parts.length → (∀ (k i : Nat) (p : PV), parts[k]? = some (i, p) → ∃ v, vals[k]? = some (i, v) ∧ VR w c p v) →
   ∃ out, Instr.fill place cells vals = some out ∧ out.size = r.length ∧ Leafs r ∧ VRs w c r (fun i => out[i]?)
 | [], [], cs, r, cells, hf, hs, hl, hv, _, _ => by
   simp only [Fill] at hf; subst hf
   exact ⟨cells, rfl, hs, hl, hv⟩
 | (i, p) :: parts, x :: vals, cs, r, cells, hf, hs, hl, hv, hlen, hp => by
   obtain ⟨off, n, h1, h2, h3, h4, h5⟩ := hf
   obtain ⟨v, hx, hvp⟩ := hp 0 i p rfl
   simp at hx
   subst hx
   obtain ⟨g1, g2, g3⟩ := zza h2 hvp
   obtain ⟨out, e1, e2⟩ := z14k (parts := parts) (vals := vals)
     (cells := v.cells.zipIdx.foldl (fun cs (x : Value × Nat) => cs.setIfInBounds (off + x.2) x.1) cells) h5
     (by rw [z9w _ _ _ (by omega), ← hs]
         rw [← Array.foldl_toList, Array.toList_zipIdx]
         exact z1ki)
     (fun q hq => by
       simp only [splice, List.mem_append] at hq
       rcases hq with (hq | hq) | hq
       · exact hl q (List.mem_of_mem_take hq)
       · exact g2 q hq
       · exact hl q (List.mem_of_mem_drop hq))
     (z2d fun j q hq => by
       rw [zpn _ _ _ _ (by omega)] at hq
       rw [← Array.foldl_toList, Array.toList_zipIdx]
       have := z1ng (vs := v.cells.toList) (cells := cells) (off := off) (j := 0) (by simp; omega) j
       simp only [Nat.add_zero, Array.length_toList, Array.getElem?_toList] at this
       rw [this, g1]
       split at hq
       · rename_i hj; rw [if_pos hj]; exact z0s g3 hq
       · rename_i hj; rw [if_neg hj]; exact z0s hv hq)
     (by simpa using hlen) (fun k i' p' hk => by
       obtain ⟨v', h6, h7⟩ := hp (k + 1) i' p' (by simpa using hk)
       exact ⟨v', by simpa using h6, h7⟩)
   refine ⟨out, ?_, e2⟩
   unfold Instr.fill
   simp only [h1]
   rw [if_neg (by simp; omega)]
   exact e1
 | [], _ :: _, _, _, _, _, _, _, _, h, _ => by simp at h
 | _ :: _, [], _, _, _, _, _, _, _, h, _ => by simp at h
theorem z1dj {P : Program} {w : World} (fs : List Field) (h : ∀ f, f ∈ fs → ∃ n, tySz P f.type = some n) :
   (fs.mapM (fun f => do pure (f.offset, ← sizeOf f.type) : Field → Sem (Nat × Nat))).run P w = .ok (fs.map fun f => (f.offset, (tySz P f.type).getD 0)) w := by
 induction fs with
 | nil => rfl
 | cons f fs ih =>
   obtain ⟨n, hn⟩ := h f (by simp)
   rw [List.mapM_cons]
   simp only [Sem.run_bind, run_sizeOf hn, Result.andThen_ok, Sem.run_pure, ih (fun g hg => h g (by simp [hg]))]
   simp [hn]
def z11h (P : Program) (t : TypeId) : Bool :=
 match P.underlying t with
 | some (.struct fs) => fs.toList.all fun f => (tySz P f.type).isSome
 | some (.array _ e) => (tySz P e).isSome
 | _ => false
theorem z1k5 {P : Program} {o : Oper} {σ : AS} {t : TypeId} {parts : Array (Nat × Operand)} {z r : List PV} {ps : List (Nat × PV)} (ho : o.op = .build t parts)
   (hz : z9t P t = some z) (hzl : Leafs z) (hk : z11h P t = true) (hps : parts.toList.map (fun x => (x.1, σ.eval x.2)) = ps) (hf : Fill (zlt P t) z ps r) :
   QStep P o σ (.agg r) :=
 q_run fun w c act hr => by
   obtain ⟨zv, hzr, hzs, hzv⟩ := zb5 (w := w) hz
   have hvals : (parts.map fun (x : Nat × Operand) => (x.1, act.eval x.2)).toList.length = ps.length := by rw [← hps]; simp
   have hrel : ∀ (k i : Nat) (p : PV), ps[k]? = some (i, p) → ∃ v, (parts.map fun (x : Nat × Operand) => (x.1, act.eval x.2)).toList[k]? = some (i, v) ∧ VR w c p v := by
     intro k i p hp
     rw [← hps, List.getElem?_map] at hp
     cases hx : parts.toList[k]? with
     | none => rw [hx] at hp; cases hp
     | some x =>
       rw [hx] at hp
       simp at hp
       obtain ⟨rfl, rfl⟩ := hp
       exact ⟨act.eval x.2, by rw [Array.toList_map, List.getElem?_map, hx]; rfl, hr.2.eval x.2⟩
   have key : ∃ out, (Instr.build t (parts.map fun (x : Nat × Operand) => (x.1, act.eval x.2))).run P w = .ok (.agg out) w ∧ out.size = r.length ∧ Leafs r ∧ VRs w c r (fun i => out[i]?) := by
     unfold Instr.build
     unfold z11h at hk
     cases hu : P.underlying t with
     | none => rw [hu] at hk; cases hk
     | some d =>
       rw [hu] at hk
       cases d <;> simp only [Bool.false_eq_true] at hk
       · rename_i n e
         obtain ⟨sz, hse⟩ := Option.isSome_iff_exists.1 hk
         obtain ⟨out, e1, e2⟩ := z14k hf hzs hzl (hzv c) hvals hrel
         refine ⟨out, ?_, e2⟩
         have hpl : zlt P t = fun i => some (i * sz, sz) := by funext i; simp [zlt, hu, hse]
         rw [hpl] at e1
         simp only [Sem.run_bind, hzr, Result.andThen_ok, run_underlying hu, run_sizeOf hse, e1]
         rfl
       · rename_i fs
         have hall : ∀ f, f ∈ fs.toList → ∃ n, tySz P f.type = some n := fun f hf' => by
           have := List.all_eq_true.1 hk f hf'
           exact Option.isSome_iff_exists.1 this
         obtain ⟨out, e1, e2⟩ := z14k hf hzs hzl (hzv c) hvals hrel
         refine ⟨out, ?_, e2⟩
         have hpl : zlt P t = fun i => (fs.toList.map fun f => (f.offset, (tySz P f.type).getD 0))[i]? := by
           funext i
           simp only [zlt, hu, List.getElem?_map, Array.getElem?_toList]
           cases hi : fs[i]? with
           | none => rfl
           | some f =>
             obtain ⟨n, hn⟩ := hall f (Array.mem_toList_iff.2 (Array.mem_of_getElem? hi))
             simp [hn]
         rw [hpl] at e1
         have hm : (fs.mapM fun f => do pure (f.offset, ← sizeOf f.type) : Sem (Array (Nat × Nat))).run P w = .ok (fs.toList.map fun f => (f.offset, (tySz P f.type).getD 0)).toArray w := by
           rw [Array.mapM_eq_mapM_toList]
           rw [Sem.run_map, z1dj _ hall]
           rfl
         simp only [Sem.run_bind, hzr, Result.andThen_ok, run_underlying hu, hm]
         have : (fun x => (fs.toList.map fun f => (f.offset, (tySz P f.type).getD 0)).toArray[x]?) = fun (i : Nat) => (fs.toList.map fun f => (f.offset, (tySz P f.type).getD 0))[i]? := by
           funext i; simp
         rw [this, e1]
         rfl
   obtain ⟨out, h1, h2, h3, h4⟩ := key
   refine ⟨.agg out, ?_, ?_⟩
   · simp only [execOp, ho, Sem.run_bind, h1, Result.andThen_ok]; rfl
   · simp only [VR]; exact ⟨out, rfl, h2, h3, h4⟩
theorem z11u {P : Program} {w : World} {c : Cx} {t e : TypeId} {n len : Nat} {parts : List (Nat × Value)} {ps : List (Nat × PV)} {z zs r : List PV}
   (ht : P.underlying t = some (.slice e)) (hs : tySz P e = some n) (hn : n ≠ 0) (hl0 : len ≠ 0) (hz : z9t P e = some z) (hzn : z.length = n) (hzl : Leafs z)
   (hzs : zs = (List.replicate len z).flatten) (hmax : len * n ≤ 2 ^ 24) (hf : Fill (fun i => some (i * n, n)) zs ps r)
   (hlen : parts.length = ps.length) (hp : ∀ (k i : Nat) (p : PV), ps[k]? = some (i, p) → ∃ v, parts[k]? = some (i, v) ∧ VR w c p v) :
   ∃ vs : Array Value, (Instr.buildSlice t len parts.toArray).run P w = .ok (.slice (some ⟨w.heap.size, 0, none⟩) len len) (grow w (.cells vs e (0, 0))) ∧
     vs.size = r.length ∧ Leafs r ∧ VRs w c r (fun i => vs[i]?) := by
 obtain ⟨zv, hzr, hzs', hzv⟩ := zb5 (w := w) hz
 have hlz : zs.length = len * n := by rw [hzs]; simp [hzn]
 have hzlf : Leafs zs := fun q hq => by
   rw [hzs, List.mem_flatten] at hq
   obtain ⟨l, hl, hq⟩ := hq
   rw [List.mem_replicate] at hl
   exact hzl q (hl.2 ▸ hq)
 have hcell : VRs w c zs (fun i => ((Array.range (len * n)).map (fun j => zv.cells[j % zv.cells.size]!))[i]?) := z2d fun i p hp => by
   have hi : i < len * n := by rw [← hlz]; exact (List.getElem?_eq_some_iff.1 hp).1
   have hpos : 0 < n := Nat.pos_of_ne_zero hn
   have hmod : i % n < z.length := by rw [hzn]; exact Nat.mod_lt _ hpos
   have hget : zs[i]? = z[i % n]? := by
     rw [hzs]
     clear hp hzlf hlz hzs hf hmax hl0 hmod
     induction len generalizing i with
     | zero => omega
     | succ len ih =>
       rw [List.replicate_succ, List.flatten_cons]
       by_cases hlt : i < n
       · rw [List.getElem?_append_left (by omega), Nat.mod_eq_of_lt hlt]
       · rw [List.getElem?_append_right (by omega), hzn, ih (i - n) (by rw [Nat.succ_mul] at hi; omega), ← Nat.mod_eq_sub_mod (by omega)]
   rw [hget] at hp
   obtain ⟨v, h1, h2⟩ := z0s (hzv c) hp
   refine ⟨v, ?_, h2⟩
   have hsz : zv.cells.size = n := by rw [hzs', hzn]
   simp [hi, hsz]
   rw [getElem!_def, h1]
 obtain ⟨out, e1, e2, e3, e4⟩ := z14k hf (by simp [hlz]) hzlf hcell hlen hp
 refine ⟨out, ?_, e2, e3, e4⟩
 unfold Instr.buildSlice
 simp only [Sem.run_bind, run_underlying ht, Result.andThen_ok, run_sizeOf hs]
 rw [if_neg (by omega)]
 have hne : len * n ≠ 0 := Nat.mul_ne_zero hl0 hn
 simp only [Sem.run_pure, Result.andThen_ok, if_neg hne, Sem.run_bind, hzr, e1]
 rfl
theorem z1i5 {P : Program} {o : Oper} {σ : AS} {t e : TypeId} {len n : Nat} {parts : Array (Nat × Operand)} {z zs r : List PV} {ps : List (Nat × PV)}
   (ho : o.op = .buildSlice t len parts) (ht : P.underlying t = some (.slice e)) (hs : tySz P e = some n) (hn : n ≠ 0) (hl0 : len ≠ 0) (hz : z9t P e = some z) (hzn : z.length = n) (hzl : Leafs z)
   (hzs : zs = (List.replicate len z).flatten) (hmax : len * n ≤ 2 ^ 24) (hps : parts.toList.map (fun x => (x.1, σ.eval x.2)) = ps) (hf : Fill (fun i => some (i * n, n)) zs ps r) :
   QStep P o σ (.tr len r .full) := by
 intro c a w K Q hr hK
 have hvals : (parts.map fun (x : Nat × Operand) => (x.1, a.eval x.2)).toList.length = ps.length := by rw [← hps]; simp
 have hrel : ∀ (k i : Nat) (p : PV), ps[k]? = some (i, p) → ∃ v, (parts.map fun (x : Nat × Operand) => (x.1, a.eval x.2)).toList[k]? = some (i, v) ∧ VR w c p v := by
   intro k i p hp
   rw [← hps, List.getElem?_map] at hp
   cases hx : parts.toList[k]? with
   | none => rw [hx] at hp; cases hp
   | some x =>
     rw [hx] at hp
     simp at hp
     obtain ⟨rfl, rfl⟩ := hp
     exact ⟨a.eval x.2, by rw [Array.toList_map, List.getElem?_map, hx]; rfl, hr.2.eval x.2⟩
 obtain ⟨vs, h1, h2, h3, h4⟩ := z11u ht hs hn hl0 hz hzn hzl hzs hmax hf hvals hrel
 obtain ⟨g, x⟩ := z16o hr.1 (.cells vs e (0, 0))
 refine z9z (v := .slice (some ⟨w.heap.size, 0, none⟩) len len) (w' := grow w (.cells vs e (0, 0))) ?_ (hK _ _ ?_ g x)
 · have h1' : (Instr.buildSlice t len (parts.map fun (x : Nat × Operand) => (x.1, a.eval x.2))).run P w =
       .ok (.slice (some ⟨w.heap.size, 0, none⟩) len len) (grow w (.cells vs e (0, 0))) := by have h1' := h1; rwa [Array.toArray_toList] at h1'
   simp only [execOp, ho, Sem.run_bind, h1', Result.andThen_ok]
   rfl
 · simp only [VR]
   refine .inr ⟨_, len, rfl, Nat.le_refl _, Foot.new hr.1 (by simp [grow]) _ _ _ rfl, rfl, h3, VRs.ext x r (fun i _ v hv => ?_) h4⟩
   show (grow w _).cell? ⟨w.heap.size, 0 + i, none⟩ = some v
   rw [zhf (zoi w _), Nat.zero_add]; exact hv
theorem z1aw {n : Nat} : ∀ (ps : List PV) (i : Nat) (done rest : List PV), done.length = i * n → rest.length = ps.length * n → (∀ p, p ∈ ps → stor p = true ∧ (cellsOf p).length = n) →
   Fill (fun i => some (i * n, n)) (done ++ rest) ((ps.zipIdx i).map fun x => (x.2, x.1)) (done ++ ps.flatMap cellsOf)
 | [], i, done, rest, _, hr, _ => by
   simp at hr
   subst hr
   simp [Fill]
 | p :: ps, i, done, rest, hd, hr, h => by
   obtain ⟨h1, h2⟩ := h p (by simp)
   simp only [List.length_cons, Nat.add_mul, Nat.one_mul] at hr
   simp only [List.zipIdx_cons, List.map_cons, Fill]
   refine ⟨i * n, n, rfl, h1, h2, by simp; omega, ?_⟩
   have e : splice (done ++ rest) (i * n) (cellsOf p) = (done ++ cellsOf p) ++ rest.drop n := by
     unfold splice
     rw [List.take_append_of_le_length (by omega), List.take_of_length_le (by omega), List.drop_append, List.drop_eq_nil_of_le (by omega)]
     have : i * n + (cellsOf p).length - done.length = n := by omega
     rw [this]; simp
   rw [e]
   have := z1aw ps (i + 1) (done ++ cellsOf p) (rest.drop n) (by simp [hd, h2, Nat.add_mul]) (by simp; omega) (fun q hq => h q (by simp [hq]))
   simpa using this
theorem q_lit {P : Program} {o : Oper} {σ : AS} {t e : TypeId} {len n : Nat} {parts : Array (Nat × Operand)} {z : List PV} {ps : List PV}
   (ho : o.op = .buildSlice t len parts) (ht : P.underlying t = some (.slice e)) (hs : tySz P e = some n) (hn : n ≠ 0) (hl0 : len ≠ 0) (hz : z9t P e = some z) (hzn : z.length = n) (hzl : Leafs z)
   (hmax : len * n ≤ 2 ^ 24) (hlen : ps.length = len) (hps : parts.toList.map (fun x => (x.1, σ.eval x.2)) = (ps.zipIdx 0).map fun x => (x.2, x.1)) (hp : ∀ p, p ∈ ps → stor p = true ∧ (cellsOf p).length = n) :
   QStep P o σ (.tr len (ps.flatMap cellsOf) .full) := by
 refine z1i5 ho ht hs hn hl0 hz hzn hzl rfl hmax hps ?_
 have := z1aw ps 0 [] (List.replicate len z).flatten (by simp) (by simp [hzn, hlen]) hp
 simpa using this
end Go.Ab
namespace Go.Ab
def ACalls (P : Program) (f : FuncId) (args : List PV) (H : List AObj) (k : Nat) (R : PV → List AObj → List Bool → Prop) : Prop :=
 ∀ w c (vs : Array Value), Good w c H (List.replicate k false) → c.pn = 0 → vs.size = args.length → VRs w c args (fun i => vs[i]?) →
   Calls P f vs w fun e w' => ∃ v p H' ts c', e = .returned v ∧ R p H' ts ∧ Good w' c' H' ts ∧ VR w' c' p v ∧ Ext w c w' c'
theorem ACalls.mono {P : Program} {f : FuncId} {args : List PV} {H : List AObj} {k : Nat} {R R' : PV → List AObj → List Bool → Prop} (h : ACalls P f args H k R)
   (hr : ∀ p H' ts, R p H' ts → R' p H' ts) : ACalls P f args H k R' :=
 fun w c vs g h0 hs hv => (h w c vs g h0 hs hv).mono fun _ _ ⟨v, p, H', ts, c', h1, h2, h3⟩ => ⟨v, p, H', ts, c', h1, hr _ _ _ h2, h3⟩
def ResV (P : Program) (σ : AS) : ResultVar → PV → Prop
 | .tmp t, q => σ.get t = q
 | .cell a ty, q => ∃ p, σ.get a = p ∧ Loads P σ.H ty p q
def ResP (P : Program) (fn : Func) (σ : AS) (p : PV) : Prop :=
 ∀ w c (a : Act), Good w c σ.H σ.ts → SlotsR w c σ a.tmps → ∃ v, (results fn a.tmps).run P w = .ok v w ∧ VR w c p v
def resOf (tmps : Array Value) : ResultVar → Sem Value
 | .tmp t => pure (tmps.getD t undef)
 | .cell a t => do loadVar t (← asAddr (tmps.getD a undef))
theorem z1d8 (fn : Func) (tmps : Array Value) : results fn tmps = (do
   let vs ← fn.results.mapM (resOf tmps)
   pure (if h : vs.size = 1 then vs[0] else .tuple vs)) := by
 unfold results
 congr 2
theorem z1gv {P : Program} {σ : AS} {r : ResultVar} {q : PV} (h : ResV P σ r q) {w : World} {c : Cx} {a : Act} (g : Good w c σ.H σ.ts) (hs : SlotsR w c σ a.tmps) :
   ∃ v, (resOf a.tmps r).run P w = .ok v w ∧ VR w c q v := by
 cases r with
 | tmp t =>
   have := hs.eval (.tmp t)
   simp only [AS.eval] at this
   rw [show σ.get t = q from h] at this
   exact ⟨_, rfl, this⟩
 | cell x t =>
   obtain ⟨p, hp, hl⟩ := h
   have := hs.eval (.tmp x)
   simp only [AS.eval] at this
   rw [hp] at this
   obtain ⟨ad, u, h1, h2, h3⟩ := hl w c _ _ g this
   have h1' : a.tmps.getD x undef = .pointer (some ad) := h1
   refine ⟨u, ?_, h3⟩
   simp only [resOf, h1', asAddr, Sem.run_bind, Sem.run_pure, Result.andThen_ok, h2]
theorem z1rh {P : Program} {fn : Func} {σ : AS} {r : ResultVar} {q : PV} (hr : fn.results = #[r]) (h : ResV P σ r q) : ResP P fn σ q := by
 intro w c a g hs
 obtain ⟨v, h1, h2⟩ := z1gv h g hs
 refine ⟨v, ?_, h2⟩
 rw [z1d8, hr, Array.mapM_eq_mapM_toList, Sem.run_bind, Sem.run_map]
 simp [h1]
theorem z1ez {P : Program} {σ : AS} {w : World} {c : Cx} {a : Act} (g : Good w c σ.H σ.ts) (hs : SlotsR w c σ a.tmps) : ∀ {rs : List ResultVar} {qs : List PV},
   rs.length = qs.length → (∀ (i : Nat) r q, rs[i]? = some r → qs[i]? = some q → ResV P σ r q) →
   ∃ vs : List Value, (rs.mapM (resOf a.tmps)).run P w = .ok vs w ∧ vs.length = qs.length ∧ VRs w c qs (fun i => vs[i]?)
 | [], [], _, _ => ⟨[], rfl, rfl, trivial⟩
 | r :: rs, q :: qs, hl, h => by
   obtain ⟨v, h1, h2⟩ := z1gv (h 0 r q rfl rfl) g hs
   obtain ⟨vs, h3, h4, h5⟩ := z1ez g hs (rs := rs) (qs := qs) (by simpa using hl) (fun i r q hr hq => h (i + 1) r q (by simpa using hr) (by simpa using hq))
   refine ⟨v :: vs, ?_, by simp [h4], ?_⟩
   · rw [List.mapM_cons, Sem.run_bind]
     rw [h1]
     simp only [Result.andThen_ok, Sem.run_bind, h3, Sem.run_pure]
   · simp only [VRs]
     exact ⟨⟨v, rfl, h2⟩, by simpa using h5⟩
 | [], _ :: _, hl, _ => by simp at hl
 | _ :: _, [], hl, _ => by simp at hl
theorem z1pq {P : Program} {fn : Func} {σ : AS} {qs : List PV} (hl : fn.results.toList.length = qs.length) (hn : qs.length ≠ 1)
   (h : ∀ (i : Nat) r q, fn.results.toList[i]? = some r → qs[i]? = some q → ResV P σ r q) : ResP P fn σ (.tup qs) := by
 intro w c a g hs
 obtain ⟨vs, h1, h2, h3⟩ := z1ez (P := P) g hs hl h
 refine ⟨.tuple vs.toArray, ?_, ?_⟩
 · rw [z1d8, Array.mapM_eq_mapM_toList, Sem.run_bind, Sem.run_map, h1]
   simp only [Result.andThen_ok]
   rw [dif_neg (by simp; omega)]
   rfl
 · simp only [VR]
   exact ⟨_, rfl, by simp [h2], by simpa using h3⟩
def zrp : List PV → Nat → List (Nat × PV)
 | [], _ => []
 | p :: ps, i => (i, p) :: zrp ps (i + 1)
theorem zto : ∀ (args : List PV) (i t : Nat) (p : PV), look (zrp args i) t = some p → i ≤ t ∧ args[t - i]? = some p
 | [], _, _, _, h => by simp [zrp, look] at h
 | q :: args, i, t, p, h => by
   simp only [zrp, look] at h
   cases hb : Nat.beq i t with
   | true =>
     have := Nat.eq_of_beq_eq_true hb
     subst this
     rw [hb] at h
     simp at h
     subst h
     exact ⟨Nat.le_refl _, by simp⟩
   | false =>
     rw [hb] at h
     simp at h
     obtain ⟨h1, h2⟩ := zto args (i + 1) t p h
     refine ⟨by omega, ?_⟩
     have : t - i = (t - (i + 1)) + 1 := by omega
     rw [this]
     simpa using h2
mutual
def Pure : PV → Prop
 | .val _ => True
 | .ptr _ _ => False
 | .fz cs => Pures cs
 | .sl _ _ _ _ => False
 | .tr _ cs t => t.isTok = false ∧ Pures cs
 | .fn _ caps => Pures caps
 | .agg cs => Pures cs
 | .tup cs => Pures cs
 | .ifc _ p => Pure p
 | .one => True
 | .dead => True
def Pures : List PV → Prop
 | [] => True
 | p :: ps => Pure p ∧ Pures ps
end
theorem z4s : ∀ {ps : List PV}, Pures ps ↔ ∀ p, p ∈ ps → Pure p
 | [] => by simp [Pures]
 | p :: ps => by simp [Pures, z4s (ps := ps)]
mutual
theorem VR.transfer {w : World} {c c' : Cx} (hf : ∀ a n, Foot w c a n → Foot w c' a n) : ∀ (p : PV) {v : Value}, Pure p → VR w c p v → VR w c' p v
 | .val _, _, _, h => by simp only [VR] at h ⊢; exact h
 | .ptr b off, _, hp, _ => by simp only [Pure] at hp
 | .fz cs, _, hp, h => by
   simp only [VR] at h ⊢
   simp only [Pure] at hp
   obtain ⟨a, h1, h2, hl, h3⟩ := h
   exact ⟨a, h1, hf _ _ h2, hl, VRs.transfer hf cs hp h3⟩
 | .sl b off len cap, _, hp, _ => by simp only [Pure] at hp
 | .tr len cs t, _, hp, h => by
   simp only [VR] at h ⊢
   simp only [Pure] at hp
   rcases h with h | ⟨a, cap, h1, hc, h2, h4, hl, h3⟩
   · exact .inl h
   · refine .inr ⟨a, cap, h1, hc, hf _ _ h2, ?_, hl, VRs.transfer hf cs hp.2 h3⟩
     cases t with
     | no => trivial
     | full => exact h4
     | tok i sz => cases hp.1
 | .fn f caps, _, hp, h => by
   simp only [VR] at h ⊢
   simp only [Pure] at hp
   obtain ⟨cv, h1, h2, h3⟩ := h
   exact ⟨cv, h1, h2, VRs.transfer hf caps hp h3⟩
 | .agg cs, _, hp, h => by
   simp only [VR] at h ⊢
   simp only [Pure] at hp
   obtain ⟨cv, h1, h2, hl, h3⟩ := h
   exact ⟨cv, h1, h2, hl, VRs.transfer hf cs hp h3⟩
 | .tup cs, _, hp, h => by
   simp only [VR] at h ⊢
   simp only [Pure] at hp
   obtain ⟨cv, h1, h2, h3⟩ := h
   exact ⟨cv, h1, h2, VRs.transfer hf cs hp h3⟩
 | .ifc t p, _, hp, h => by
   simp only [VR] at h ⊢
   simp only [Pure] at hp
   obtain ⟨v, h1, h2⟩ := h
   exact ⟨v, h1, VR.transfer hf p hp h2⟩
 | .one, _, _, h => by simp only [VR] at h ⊢; exact h
 | .dead, _, _, _ => by simp only [VR]
theorem VRs.transfer {w : World} {c c' : Cx} (hf : ∀ a n, Foot w c a n → Foot w c' a n) : ∀ (ps : List PV) {f : Nat → Option Value}, Pures ps → VRs w c ps f → VRs w c' ps f
 | [], _, _, _ => by simp only [VRs]
 | p :: ps, f, hp, h => by
   simp only [VRs] at h ⊢
   simp only [Pures] at hp
   obtain ⟨⟨v, h1, h2⟩, h3⟩ := h
   exact ⟨⟨v, h1, VR.transfer hf p hp.1 h2⟩, VRs.transfer hf ps hp.2 h3⟩
end
def z8w (w : World) (c : Cx) (k : Nat) : Cx :=
 { m := [], T := List.replicate k none,
   ok := fun b e => b < w.heap.size → some b ∉ c.m ∧ (∀ i j : Nat, c.T[i]? = some (some (b, j)) → e ≤ j) ∧ c.ok b e }
theorem z1j7 {w : World} {c : Cx} {H : List AObj} {ts : List Bool} (g : Good w c H ts) (k : Nat) : Good w (z8w w c k) [] (List.replicate k false) where
 len := rfl
 inj := fun i j k h => by simp [z8w] at h
 obj := fun b o h => by simp at h
 tl := by simp [z8w]
 tal := fun i h => by
   rw [List.getElem?_replicate] at h
   split at h <;> simp at h
 tdead := fun i h => by
   rw [List.getElem?_replicate] at h
   simp only [z8w]
   rw [List.getElem?_replicate]
   split at h
   · rename_i hi; rw [if_pos hi]
   · cases h
 tok := fun i k' j h => by
   simp only [z8w] at h
   rw [List.getElem?_replicate] at h
   split at h <;> simp at h
 tinj := fun i i' k' j j' h => by
   simp only [z8w] at h
   rw [List.getElem?_replicate] at h
   split at h <;> simp at h
 okn := fun k' e h hlt => absurd h (Nat.not_le.2 hlt)
 okm := fun k' e e' h hle hlt => by
   obtain ⟨h1, h2, h3⟩ := h hlt
   exact ⟨h1, fun i j h => Nat.le_trans hle (h2 i j h), g.okm _ _ _ h3 hle⟩
 okt := fun i k' j h => by
   simp only [z8w] at h
   rw [List.getElem?_replicate] at h
   split at h <;> simp at h
 oko := fun b k' _ h => by simp [z8w] at h
 gl := g.gl.sub (fun k' h => by simp [z8w] at h) fun i k' j h => by
   simp only [z8w] at h
   rw [List.getElem?_replicate] at h
   split at h <;> simp at h
theorem z1jb {w : World} {c : Cx} (k : Nat) (a : Addr) (n : Nat) (h : Foot w c a n) : Foot w (z8w w c k) a n := by
 rcases h with h | ⟨h1, h2, h3, h4, h5⟩
 · exact .inl h
 · refine .inr ⟨h1, h2, by simp [z8w], fun i j h => ?_, fun _ => ⟨h3, h4, h5⟩⟩
   simp only [z8w] at h
   rw [List.getElem?_replicate] at h
   split at h <;> simp at h
def zfh (P : Program) (f : FuncId) : Bool :=
 match P.funcs[f]? with
 | some fn => fn.body.isSome && fn.name != "runtime.NumGoroutine"
 | none => false
theorem z17t {P : Program} {f : FuncId} (h : zfh P f = true) (args : Array Value) (w : World) : (callFunc f args).run P w = .ok (.enter f args) w := by
 unfold zfh at h
 unfold callFunc
 cases hf : P.funcs[f]? with
 | none => rw [hf] at h; cases h
 | some fn =>
   rw [hf] at h
   simp at h
   simp only [Sem.run_bind, run_program, Result.andThen_ok, hf]
   have hne : (fn.name == "runtime.NumGoroutine") = false := by simpa using h.2
   have hbn : fn.body.isNone = false := by cases hb : fn.body <;> simp_all
   simp only [hne, hbn, Bool.false_eq_true, if_false]
   rfl
end Go.Ab
namespace Go.Ab
def Ops (P : Program) (ops : Array Oper) : List Oper → AS → (AS → Prop) → Prop
 | [], σ, N => N σ
 | o :: r, σ, N => ∃ g, z5g ops σ o = some g ∧
     if g = true then Step P o σ (fun σ' => Ops P ops r σ' N) else Ops P ops r (σ.put o.dst (.tup [])) N
theorem Step.mono {P : Program} {o : Oper} {σ : AS} {N N' : AS → Prop} (h : Step P o σ N) (hn : ∀ σ, N σ → N' σ) : Step P o σ N' :=
 fun c a w K Q hr hK => h c a w K Q hr fun c' a' w' σ' hN => hK c' a' w' σ' (hn _ hN)
theorem z10a {P : Program} {ops : Array Oper} {N : AS → Prop} : ∀ (r : List Oper) (i : Nat) {σ : AS}, ops.toList.drop i = r → Ops P ops r σ N →
   Runs P ops (List.range' i r.length) σ N
 | [], _, _, _, h => h
 | o :: r, i, σ, hd, h => by
   obtain ⟨g, h1, h2⟩ := h
   have ho : ops[i]? = some o := by
     have : ops.toList[i]? = some o := by
       have h3 : (ops.toList.drop i)[0]? = some o := by rw [hd]; rfl
       rw [List.getElem?_drop] at h3; simpa using h3
     simpa using this
   have hd' : ops.toList.drop (i + 1) = r := by
     have : ops.toList.drop (i + 1) = (ops.toList.drop i).drop 1 := by rw [List.drop_drop]
     rw [this, hd]; rfl
   simp only [List.length_cons, List.range'_succ, Runs]
   refine ⟨o, g, ho, h1, ?_⟩
   cases g with
   | true =>
     simp only [if_true] at h2 ⊢
     exact h2.mono fun σ' hN => z10a r (i + 1) hd' hN
   | false =>
     simp only [Bool.false_eq_true, if_false] at h2 ⊢
     exact z10a r (i + 1) hd' h2
theorem AW.reg {P : Program} {id : Nat} {ops : Array Oper} {σ : AS} {Q : Exit → AS → Prop} (h : Ops P ops ops.toList σ (Q .normal)) : AW P (.region id ops false) σ Q := by
 refine AW.region ?_
 have := z10a ops.toList 0 (by simp) h
 rw [List.range_eq_range']
 simpa using this
theorem Ops.q {P : Program} {ops : Array Oper} {o : Oper} {r : List Oper} {σ : AS} {N : AS → Prop} {p : PV} (hg : z5g ops σ o = some true) (h : QStep P o σ p)
   (hN : Ops P ops r (σ.put o.dst p) N) : Ops P ops (o :: r) σ N := ⟨true, hg, by simp only [if_true]; exact h.step hN⟩
theorem Ops.no {P : Program} {ops : Array Oper} {o : Oper} {r : List Oper} {σ : AS} {N : AS → Prop} (hg : z5g ops σ o = some false)
   (hN : Ops P ops r (σ.put o.dst (.tup [])) N) : Ops P ops (o :: r) σ N := ⟨false, hg, by simp only [Bool.false_eq_true, if_false]; exact hN⟩
theorem Ops.e {P : Program} {ops : Array Oper} {o : Oper} {r : List Oper} {σ : AS} {N : AS → Prop} (hg : z5g ops σ o = some true)
   (h : Step P o σ (fun σ' => Ops P ops r σ' N)) : Ops P ops (o :: r) σ N := ⟨true, hg, by simp only [if_true]; exact h⟩
theorem Ops.nil {P : Program} {ops : Array Oper} {σ : AS} {N : AS → Prop} (h : N σ) : Ops P ops [] σ N := h
def AS.keep (σ : AS) (l : List Nat) : AS := { σ with slots := l.map fun t => (t, σ.get t) }
theorem zsq (σ : AS) : ∀ (l : List Nat) (t : Nat) (p : PV), look (l.map fun t => (t, σ.get t)) t = some p → σ.get t = p
 | [], _, _, h => by simp [look] at h
 | s :: l, t, p, h => by
   simp only [List.map_cons, look] at h
   cases hb : Nat.beq s t with
   | true =>
     have := Nat.eq_of_beq_eq_true hb
     subst this
     rw [hb] at h
     simpa using h
   | false => rw [hb] at h; exact zsq σ l t p (by simpa using h)
theorem RelC.keep {w : World} {c : Cx} {σ : AS} {a : Act} (h : RelC w c σ a) (l : List Nat) : RelC w c (σ.keep l) a := by
 refine ⟨h.1, h.2.1, fun t p hl hn => ?_⟩
 have hg := zsq σ l t p hl
 have he := h.2.eval (.tmp t)
 simp only [AS.eval, Act.eval] at he
 have hlt : t < a.tmps.size := by rw [h.2.1]; exact hn
 refine ⟨a.tmps[t], by simp [hlt], ?_⟩
 rw [hg] at he
 simpa [Array.getD_eq_getD_getElem?, hlt] using he
theorem AW.keep {P : Program} {x : Code} {σ : AS} {Q : Exit → AS → Prop} (l : List Nat) (h : AW P x (σ.keep l) Q) : AW P x σ Q :=
 fun c a w Q' hr hK => h c a w Q' (hr.keep l) hK
abbrev vs (s : ByteArray) : PV := .val (.string s)
theorem zrj (n : Int) (h : -9223372036854775808 ≤ n ∧ n ≤ 9223372036854775807) : IntKind.i64.wrap n = n := by
 have e : IntKind.i64.wrap n = if (true && decide (n % 18446744073709551616 ≥ 9223372036854775808)) = true then n % 18446744073709551616 - 18446744073709551616 else n % 18446744073709551616 := rfl
 rw [e]
 by_cases hc : n % 18446744073709551616 ≥ 9223372036854775808
 · rw [if_pos (by simp [hc])]; omega
 · rw [if_neg (by simp [hc])]; omega
end Go.Ab
namespace Go.Ab
def befF (acc : Array Nat) (o : Oper) : Nat :=
 o.after.foldl (fun s e => if Region.binds .any e then s ||| 2 ^ e.on ||| acc.getD e.on 0 else s) 0
def befL (l : List Oper) : Array Nat := l.foldl (fun acc o => acc.push (befF acc o)) #[]
theorem z1fm (ops : Array Oper) : Region.before ops = befL ops.toList := by
 unfold Region.before befL
 rw [← Array.foldl_toList]
 rfl
theorem z16i (l : List Oper) (o : Oper) : befL (l ++ [o]) = (befL l).push (befF (befL l) o) := by simp [befL]
theorem z1b9 (l : List Oper) : (befL l).size = l.length ∧ ∀ j, j < l.length → ∀ r, (befL (l ++ r)).getD j 0 = (befL l).getD j 0 := by
 have size : ∀ n (l : List Oper), l.length = n → (befL l).size = l.length := by
   intro n
   induction n with
   | zero => intro l h; have := List.eq_nil_of_length_eq_zero h; subst this; rfl
   | succ n ih =>
     intro l h
     rcases List.eq_nil_or_concat l with e | ⟨l', o, e⟩
     · subst e; simp at h
     · subst e
       simp at h
       rw [List.concat_eq_append, z16i, Array.size_push, ih l' h]; simp
 refine ⟨size _ l rfl, fun j hj r => ?_⟩
 have key : ∀ n (r : List Oper), r.length = n → (befL (l ++ r)).getD j 0 = (befL l).getD j 0 := by
   intro n
   induction n with
   | zero => intro r h; have := List.eq_nil_of_length_eq_zero h; subst this; simp
   | succ n ih =>
     intro r h
     rcases List.eq_nil_or_concat r with e | ⟨r', o, e⟩
     · subst e; simp at h
     · subst e
       simp at h
       rw [List.concat_eq_append, ← List.append_assoc, z16i, ← ih r' h]
       have hs := size _ (l ++ r') rfl
       simp only [Array.getD_eq_getD_getElem?]
       rw [Array.getElem?_push, if_neg (by rw [hs]; simp; omega)]
 exact key _ r rfl
theorem z1h0 {acc : Array Nat} {o : Oper} {i : Nat} (h : (befF acc o).testBit i = true) :
   ∃ e, e ∈ o.after.toList ∧ Region.binds .any e = true ∧ (e.on = i ∨ (acc.getD e.on 0).testBit i = true) := by
 unfold befF at h
 rw [← Array.foldl_toList] at h
 generalize o.after.toList = l at h
 have key : ∀ (l : List Edge) (s : Nat), (l.foldl (fun s e => if Region.binds .any e then s ||| 2 ^ e.on ||| acc.getD e.on 0 else s) s).testBit i = true →
     s.testBit i = true ∨ ∃ e, e ∈ l ∧ Region.binds .any e = true ∧ (e.on = i ∨ (acc.getD e.on 0).testBit i = true) := by
   intro l
   induction l with
   | nil => intro s h; exact .inl h
   | cons e l ih =>
     intro s h
     simp only [List.foldl_cons] at h
     rcases ih _ h with h | ⟨e', h1, h2⟩
     · by_cases hb : Region.binds .any e = true
       · rw [if_pos hb] at h
         simp only [Nat.testBit_or, Bool.or_eq_true] at h
         rcases h with (h | h) | h
         · exact .inl h
         · rw [Nat.testBit_two_pow] at h
           exact .inr ⟨e, by simp, hb, .inl (by simpa using h)⟩
         · exact .inr ⟨e, by simp, hb, .inr h⟩
       · rw [if_neg hb] at h; exact .inl h
     · exact .inr ⟨e', by simp [h1], h2⟩
 rcases key l 0 h with h | h
 · simp at h
 · exact h
def zdd (ops : Array Oper) : Bool := ops.toList.zipIdx.all fun (o, j) => o.after.toList.all fun e => !Region.binds .any e || decide (e.on < j)
theorem zgc {ops : Array Oper} (h : zdd ops = true) {j : Nat} {o : Oper} (ho : ops[j]? = some o) {e : Edge} (he : e ∈ o.after.toList)
   (hb : Region.binds .any e = true) : e.on < j := by
 have := List.all_eq_true.1 h (o, j) (by rw [List.mem_zipIdx_iff_getElem?]; simpa using ho)
 have := List.all_eq_true.1 this e he
 simpa [hb] using this
def bef (ops : Array Oper) (j i : Nat) : Bool := ((Region.before ops).getD j 0).testBit i
theorem zlx {ops : Array Oper} (hback : zdd ops = true) {D : Nat → Prop}
   (hD : ∀ j o e, D j → ops[j]? = some o → e ∈ o.after.toList → Region.binds .any e = true → D e.on) (hlt : ∀ j, D j → j < ops.size) :
   ∀ j i, D j → bef ops j i = true → D i := by
 intro j
 induction j using Nat.strongRecOn with
 | _ j ih =>
   intro i hj hb
   have hjs := hlt j hj
   have ho : ops[j]? = some ops[j] := by simp [hjs]
   have hsplit : ops.toList = (ops.toList.take j ++ [ops[j]]) ++ ops.toList.drop (j + 1) := by
     have h1 : ops.toList.take (j + 1) = ops.toList.take j ++ [ops[j]] := by
       rw [List.take_succ_eq_append_getElem (by simpa using hjs)]; simp
     rw [← h1, List.take_append_drop]
   unfold bef at hb
   rw [z1fm] at hb
   have e1 : (befL ops.toList).getD j 0 = befF (befL (ops.toList.take j)) ops[j] := by
     have h1 : (befL ops.toList).getD j 0 = (befL (ops.toList.take j ++ [ops[j]])).getD j 0 := by
       have := (z1b9 (ops.toList.take j ++ [ops[j]])).2 j (by simp; omega) (ops.toList.drop (j + 1))
       rw [← hsplit] at this; exact this
     rw [h1, z16i]
     have hs := (z1b9 (ops.toList.take j)).1
     simp only [Array.getD_eq_getD_getElem?]
     have : (befL (ops.toList.take j)).size = j := by rw [hs]; simp; omega
     rw [Array.getElem?_push, if_pos this.symm]; rfl
   rw [e1] at hb
   obtain ⟨e, he, hbe, h⟩ := z1h0 hb
   have hlt' := zgc hback ho he hbe
   have hde := hD j _ e hj ho he hbe
   rcases h with h | h
   · exact h ▸ hde
   · refine ih e.on hlt' i hde ?_
     unfold bef
     rw [z1fm]
     have : (befL ops.toList).getD e.on 0 = (befL (ops.toList.take j)).getD e.on 0 := by
       have h2 := (z1b9 (ops.toList.take j)).2 e.on (by simp; omega) (ops.toList.drop j)
       rw [List.take_append_drop] at h2
       exact h2
     rw [this]; exact h
def z1iy (ops : Array Oper) : Bool :=
 zdd ops &&
 (List.range ops.size).all fun j =>
   match ops[j]? with
   | none => true
   | some oj => oj.dst.isSome && (oj.dst.all fun d => !(oj.looksAt ops).contains d) &&
     (List.range j).all fun i =>
       match ops[i]? with
       | none => true
       | some oi => oi.dst != oj.dst && (oi.apart ops oj || bef ops j i)
theorem z1j9 {ops : Array Oper} (h : z1iy ops = true) : zdd ops = true ∧
   (∀ (j : Nat) o, ops[j]? = some o → ∃ d, o.dst = some d ∧ d ∉ o.looksAt ops) ∧
   (∀ (i j : Nat) oi oj, i < j → ops[i]? = some oi → ops[j]? = some oj → oi.dst ≠ oj.dst ∧ (oi.apart ops oj = true ∨ bef ops j i = true)) := by
 simp only [z1iy, Bool.and_eq_true] at h
 obtain ⟨h1, h2⟩ := h
 have hj : ∀ (j : Nat) o, ops[j]? = some o → j < ops.size := fun j o ho => (Array.getElem?_eq_some_iff.1 ho).1
 refine ⟨h1, fun j o ho => ?_, fun i j oi oj hij hi hj' => ?_⟩
 · have := List.all_eq_true.1 h2 j (by simp [hj j o ho])
   rw [ho] at this
   simp only [Bool.and_eq_true] at this
   obtain ⟨⟨ha, hb⟩, _⟩ := this
   obtain ⟨d, hd⟩ := Option.isSome_iff_exists.1 ha
   rw [hd] at hb
   exact ⟨d, hd, by simpa using hb⟩
 · have := List.all_eq_true.1 h2 j (by simp [hj j oj hj'])
   rw [hj'] at this
   simp only [Bool.and_eq_true] at this
   have := List.all_eq_true.1 this.2 i (by simp [hij])
   rw [hi] at this
   simp only [Bool.and_eq_true, Bool.or_eq_true] at this
   exact ⟨by simpa using this.1, this.2⟩
def z4g : List Oper → List PV → AS → AS
 | o :: os, p :: ps, σ => z4g os ps (σ.put o.dst p)
 | _, _, σ => σ
def Quiets (P : Program) (ops : Array Oper) : List Oper → List PV → AS → Prop
 | o :: os, p :: ps, σ => (∃ g, z5g ops (σ.keep (o.looksAt ops)) o = some g ∧
     (if g = true then QStep P o (σ.keep (o.looksAt ops)) p else p = .tup [])) ∧ Quiets P ops os ps (σ.put o.dst p)
 | [], [], _ => True
 | _, _, _ => False
def pre (l : List Oper) (ps : List PV) (σ : AS) (i : Nat) : AS := z4g (l.take i) (ps.take i) σ
theorem z1f4 {P : Program} {ops : Array Oper} : ∀ {l : List Oper} {ps : List PV} {σ : AS}, Quiets P ops l ps σ → l.length = ps.length ∧
   ∀ (i : Nat) o p, l[i]? = some o → ps[i]? = some p → ∃ g, z5g ops ((pre l ps σ i).keep (o.looksAt ops)) o = some g ∧
     (if g = true then QStep P o ((pre l ps σ i).keep (o.looksAt ops)) p else p = .tup [])
 | [], [], _, _ => ⟨rfl, fun i o p h => by simp at h⟩
 | o :: os, p :: ps, σ, h => by
   obtain ⟨h1, h2⟩ := h
   obtain ⟨hl, ih⟩ := z1f4 h2
   refine ⟨by simp [hl], fun i o' p' ho hp => ?_⟩
   cases i with
   | zero => simp at ho hp; subst ho; subst hp; exact h1
   | succ i =>
     have := ih i o' p' (by simpa using ho) (by simpa using hp)
     simpa [pre, z4g] using this
 | [], _ :: _, _, h => h.elim
 | _ :: _, [], _, h => h.elim
theorem zaz : ∀ (l : List Oper) (ps : List PV) (σ : AS), (z4g l ps σ).n = σ.n ∧ (z4g l ps σ).H = σ.H ∧ (z4g l ps σ).ts = σ.ts
 | [], ps, σ => by cases ps <;> exact ⟨rfl, rfl, rfl⟩
 | o :: l, [], σ => ⟨rfl, rfl, rfl⟩
 | o :: l, p :: ps, σ => by
   obtain ⟨h1, h2, h3⟩ := zaz l ps (σ.put o.dst p)
   cases hd : o.dst <;> simp only [z4g, hd, AS.put] at h1 h2 h3 ⊢ <;> exact ⟨h1, h2, h3⟩
theorem z1ht (σ : AS) (d : Nat) (p : PV) (h : d < σ.n) : (σ.put (some d) p).get d = p := by
 simp only [AS.put, AS.get, look, Nat.beq_refl, cond_true, Option.getD_some]
 rw [show Nat.blt d σ.n = true from Nat.blt_eq.mpr h]; rfl
theorem z1lp (σ : AS) (d t : Nat) (p : PV) (h : d ≠ t) : (σ.put (some d) p).get t = σ.get t := by
 simp only [AS.put, AS.get, look]
 have : Nat.beq d t = false := by
   cases hb : Nat.beq d t with
   | false => rfl
   | true => exact absurd (Nat.eq_of_beq_eq_true hb) h
 rw [this]; rfl
theorem zhs : ∀ (l : List Oper) (ps : List PV) (σ : AS) (t : Nat), l.length = ps.length → t < σ.n →
   (∃ (j : Nat) (o : Oper) (p : PV), l[j]? = some o ∧ ps[j]? = some p ∧ o.dst = some t ∧ (z4g l ps σ).get t = p) ∨ ((∀ (j : Nat) o, l[j]? = some o → o.dst ≠ some t) ∧ (z4g l ps σ).get t = σ.get t)
 | [], [], σ, t, _, _ => .inr ⟨fun j o h => by simp at h, rfl⟩
 | o :: l, p :: ps, σ, t, hl, ht => by
   have hn : t < (σ.put o.dst p).n := by cases o.dst <;> exact ht
   rcases zhs l ps (σ.put o.dst p) t (by simpa using hl) hn with ⟨j, o', p', h1, h2, h3, h4⟩ | ⟨h1, h2⟩
   · exact .inl ⟨j + 1, o', p', by simpa using h1, by simpa using h2, h3, h4⟩
   · by_cases hd : o.dst = some t
     · refine .inl ⟨0, o, p, rfl, rfl, hd, ?_⟩
       simp only [z4g]
       rw [h2, hd, z1ht _ _ _ ht]
     · refine .inr ⟨fun j o' h => ?_, ?_⟩
       · cases j with
         | zero => simp at h; subst h; exact hd
         | succ j => exact h1 j o' (by simpa using h)
       · simp only [z4g]
         rw [h2]
         cases hdd : o.dst with
         | none => rfl
         | some d => exact z1lp _ _ _ _ (fun e => hd (by rw [hdd, e]))
 | [], _ :: _, _, _, hl, _ => by simp at hl
 | _ :: _, [], _, _, hl, _ => by simp at hl
structure Mid (ops : Array Oper) (ps : List PV) (σ : AS) (c : Cx) (D : Nat → Prop) (a : Act) (w : World) : Prop where
 good : Good w c σ.H σ.ts
 size : a.tmps.size = σ.n
 old : ∀ t, t < σ.n → (∀ (j : Nat) o, D j → ops[j]? = some o → o.dst ≠ some t) → VR w c (σ.get t) (a.tmps.getD t undef)
 new : ∀ (j : Nat) o p t, D j → ops[j]? = some o → ps[j]? = some p → o.dst = some t → t < σ.n → VR w c p (a.tmps.getD t undef)
 closed : ∀ (j : Nat) o e, D j → ops[j]? = some o → e ∈ o.after.toList → Region.binds .any e = true → D e.on
 lt : ∀ j, D j → j < ops.size
theorem zwg (a : Act) (d t : Nat) (v : Value) (hd : d < a.tmps.size) : (a.put (some d) v).tmps.getD t undef = if d = t then v else a.tmps.getD t undef := by
 simp only [Act.put, Array.getD_eq_getD_getElem?]
 by_cases h : d = t
 · subst h; rw [if_pos rfl, Array.getElem?_setIfInBounds_self_of_lt hd]; rfl
 · rw [if_neg h, Array.getElem?_setIfInBounds_ne h]
theorem AW.draw {P : Program} {id : Nat} {ops : Array Oper} {σ : AS} {Q : Exit → AS → Prop} (ps : List PV) (hm : P.follows .mixedOrders = true) (hok : z1iy ops = true)
   (hdn : ∀ o, o ∈ ops.toList → o.dst.all (fun d => decide (d < σ.n)) = true)
   (hq : Quiets P ops ops.toList ps σ) (hQ : Q .normal (z4g ops.toList ps σ)) : AW P (.region id ops true) σ Q := by
 intro c a w Q' hrel hK
 obtain ⟨hback, hdst, hpair⟩ := z1j9 hok
 obtain ⟨hlen, hat⟩ := z1f4 hq
 refine wp_region_any hm ?_
 have hx0 := zhm hrel.1 (w.drawn + 1)
 -- the induction
 have key : ∀ (fuel : Nat) (listed : Array Bool) (a' : Act) (w' : World), listed.size = ops.size →
     Mid ops ps σ c (fun j => listed.getD j false = true) a' w' → Ext w c w' c → a'.defers = a.defers →
     (fuel = 0 → Region.ready .any ops listed = []) → ((List.range ops.size).filter (fun j => !listed.getD j false)).length ≤ fuel →
     wpAny P .any ops Q' fuel listed a' w' := by
   intro fuel
   have fin : ∀ (listed : Array Bool) (a' : Act) (w' : World), listed.size = ops.size →
       Mid ops ps σ c (fun j => listed.getD j false = true) a' w' → Ext w c w' c → a'.defers = a.defers → Region.ready .any ops listed = [] → Q' .normal a' w' := by
     intro listed a' w' hsz hmid hx hd hr
     -- all are listed
     have hall : ∀ j, j < ops.size → listed.getD j false = true := by
       intro j
       induction j using Nat.strongRecOn with
       | _ j ih =>
         intro hj
         cases hl : listed.getD j false with
         | true => rfl
         | false =>
           have : j ∈ Region.ready .any ops listed := by
             rw [mem_ready]
             refine ⟨?_, ops[j], by simp [hj], fun e he hb => ?_⟩
             · have : j < listed.size := by omega
               simp only [Array.getD_eq_getD_getElem?, Array.getElem?_eq_getElem this, Option.getD_some] at hl ⊢
               exact hl
             · have hlt := zgc hback (o := ops[j]) (Array.getElem?_eq_getElem hj) (Array.mem_toList_iff.2 he) hb
               exact ih e.on hlt (by omega)
           rw [hr] at this; cases this
     refine hK .normal c a' w' _ hQ ⟨?_, ?_⟩ hx hd
     · obtain ⟨h1, h2, h3⟩ := zaz ops.toList ps σ
       rw [h2, h3]; exact hmid.good
     · obtain ⟨h1, h2, h3⟩ := zaz ops.toList ps σ
       refine ⟨by rw [h1]; exact hmid.size, fun t p hl ht => ?_⟩
       rw [h1] at ht
       have hg : (z4g ops.toList ps σ).get t = p := by
         simp only [AS.get, h1, Nat.blt_eq.mpr ht, cond_true, hl, Option.getD_some]
       have hts : t < a'.tmps.size := by rw [hmid.size]; exact ht
       refine ⟨a'.tmps[t], by simp [hts], ?_⟩
       have hgd : a'.tmps.getD t undef = a'.tmps[t] := by simp [Array.getD_eq_getD_getElem?, hts]
       rw [← hgd]
       rcases zhs ops.toList ps σ t hlen ht with ⟨j, o, p', h4, h5, h6, h7⟩ | ⟨h4, h5⟩
       · rw [← hg, h7]
         have ho : ops[j]? = some o := by simpa using h4
         exact hmid.new j o p' t (hall j (Array.getElem?_eq_some_iff.1 ho).1) ho h5 h6 ht
       · rw [← hg, h5]
         exact hmid.old t ht (fun j o _ ho => h4 j o (by simpa using ho))
   induction fuel with
   | zero =>
     intro listed a' w' hsz hmid hx hd h0 _
     exact ⟨h0 rfl, fin listed a' w' hsz hmid hx hd (h0 rfl)⟩
   | succ fuel ih =>
     intro listed a' w' hsz hmid hx hd _ hcount
     refine ⟨fin listed a' w' hsz hmid hx hd, fun i hi => ?_⟩
     rw [mem_ready] at hi
     obtain ⟨hnl, o, ho, hedges⟩ := hi
     have hil : i < ops.size := (Array.getElem?_eq_some_iff.1 ho).1
     have hnD : listed.getD i false = false := by
       have : i < listed.size := by omega
       simp only [Array.getD_eq_getD_getElem?, Array.getElem?_eq_getElem this, Option.getD_some] at hnl ⊢
       exact hnl
     have hp : ∃ p, ps[i]? = some p := by
       have : i < ps.length := by rw [← hlen]; simpa using hil
       exact ⟨ps[i], by simp [this]⟩
     obtain ⟨p, hp⟩ := hp
     obtain ⟨g, hg, hstep⟩ := hat i o p (by simpa using ho) hp
     obtain ⟨d, hdd, hdl⟩ := hdst i o ho
     have hdlt : d < σ.n := by
       have := hdn o (by simpa using Array.mem_toList_iff.2 (Array.mem_of_getElem? ho))
       rw [hdd] at this; simpa using this
     have hclosed := zlx hback hmid.closed hmid.lt
     -- the slots that the operation looks at
     have hrelo : RelC w' c ((pre ops.toList ps σ i).keep (o.looksAt ops)) a' := by
       obtain ⟨h1, h2, h3⟩ := zaz (ops.toList.take i) (ps.take i) σ
       refine ⟨by simp only [AS.keep, pre, h2, h3]; exact hmid.good, by simp only [AS.keep, pre, h1]; exact hmid.size, fun t q hl ht => ?_⟩
       simp only [AS.keep, pre, h1] at ht
       have hq' := zsq _ _ _ _ hl
       have hmem : t ∈ o.looksAt ops := by
         simp only [AS.keep] at hl
         clear hq' hat hq hK hclosed hmid hstep hg
         generalize o.looksAt ops = L at hl
         induction L with
         | nil => simp [look] at hl
         | cons s L ihL =>
           simp only [List.map_cons, look] at hl
           cases hb : Nat.beq s t with
           | true => rw [Nat.eq_of_beq_eq_true hb]; simp
           | false => rw [hb] at hl; simp [ihL (by simpa using hl)]
       have hts : t < a'.tmps.size := by rw [hmid.size]; exact ht
       refine ⟨a'.tmps[t], by simp [hts], ?_⟩
       have hgd : a'.tmps.getD t undef = a'.tmps[t] := by simp [Array.getD_eq_getD_getElem?, hts]
       rw [← hgd, ← hq']
       have hlen' : (ops.toList.take i).length = (ps.take i).length := by simp; rw [← hlen]; simp
       rcases zhs (ops.toList.take i) (ps.take i) σ t hlen' ht with ⟨j, oj, pj, h4, h5, h6, h7⟩ | ⟨h4, h5⟩
       · have hji : j < i := by
           have := (List.getElem?_eq_some_iff.1 h4).1; simp at this; omega
         have hoj : ops[j]? = some oj := by
           rw [List.getElem?_take, if_pos hji] at h4; simpa using h4
         have hpj : ps[j]? = some pj := by
           rw [List.getElem?_take, if_pos hji] at h5; exact h5
         have : bef ops i j = true := by
           rcases (hpair j i oj o hji hoj ho).2 with hap | hb
           · exact absurd hmem ((Oper.apart_spec hap).1 t h6)
           · exact hb
         -- j is ahead of i: it is listed, since i's edges are
         have hDj : listed.getD j false = true := by
           have hD' : ∀ (j : Nat) o' e, (listed.getD j false = true ∨ j = i) → ops[j]? = some o' → e ∈ o'.after.toList → Region.binds .any e = true →
               (listed.getD e.on false = true ∨ e.on = i) := by
             intro j o' e hj ho' he hb
             rcases hj with hj | hj
             · exact .inl (hmid.closed j o' e hj ho' he hb)
             · subst hj
               rw [ho] at ho'; cases ho'
               exact .inl (hedges e (by simpa using he) hb)
           have := zlx hback (D := fun j => listed.getD j false = true ∨ j = i) hD' (fun j hj => hj.elim (hmid.lt j) (fun e => e ▸ hil)) i j (.inr rfl) this
           rcases this with h | h
           · exact h
           · omega
         rw [show (pre ops.toList ps σ i).get t = pj from h7]
         exact hmid.new j oj pj t hDj hoj hpj h6 ht
       · rw [show (pre ops.toList ps σ i).get t = σ.get t from h5]
         refine hmid.old t ht (fun j oj hDj hoj he => ?_)
         by_cases hji : j < i
         · exact h4 j oj (by rw [List.getElem?_take, if_pos hji]; simpa using hoj) he
         · rcases Nat.lt_or_ge i j with hij | hij
           · rcases (hpair i j o oj hij ho hoj).2 with hap | hb
             · exact absurd hmem ((Oper.apart_spec hap).2.2 t he)
             · have := hclosed j i hDj hb
               rw [hnD] at this; cases this
           · have : j = i := by omega
             subst this
             rw [hnD] at hDj; cases hDj
     -- behind the operation
     have hnext : ∀ v w2, VR w2 c p v → Good w2 c σ.H σ.ts → Ext w' c w2 c → wpAny P .any ops Q' fuel (listed.setIfInBounds i true) (a'.put o.dst v) w2 := by
       intro v w2 hv hg2 hx2
       have hget : ∀ j, (listed.setIfInBounds i true).getD j false = true ↔ listed.getD j false = true ∨ j = i := by
         intro j
         by_cases hji : i = j
         · subst hji
           simp only [Array.getD_eq_getD_getElem?, Array.getElem?_setIfInBounds_self_of_lt (show i < listed.size by omega), Option.getD_some]; simp
         · rw [getD_set_ne false hji]
           exact ⟨fun h => .inl h, fun h => h.resolve_right (fun e => hji e.symm)⟩
       have hds : d < a'.tmps.size := by rw [hmid.size]; exact hdlt
       refine ih _ _ _ (by simp [hsz]) ?_ (hx.trans hx2) ((Act.put_defers' _ _ _).trans hd) ?_ ?_
       · refine ⟨hg2, ?_, ?_, ?_, ?_, ?_⟩
         · rw [hdd]; simp only [Act.put, Array.size_setIfInBounds]; exact hmid.size
         · intro t ht hno
           rw [hdd, zwg _ _ _ _ hds]
           have hne : d ≠ t := fun e => hno i o ((hget i).2 (.inr rfl)) ho (by rw [hdd, e])
           rw [if_neg hne]
           exact (hmid.old t ht (fun j oj hDj => hno j oj ((hget j).2 (.inl hDj)))).ext hx2
         · intro j oj pj t hDj hoj hpj hjt ht
           rw [hdd, zwg _ _ _ _ hds]
           by_cases hji : j = i
           · subst hji
             rw [ho] at hoj; cases hoj
             rw [hdd] at hjt; cases hjt
             rw [if_pos rfl]
             rw [hp] at hpj; cases hpj
             exact hv
           · have hne : d ≠ t := by
               intro e
               subst e
               rcases Nat.lt_or_ge j i with h | h
               · exact (hpair j i oj o h hoj ho).1 (by rw [hjt, hdd])
               · exact (hpair i j o oj (by omega) ho hoj).1 (by rw [hjt, hdd])
             rw [if_neg hne]
             exact (hmid.new j oj pj t (((hget j).1 hDj).resolve_right hji) hoj hpj hjt ht).ext hx2
         · intro j oj e hDj hoj he hb
           rcases (hget j).1 hDj with h | h
           · exact (hget _).2 (.inl (hmid.closed j oj e h hoj he hb))
           · subst h
             rw [ho] at hoj; cases hoj
             exact (hget _).2 (.inl (hedges e (by simpa using he) hb))
         · intro j hDj
           rcases (hget j).1 hDj with h | h
           · exact hmid.lt j h
           · subst h; exact hil
       · intro hf
         subst hf
         -- no fuel: nothing else was left
         have hlen1 : ((List.range ops.size).filter (fun j => !listed.getD j false)).length ≤ 1 := hcount
         apply List.eq_nil_iff_forall_not_mem.2
         intro j hj
         rw [mem_ready] at hj
         obtain ⟨hjn, oj, hoj, _⟩ := hj
         have hjl : j < ops.size := (Array.getElem?_eq_some_iff.1 hoj).1
         have hjD : (listed.setIfInBounds i true).getD j false = false := by
           have : j < (listed.setIfInBounds i true).size := by simp; omega
           simp only [Array.getD_eq_getD_getElem?, Array.getElem?_eq_getElem this, Option.getD_some] at hjn ⊢
           exact hjn
         have hji : j ≠ i := fun e => by
           have := (hget j).2 (.inr e); rw [hjD] at this; cases this
         have hjl' : listed.getD j false = false := by
           cases h : listed.getD j false with
           | false => rfl
           | true => have := (hget j).2 (.inl h); rw [hjD] at this; cases this
         have hmi : i ∈ (List.range ops.size).filter (fun j => !listed.getD j false) := by simp only [List.mem_filter, List.mem_range, hnD]; exact ⟨hil, rfl⟩
         have hmj : j ∈ (List.range ops.size).filter (fun j => !listed.getD j false) := by simp only [List.mem_filter, List.mem_range, hjl']; exact ⟨hjl, rfl⟩
         generalize (List.range ops.size).filter (fun j => !listed.getD j false) = L at hlen1 hmi hmj
         match L, hlen1 with
         | [], _ => cases hmi
         | [x], _ => simp at hmi hmj; omega
       · -- one less is left
         have : ((List.range ops.size).filter (fun j => !(listed.setIfInBounds i true).getD j false)).length < ((List.range ops.size).filter (fun j => !listed.getD j false)).length := by
           have e : (List.range ops.size).filter (fun j => !(listed.setIfInBounds i true).getD j false) =
               ((List.range ops.size).filter (fun j => !listed.getD j false)).filter (fun j => decide (j ≠ i)) := by
             rw [List.filter_filter]
             apply List.filter_congr
             intro j _
             by_cases hji : j = i
             · subst hji
               have := (hget j).2 (.inr rfl)
               rw [this]; simp
             · cases h : listed.getD j false with
               | true => rw [(hget j).2 (.inl h)]; simp
               | false =>
                 have : (listed.setIfInBounds i true).getD j false = false := by
                   cases h2 : (listed.setIfInBounds i true).getD j false with
                   | false => rfl
                   | true => exact absurd (((hget j).1 h2).resolve_right hji) (by rw [h]; simp)
                 rw [this]; simp [hji]
           rw [e]
           refine List.length_filter_lt_length_iff_exists.2 ⟨i, ?_, by simp⟩
           simp only [List.mem_filter, List.mem_range, hnD]; exact ⟨hil, rfl⟩
         omega
     unfold wpOp
     rw [ho]
     simp only
     rw [z2p hrelo.2 hg]
     cases g with
     | true =>
       simp only [if_true] at hstep ⊢
       refine .inl (hstep c a' w' _ Q' hrelo fun v w2 hv hg2 hx2 => ?_)
       obtain ⟨h1, h2, h3⟩ := zaz (ops.toList.take i) (ps.take i) σ
       exact hnext v w2 hv (by simpa only [AS.keep, pre, h2, h3] using hg2) hx2
     | false =>
       simp only [Bool.false_eq_true, if_false] at hstep ⊢
       subst hstep
       exact hnext undef w' zoa hmid.good (Ext.refl _ _)
 refine key ops.size _ a { w with drawn := w.drawn + 1 } (by simp) ?_ hx0.2 rfl ?_ ?_
 · refine ⟨hx0.1, hrel.2.1, fun t ht _ => ?_, fun j o p t hD => ?_, fun j o e hD => ?_, fun j hD => ?_⟩
   · have := hrel.2.eval (.tmp t)
     simp only [AS.eval, Act.eval] at this
     exact this.ext hx0.2
   all_goals
     simp only [Array.getD_eq_getD_getElem?, Array.getElem?_replicate] at hD
     split at hD <;> simp at hD
 · intro h0
   apply List.eq_nil_iff_forall_not_mem.2
   intro j hj
   rw [mem_ready] at hj
   obtain ⟨_, oj, hoj, _⟩ := hj
   have := (Array.getElem?_eq_some_iff.1 hoj).1
   omega
 · refine Nat.le_trans (List.length_filter_le _ _) ?_
   simp
theorem Quiets.q {P : Program} {ops : Array Oper} {o : Oper} {os : List Oper} {p : PV} {ps : List PV} {σ : AS} (hg : z5g ops (σ.keep (o.looksAt ops)) o = some true)
   (h : QStep P o (σ.keep (o.looksAt ops)) p) (hr : Quiets P ops os ps (σ.put o.dst p)) : Quiets P ops (o :: os) (p :: ps) σ := ⟨⟨true, hg, by simpa using h⟩, hr⟩
theorem Quiets.no {P : Program} {ops : Array Oper} {o : Oper} {os : List Oper} {ps : List PV} {σ : AS} (hg : z5g ops (σ.keep (o.looksAt ops)) o = some false)
   (hr : Quiets P ops os ps (σ.put o.dst (.tup []))) : Quiets P ops (o :: os) (.tup [] :: ps) σ := ⟨⟨false, hg, by simp⟩, hr⟩
theorem Quiets.nil {P : Program} {ops : Array Oper} {σ : AS} : Quiets P ops [] [] σ := trivial
end Go.Ab