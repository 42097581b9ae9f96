/- An abstract calculus over the model's weakest preconditions, part 5: indexes, parts, lengths, slices of slices, and what is built. -/
import Derived.Test.YtfjikgkcleefiaaDoorAb4
namespace Go.Ab

theorem run_asIntOf {P : Program} {w : World} {k : IntKind} {i : Int} : (asIntOf (.int k i)).run P w = .ok (k, i) w := rfl

theorem run_indexAt_slice {P : Program} {w : World} {t e : TypeId} {a : Addr} {len cap sz : Nat} {k : IntKind} {i : Int} (ht : P.underlying t = some (.slice e))
    (hs : tySz P e = some sz) (h0 : 0 ≤ i) (h1 : i < len) :
    (Instr.indexAt t (.slice (some a) len cap) (.int k i)).run P w = .ok (.pointer (some (a.add (i.toNat * sz)))) w := by
  unfold Instr.indexAt
  simp only [Sem.run_bind, run_asIntOf, Result.andThen_ok, run_underlying ht, Sem.run_pure]
  rw [if_pos ⟨h0, h1⟩]
  simp only [Sem.run_bind, run_sizeOf hs, Result.andThen_ok, Sem.run_pure]

theorem run_indexAt_array {P : Program} {w : World} {t e : TypeId} {a : Addr} {n sz : Nat} {k : IntKind} {i : Int} (ht : P.underlying t = some (.array n e))
    (hs : tySz P e = some sz) (h0 : 0 ≤ i) (h1 : i < n) :
    (Instr.indexAt t (.pointer (some a)) (.int k i)).run P w = .ok (.pointer (some (a.add (i.toNat * sz)))) w := by
  unfold Instr.indexAt
  simp only [Sem.run_bind, run_asIntOf, Result.andThen_ok, run_underlying ht, Sem.run_pure, Instr.sureAddr]
  rw [if_pos ⟨h0, h1⟩]
  simp only [Sem.run_bind, run_sizeOf hs, Result.andThen_ok, Sem.run_pure]

theorem VR_fz_drop {w : World} {c : Cx} {H : List AObj} {ts : List Bool} (g : Good w c H ts) {a : Addr} {cs : List PV} (hf : Foot w c a cs.length) (hl : Leafs cs)
    (hc : VRs w c cs (fun i => w.cell? ⟨a.block, a.off + i, none⟩)) (d : Nat) : VR w c (.fz (cs.drop d)) (.pointer (some (a.add d))) := by
  simp only [VR]
  refine ⟨a.add d, rfl, ?_, fun q hq => hl q (List.mem_of_mem_drop hq), ?_⟩
  · by_cases hd : d ≤ cs.length
    · exact hf.le g d (by simp; omega)
    · exact .inl (by simp; omega)
  · refine VRs_mk fun i p hp => ?_
    rw [List.getElem?_drop] at hp
    obtain ⟨v, h1, h2⟩ := VRs_get (fz_cells hf hc) hp
    have hlt := (List.getElem?_eq_some_iff.1 hp).1
    rcases hf with hf | ⟨hs, _⟩
    · omega
    · have e : ∀ j, a.add j = ⟨a.block, a.off + j, none⟩ := fun j => by
        cases a with
        | mk b o s => simp only at hs; subst hs; exact addr_add b o j
      rw [e] at h1 ⊢
      refine ⟨v, ?_, h2⟩
      show w.cell? ⟨a.block, a.off + d + i, none⟩ = some v
      rw [Nat.add_assoc]; exact h1

/-- an element of a frozen slice -/
theorem q_index_tr {P : Program} {o : Oper} {σ : AS} {t e : TypeId} {x y : Operand} {len sz : Nat} {cs : List PV} {tl : Tail} {k : IntKind} {i : Int} (ho : o.op = .indexAddr t x y)
    (ht : P.underlying t = some (.slice e)) (hs : tySz P e = some sz) (hx : σ.eval x = .tr len cs tl) (hy : σ.eval y = .val (.int k i)) (h0 : 0 ≤ i) (h1 : i < len) :
    QStep P o σ (.fz (cs.drop (i.toNat * sz))) :=
  q_run fun w c act hr => by
    have hv := hr.2.eval x
    have e2 := eval_val hr.2 hy
    rw [hx] at hv
    simp only [VR] at hv
    rcases hv with ⟨_, hl, _⟩ | ⟨a, cap, hv, _, hf, _, hl, hc⟩
    · omega
    · exact ⟨.pointer (some (a.add (i.toNat * sz))), by simp only [execOp, ho, hv, e2, Sem.run_bind, run_indexAt_slice ht hs h0 h1, Result.andThen_ok]; rfl,
        VR_fz_drop hr.1 hf hl hc _⟩

/-- an element of a slice of the abstract heap -/
theorem q_index_sl {P : Program} {o : Oper} {σ : AS} {t e : TypeId} {x y : Operand} {b off len cap sz : Nat} {k : IntKind} {i : Int} (ho : o.op = .indexAddr t x y)
    (ht : P.underlying t = some (.slice e)) (hs : tySz P e = some sz) (hx : σ.eval x = .sl b off len cap) (hy : σ.eval y = .val (.int k i)) (h0 : 0 ≤ i) (h1 : i < len) :
    QStep P o σ (.ptr b (off + i.toNat * sz)) :=
  q_run fun w c act hr => by
    have hv := hr.2.eval x
    have e2 := eval_val hr.2 hy
    rw [hx] at hv
    simp only [VR] at hv
    obtain ⟨kk, hk, hv⟩ := hv
    refine ⟨.pointer (some ⟨kk, off + i.toNat * sz, none⟩), ?_, ?_⟩
    · simp only [execOp, ho, hv, e2, Sem.run_bind, run_indexAt_slice ht hs h0 h1, Result.andThen_ok, addr_add]; rfl
    · simp only [VR]; exact ⟨kk, hk, rfl⟩

theorem q_index_ptr {P : Program} {o : Oper} {σ : AS} {t e : TypeId} {x y : Operand} {b off n sz : Nat} {k : IntKind} {i : Int} (ho : o.op = .indexAddr t x y)
    (ht : P.underlying t = some (.array n e)) (hs : tySz P e = some sz) (hx : σ.eval x = .ptr b off) (hy : σ.eval y = .val (.int k i)) (h0 : 0 ≤ i) (h1 : i < n) :
    QStep P o σ (.ptr b (off + i.toNat * sz)) :=
  q_run fun w c act hr => by
    have hv := hr.2.eval x
    have e2 := eval_val hr.2 hy
    rw [hx] at hv
    simp only [VR] at hv
    obtain ⟨kk, hk, hv⟩ := hv
    refine ⟨.pointer (some ⟨kk, off + i.toNat * sz, none⟩), ?_, ?_⟩
    · simp only [execOp, ho, hv, e2, Sem.run_bind, run_indexAt_array ht hs h0 h1, Result.andThen_ok, addr_add]; rfl
    · simp only [VR]; exact ⟨kk, hk, rfl⟩

theorem q_index_fz {P : Program} {o : Oper} {σ : AS} {t e : TypeId} {x y : Operand} {n sz : Nat} {cs : List PV} {k : IntKind} {i : Int} (ho : o.op = .indexAddr t x y)
    (ht : P.underlying t = some (.array n e)) (hs : tySz P e = some sz) (hx : σ.eval x = .fz cs) (hy : σ.eval y = .val (.int k i)) (h0 : 0 ≤ i) (h1 : i < n) :
    QStep P o σ (.fz (cs.drop (i.toNat * sz))) :=
  q_run fun w c act hr => by
    have hv := hr.2.eval x
    have e2 := eval_val hr.2 hy
    rw [hx] at hv
    simp only [VR] at hv
    obtain ⟨a, hv, hf, hl, hc⟩ := hv
    exact ⟨.pointer (some (a.add (i.toNat * sz))), by simp only [execOp, ho, hv, e2, Sem.run_bind, run_indexAt_array ht hs h0 h1, Result.andThen_ok]; rfl,
        VR_fz_drop hr.1 hf hl hc _⟩

theorem q_field_fz {P : Program} {o : Oper} {σ : AS} {t : TypeId} {x : Operand} {i fo : Nat} {cs : List PV} (ho : o.op = .fieldAddr t x i) (hf : fldOff P t i = some fo)
    (hx : σ.eval x = .fz cs) : QStep P o σ (.fz (cs.drop fo)) :=
  q_run fun w c act hr => by
    have hv := hr.2.eval x
    rw [hx] at hv
    simp only [VR] at hv
    obtain ⟨a, e, hft, hl, hc⟩ := hv
    refine ⟨.pointer (some (a.add fo)), ?_, VR_fz_drop hr.1 hft hl hc _⟩
    simp only [execOp, ho, e, Sem.run_bind, run_fieldAt hf, Result.andThen_ok]; rfl

/-! ### parts of values -/
def Part (P : Program) (t : TypeId) (cs : List PV) (off : Nat) (q : PV) : Prop :=
  ∀ w c (vs : Array Value), vs.size = cs.length → Leafs cs → VRs w c cs (fun i => vs[i]?) → ∃ u, (part t vs off).run P w = .ok u w ∧ VR w c q u

theorem part_agg {P : Program} {t : TypeId} {cs qs : List PV} {off n : Nat} (ha : tyAgg P t = some true) (hn : tySz P t = some n)
    (hq : (cs.drop off).take n = qs) (hlen : qs.length = n) : Part P t cs off (.agg qs) := by
  intro w c vs hv hl h
  refine ⟨.agg (vs.extract off (off + n)), by simp only [part, Sem.run_bind, run_isAgg ha, Result.andThen_ok, if_true, run_sizeOf hn]; rfl, ?_⟩
  simp only [VR]
  have hle : off + n ≤ cs.length ∨ n = 0 := by
    have : ((cs.drop off).take n).length = n := by rw [hq, hlen]
    simp at this; omega
  refine ⟨_, rfl, by simp [hlen]; omega, fun q hq' => hl q (List.mem_of_mem_drop (List.mem_of_mem_take (hq ▸ hq'))), VRs_mk fun i p hp => ?_⟩
  rw [← hq, List.getElem?_take] at hp
  split at hp
  · rename_i hi
    rw [List.getElem?_drop] at hp
    obtain ⟨u, h1, h2⟩ := VRs_get h hp
    refine ⟨u, ?_, h2⟩
    rw [Array.getElem?_extract, if_pos (by omega)]
    exact h1
  · cases hp

theorem part_cell {P : Program} {t : TypeId} {cs : List PV} {q : PV} {off : Nat} (ha : tyAgg P t = some false) (hq : cs[off]? = some q) : Part P t cs off q := by
  intro w c vs hv _ h
  obtain ⟨u, h1, h2⟩ := VRs_get h hq
  exact ⟨u, by simp only [part, Sem.run_bind, run_isAgg ha, Result.andThen_ok, Bool.false_eq_true, if_false, h1]; rfl, h2⟩

theorem q_fld {P : Program} {o : Oper} {σ : AS} {t : TypeId} {x : Operand} {i : Nat} {cs : List PV} {q : PV} {fs : Array Field} {f : Field} (ho : o.op = .field t x i)
    (ht : P.underlying t = some (.struct fs)) (hf : fs[i]? = some f) (hx : σ.eval x = .agg cs) (hp : Part P f.type cs f.offset q) : QStep P o σ q :=
  q_run fun w c act hr => by
    have hv := hr.2.eval x
    rw [hx] at hv
    simp only [VR] at hv
    obtain ⟨vs, e, h1, hl, h2⟩ := hv
    obtain ⟨u, h3, h4⟩ := hp w c vs h1 hl h2
    refine ⟨u, ?_, h4⟩
    simp only [execOp, ho, e, Instr.field, Sem.run_bind, run_underlying ht, Result.andThen_ok, hf, asAgg, Sem.run_pure, h3]

theorem q_idx {P : Program} {o : Oper} {σ : AS} {t e : TypeId} {x y : Operand} {n sz : Nat} {k : IntKind} {i : Int} {cs : List PV} {q : PV} (ho : o.op = .index t x y)
    (ht : P.underlying t = some (.array n e)) (hs : tySz P e = some sz) (hx : σ.eval x = .agg cs) (hy : σ.eval y = .val (.int k i)) (h0 : 0 ≤ i) (h1 : i < n)
    (hp : Part P e cs (i.toNat * sz) q) : QStep P o σ q :=
  q_run fun w c act hr => by
    have hv := hr.2.eval x
    have e2 := eval_val hr.2 hy
    rw [hx] at hv
    simp only [VR] at hv
    obtain ⟨vs, ev, hn, hl, h2⟩ := hv
    obtain ⟨u, h3, h4⟩ := hp w c vs hn hl h2
    refine ⟨u, ?_, h4⟩
    simp only [execOp, ho, ev, e2, Instr.index, Sem.run_bind, run_asIntOf, run_underlying ht, Result.andThen_ok]
    rw [if_pos ⟨h0, h1⟩]
    simp only [Sem.run_bind, run_sizeOf hs, Result.andThen_ok, h3, Sem.run_pure]

theorem q_idxStr {P : Program} {o : Oper} {σ : AS} {t : TypeId} {x y : Operand} {k : IntKind} {i : Int} {s : ByteArray} {b : UInt8} (ho : o.op = .index t x y)
    (ht : P.underlying t = some .string) (hx : σ.eval x = .val (.string s)) (hy : σ.eval y = .val (.int k i)) (h0 : 0 ≤ i) (hb : s[i.toNat]? = some b) :
    QStep P o σ (.val (.int .u8 b.toNat)) :=
  q_run fun w c act hr => by
    have e1 := eval_val hr.2 hx
    have e2 := eval_val hr.2 hy
    refine ⟨_, ?_, VR_val rfl⟩
    simp only [execOp, ho, e1, e2, Instr.index, Sem.run_bind, run_asIntOf, run_underlying ht, Result.andThen_ok]
    rw [if_pos h0, hb]; rfl

theorem q_extract {P : Program} {o : Oper} {σ : AS} {x : Operand} {i : Nat} {ps : List PV} {q : PV} (ho : o.op = .extract x i) (hx : σ.eval x = .tup ps)
    (hq : ps[i]? = some q) : QStep P o σ q :=
  q_run fun w c act hr => by
    have hv := hr.2.eval x
    rw [hx] at hv
    simp only [VR] at hv
    obtain ⟨vs, e, h1, h2⟩ := hv
    obtain ⟨u, h3, h4⟩ := VRs_get h2 hq
    exact ⟨u, by simp [execOp, ho, e, Instr.extract, h3], h4⟩

theorem q_nilCheck_ptr {P : Program} {o : Oper} {σ : AS} {x : Operand} {b off : Nat} (ho : o.op = .nilCheck x) (hx : σ.eval x = .ptr b off) : QStep P o σ (.ptr b off) :=
  q_run fun w c act hr => by
    have hv := hr.2.eval x
    rw [hx] at hv
    have hv' := hv
    simp only [VR] at hv
    obtain ⟨k, _, e⟩ := hv
    exact ⟨act.eval x, by simp only [execOp, ho, e]; rfl, hv'⟩

theorem q_nilCheck_fz {P : Program} {o : Oper} {σ : AS} {x : Operand} {cs : List PV} (ho : o.op = .nilCheck x) (hx : σ.eval x = .fz cs) : QStep P o σ (.fz cs) :=
  q_run fun w c act hr => by
    have hv := hr.2.eval x
    rw [hx] at hv
    have hv' := hv
    simp only [VR] at hv
    obtain ⟨k, e, _⟩ := hv
    exact ⟨act.eval x, by simp only [execOp, ho, e]; rfl, hv'⟩

theorem q_nilCheck_fn {P : Program} {o : Oper} {σ : AS} {x : Operand} {f : FuncId} {cs : List PV} (ho : o.op = .nilCheck x) (hx : σ.eval x = .fn f cs) : QStep P o σ (.fn f cs) :=
  q_run fun w c act hr => by
    have hv := hr.2.eval x
    rw [hx] at hv
    have hv' := hv
    simp only [VR] at hv
    obtain ⟨k, e, _⟩ := hv
    exact ⟨act.eval x, by simp only [execOp, ho, e]; rfl, hv'⟩

/-! ### builtins -/
theorem run_builtin {P : Program} {w w' : World} {o : Oper} {ρ : Operand → Value} {b : Builtin} {xs : Array Operand} {ats : Array TypeId} {n : Next}
    (ho : o.op = .call { callee := .builtin b, args := xs, argTypes := ats })
    (h : (builtin b ats o.type (xs.map fun | .const _ => true | _ => false) (xs.map ρ)).run P w = .ok n w') : (execOp ρ o).run P w = .ok n w' := by
  simp only [execOp, ho, resolve, Sem.run_bind, Sem.run_pure, Result.andThen_ok, invoke]
  exact h

theorem q_len_tr {P : Program} {o : Oper} {σ : AS} {t e : TypeId} {x : Operand} {len : Nat} {cs : List PV} {tl : Tail}
    (ho : o.op = .call { callee := .builtin .len, args := #[x], argTypes := #[t] }) (ht : P.underlying t = some (.slice e)) (hx : σ.eval x = .tr len cs tl) :
    QStep P o σ (.val (.int .i64 len)) :=
  q_run fun w c act hr => by
    have hv := hr.2.eval x
    rw [hx] at hv
    simp only [VR] at hv
    have hl : ∃ a cap, act.eval x = .slice a len cap := by
      rcases hv with ⟨h1, h2, _⟩ | ⟨a, cap, h1, _⟩
      · exact ⟨none, 0, by rw [h1, h2]⟩
      · exact ⟨some a, cap, h1⟩
    obtain ⟨a, cap, e⟩ := hl
    refine ⟨_, run_builtin ho ?_, VR_val rfl⟩
    simp [builtin, Builtin.len_, run_underlying ht, e, goInt]

theorem q_len_sl {P : Program} {o : Oper} {σ : AS} {t e : TypeId} {x : Operand} {b off len cap : Nat}
    (ho : o.op = .call { callee := .builtin .len, args := #[x], argTypes := #[t] }) (ht : P.underlying t = some (.slice e)) (hx : σ.eval x = .sl b off len cap) :
    QStep P o σ (.val (.int .i64 len)) :=
  q_run fun w c act hr => by
    have hv := hr.2.eval x
    rw [hx] at hv
    simp only [VR] at hv
    obtain ⟨k, _, e⟩ := hv
    refine ⟨_, run_builtin ho ?_, VR_val rfl⟩
    simp [builtin, Builtin.len_, run_underlying ht, e, goInt]

theorem q_cap_sl {P : Program} {o : Oper} {σ : AS} {t e : TypeId} {x : Operand} {b off len cap : Nat}
    (ho : o.op = .call { callee := .builtin .cap, args := #[x], argTypes := #[t] }) (ht : P.underlying t = some (.slice e)) (hx : σ.eval x = .sl b off len cap) :
    QStep P o σ (.val (.int .i64 cap)) :=
  q_run fun w c act hr => by
    have hv := hr.2.eval x
    rw [hx] at hv
    simp only [VR] at hv
    obtain ⟨k, _, e⟩ := hv
    refine ⟨_, run_builtin ho ?_, VR_val rfl⟩
    simp [builtin, Builtin.cap_, run_underlying ht, e, goInt]

theorem q_len_str {P : Program} {o : Oper} {σ : AS} {t : TypeId} {x : Operand} {s : ByteArray}
    (ho : o.op = .call { callee := .builtin .len, args := #[x], argTypes := #[t] }) (ht : P.underlying t = some .string) (hx : σ.eval x = .val (.string s)) :
    QStep P o σ (.val (.int .i64 s.size)) :=
  q_run fun w c act hr => by
    have e := eval_val hr.2 hx
    refine ⟨_, run_builtin ho ?_, VR_val rfl⟩
    simp [builtin, Builtin.len_, run_underlying ht, e, goInt]

theorem q_max {P : Program} {o : Oper} {σ : AS} {ats : Array TypeId} {x y : Operand} {k : IntKind} {a b : Int}
    (ho : o.op = .call { callee := .builtin .max, args := #[x, y], argTypes := ats }) (hx : σ.eval x = .val (.int k a)) (hy : σ.eval y = .val (.int k b)) :
    QStep P o σ (.val (.int k (if b > a then b else a))) :=
  q_run fun w c act hr => by
    have e1 := eval_val hr.2 hx
    have e2 := eval_val hr.2 hy
    refine ⟨_, run_builtin ho ?_, VR_val rfl⟩
    simp [builtin, Builtin.max_, Builtin.max2, e1, e2]

theorem q_min {P : Program} {o : Oper} {σ : AS} {ats : Array TypeId} {x y : Operand} {k : IntKind} {a b : Int}
    (ho : o.op = .call { callee := .builtin .min, args := #[x, y], argTypes := ats }) (hx : σ.eval x = .val (.int k a)) (hy : σ.eval y = .val (.int k b)) :
    QStep P o σ (.val (.int k (if b < a then b else a))) :=
  q_run fun w c act hr => by
    have e1 := eval_val hr.2 hx
    have e2 := eval_val hr.2 hy
    refine ⟨_, run_builtin ho ?_, VR_val rfl⟩
    simp [builtin, Builtin.min_, Builtin.min2, e1, e2]

theorem q_iptr {P : Program} {o : Oper} {σ : AS} {t e : TypeId} {x y : Operand} {b off n sz off' : Nat} {k : IntKind} {i : Int} (ho : o.op = .indexAddr t x y)
    (ht : P.underlying t = some (.array n e)) (hs : tySz P e = some sz) (hx : σ.eval x = .ptr b off) (hy : σ.eval y = .val (.int k i)) (h0 : 0 ≤ i) (h1 : i < n) (he : off + i.toNat * sz = off') :
    QStep P o σ (.ptr b off') := he ▸ q_index_ptr ho ht hs hx hy h0 h1

theorem loads_whole {P : Program} {H : List AObj} {t : TypeId} {b n : Nat} {cs : List PV} {e : TypeId} (ha : tyAgg P t = some true) (hn : tySz P t = some n)
    (hb : H[b]? = some (.row cs e)) (hlen : cs.length = n) : Loads P H t (.ptr b 0) (.agg cs) :=
  loads_row ha hn hb (by simp [← hlen]) hlen

/-- an element of a slice of one-cell things -/
theorem cell_map {α : Type} {l : List α} {f : α → PV} {i : Int} {d : α} (h0 : 0 ≤ i) (h : i < l.length) : ((l.map f).drop (i.toNat * 1))[0]? = some (f (l.getD i.toNat d)) := by
  have hlt : i.toNat < l.length := by omega
  rw [List.getElem?_drop, List.getElem?_map]
  simp [hlt, List.getD]

end Go.Ab
