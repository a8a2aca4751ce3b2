/-
  The evaluator is sound: operations that make and write memory.
-/
import Derived.Laws.NewFold
import Derived.Test.YtaebgjlinhmajaaGreatEngB
namespace Go.Eng
variable {P : Program}

/-! ### Operations that make -/
def Dp (D : Pt → Prop) (p : Pt) : Pt → Prop := fun q => D q ∨ q = p
/-- hyp: what is known where it runs -/
def ARes (P : Program) (o : Oper) (r : AHeap → R) (hyp : Env → (Pt → Prop) → World → (Operand → Value) → Prop) : Prop :=
  (∀ g, r g = .fail) ∨
  (∃ v, (∀ g, r g = .val v g) ∧ ∀ θ D W ρ, hyp θ D W ρ → v.ok θ D ∧ (execOp ρ o).run P W = .ok (.value (v.conc θ)) W) ∨
  (∃ v : Pt → AV, (∀ g, r g = .val (v g.next) g.skip) ∧ ∀ θ D W ρ p, hyp θ D W ρ → ¬ D p → ∃ blk base cap, blk < W.heap.size ∧ (v p).ok (θ.set p blk base cap) (Dp D p) ∧
    (execOp ρ o).run P W = .ok (.value ((v p).conc (θ.set p blk base cap))) W) ∨
  (∃ (v : Pt → AV) (ob : AObj), (∀ g, r g = .val (v g.next) (g.new ob)) ∧ ∀ θ D W ρ p, hyp θ D W ρ → ¬ D p → ∃ o' cap, (v p).ok (θ.set p W.heap.size 0 cap) (Dp D p) ∧
    ObjR (θ.set p W.heap.size 0 cap) (Dp D p) p (W.alloc o') ob ∧ (execOp ρ o).run P W = .ok (.value ((v p).conc (θ.set p W.heap.size 0 cap))) (W.alloc o'))
theorem ARes.mono {o : Oper} {r : AHeap → R} {h1 h2 : Env → (Pt → Prop) → World → (Operand → Value) → Prop} (h : ARes P o r h1) (hh : ∀ θ D W ρ, h2 θ D W ρ → h1 θ D W ρ) : ARes P o r h2 := by
  rcases h with h | ⟨v, h, k⟩ | ⟨v, h, k⟩ | ⟨v, ob, h, k⟩
  · exact .inl h
  · exact .inr (.inl ⟨v, h, fun θ D W ρ a => k θ D W ρ (hh _ _ _ _ a)⟩)
  · exact .inr (.inr (.inl ⟨v, h, fun θ D W ρ p a => k θ D W ρ p (hh _ _ _ _ a)⟩))
  · exact .inr (.inr (.inr ⟨v, ob, h, fun θ D W ρ p a => k θ D W ρ p (hh _ _ _ _ a)⟩))
structure AHyp (T : Regs) (θ : Env) (D : Pt → Prop) (W : World) (ρ : Operand → Value) : Prop where
  rel : RelR θ D T ρ
  low : ∀ q, D q → θ.blk q < W.heap.size
def AS (P : Program) (o : Oper) (f : OpF) : Prop := ∀ T, ARes P o (f T) (AHyp T)
theorem ARes.fail {o : Oper} {hyp : Env → (Pt → Prop) → World → (Operand → Value) → Prop} : ARes P o (fun _ => .fail) hyp := .inl fun _ => rfl
theorem AS_un {o : Oper} {x : Operand} {f : AV → AHeap → R} {g : OpF} (h : un x f = .mk g)
    (hf : ∀ v, ARes P o (f v) fun θ D W ρ => v.ok θ D ∧ ρ x = v.conc θ ∧ ∀ q, D q → θ.blk q < W.heap.size) : AS P o g := by
  intro T
  unfold un at h
  cases hx : rv x with
  | bad => rw [hx] at h; cases h
  | cst v =>
    rw [hx] at h; injection h with h; subst h
    refine (hf v).mono fun θ D W ρ a => ?_
    obtain ⟨h1, h2⟩ := rv_get (x := x) (v := v) a.rel (by rw [hx]; rfl)
    exact ⟨h1, h2, a.low⟩
  | reg b =>
    rw [hx] at h; injection h with h; subst h
    cases hb : T.at b with
    | none => exact .inl fun g => by simp only [hb]
    | some v =>
      have e : (fun h => (match T.at b with | some v => f v h | none => R.fail)) = f v := by funext h; simp only [hb]
      show ARes P o (fun h => (match T.at b with | some v => f v h | none => R.fail)) _
      rw [e]
      refine (hf v).mono fun θ D W ρ a => ?_
      obtain ⟨h1, h2⟩ := rv_get (x := x) (v := v) a.rel (by rw [hx]; exact hb)
      exact ⟨h1, h2, a.low⟩
theorem AS_many {o : Oper} {xs : List Operand} {f : List AV → AHeap → R} {g : OpF} (h : many (rvs xs) f = .mk g)
    (hf : ∀ l, ARes P o (f l) fun θ D W ρ => AV.oks θ D l ∧ xs.map ρ = AV.concs θ l ∧ ∀ q, D q → θ.blk q < W.heap.size) : AS P o g := by
  intro T
  unfold many at h
  injection h with h; subst h
  cases hb : RV.gets T (rvs xs) with
  | none => exact .inl fun g => by simp only [hb]
  | some l =>
    have e : (fun h => (match RV.gets T (rvs xs) with | some l => f l h | none => R.fail)) = f l := by funext h; simp only [hb]
    show ARes P o (fun h => (match RV.gets T (rvs xs) with | some l => f l h | none => R.fail)) _
    rw [e]
    refine (hf l).mono fun θ D W ρ a => ?_
    obtain ⟨h1, h2⟩ := rvs_gets a.rel hb
    exact ⟨h1, h2, a.low⟩
theorem AS_bi {o : Oper} {x y : Operand} {f : AV → AV → AHeap → R} {g : OpF} (h : bi x y f = .mk g)
    (hf : ∀ v w, ARes P o (f v w) fun θ D W ρ => v.ok θ D ∧ w.ok θ D ∧ ρ x = v.conc θ ∧ ρ y = w.conc θ ∧ ∀ q, D q → θ.blk q < W.heap.size) : AS P o g := by
  have e : ∀ T, (∀ h, g T h = match (rv x).get T, (rv y).get T with | some v, some w => f v w h | _, _ => .fail) := by
    intro T H
    unfold bi at h
    cases hx : rv x <;> cases hy : rv y <;> simp only [hx, hy, reduceCtorEq, Cl.mk.injEq] at h <;> subst h <;> simp only [RV.get]
    · cases T.at _ <;> simp only []
      cases T.at _ <;> rfl
    · cases T.at _ <;> rfl
    · cases T.at _ <;> rfl
  intro T
  cases hx : (rv x).get T with
  | none => exact .inl fun H => by rw [e, hx]
  | some v =>
    cases hy : (rv y).get T with
    | none => exact .inl fun H => by rw [e, hx, hy]
    | some w =>
      have e' : g T = f v w := by funext H; rw [e, hx, hy]
      rw [e']
      refine (hf v w).mono fun θ D W ρ a => ?_
      obtain ⟨h1, h2⟩ := rv_get a.rel hx
      obtain ⟨h3, h4⟩ := rv_get a.rel hy
      exact ⟨h1, h3, h2, h4, a.low⟩

theorem agree_dp {D : Pt → Prop} {p : Pt} (h : ¬ D p) (θ : Env) (blk base cap : Nat) : Agree D θ (θ.set p blk base cap) := fun q hq =>
  Env.set_ne fun e => by subst e; exact h hq
/-- a new block of cells -/
theorem obj_new {θ : Env} {D : Pt → Prop} {p : Pt} {W : World} {l : List AV} {c : Array Value} {e : TypeId} {opn : Option Nat} {n cap : Nat} (hp : ¬ D p) (hl : AV.oks θ D l) (hs : allSc l = true)
    (hc : ∀ (i : Nat) (v : AV), l[i]? = some v → c[i]? = some (v.conc θ)) (hn : n ≤ c.size) (hln : l.length ≤ n) (ho : match opn with | none => True | some sz => cap * sz ≤ c.size ∧ n ≤ cap * sz) :
    ObjR (θ.set p W.heap.size 0 cap) (Dp D p) p (W.alloc (.cells c e)) (.cells n (trOf l) opn) := by
  refine ⟨c, e, by rw [Env.set_same.1]; exact walloc_new, by rw [Env.set_same.2.1]; simpa using hn, fun i v hv => ?_, ?_⟩
  · rw [trOf_get] at hv
    have hlt := (List.getElem?_eq_some_iff.1 hv).1
    have hmem := List.mem_of_getElem? hv
    have hok := oks_iff.1 hl v hmem
    refine ⟨Nat.lt_of_lt_of_le hlt hln, ok_agree (agree_dp hp _ _ _ _) (fun q hq => .inl hq) v hok, allSc_iff.1 hs v hmem, ?_⟩
    rw [Env.set_same.2.1, conc_agree (agree_dp hp _ _ _ _) v hok, Nat.zero_add]
    exact hc i v hv
  · cases opn with
    | none => exact Env.set_same.2.1
    | some sz => simpa [OpnR, Env.set_same.2.1, Env.set_same.2.2] using ho
theorem concs_get {θ : Env} {l : List AV} {i : Nat} {v : AV} (h : l[i]? = some v) : (⟨AV.concs θ l⟩ : Array Value)[i]? = some (v.conc θ) := by simp [concs_eq, h]

theorem S_alloc {o : Oper} {e : TypeId} {g : OpF} (ho : o.op = .alloc e) (h : allocP P e = .mk g) : AS P o g := by
  unfold allocP at h
  split at h
  · rename_i z hz
    injection h with h; subst h
    intro T
    refine .inr (.inr (.inr ⟨fun p => .ptr p 0, .cells (lenF z) (trOf z) none, fun _ => rfl, ?_⟩))
    intro θ D W ρ p a hp
    obtain ⟨zv, z1, z2, z3, z4⟩ := zeroC_spec hz θ D
    refine ⟨.cells zv.cells e, 0, .inr rfl, obj_new hp z3 z4 (fun i v hv => by rw [z2]; exact concs_get hv) (by rw [z2]; simp [lenF_eq, concs_eq]) (by simp [lenF_eq]) trivial, ?_⟩
    simp only [execOp, ho, Instr.alloc, Sem.run_bind, z1, Result.andThen_ok, Go.newVar, newRow, run_newObj_alloc, Sem.run_pure, AV.conc, Env.set_same.1, Env.set_same.2.1, Nat.add_zero]
  · cases h
theorem S_box {o : Oper} {e : TypeId} {x : Operand} {g : OpF} (ho : o.op = .box e x) (h : un x boxD = .mk g) : AS P o g := by
  refine AS_un h fun v => ?_
  cases hf : v.flat with
  | none => exact .inl fun H => by simp [boxD, hf]
  | some l =>
    refine .inr (.inr (.inr ⟨fun p => .ptr p 0, .cells (lenF l) (trOf l) none, fun H => by simp [boxD, hf, newVarD], ?_⟩))
    intro θ D W ρ p ⟨hv, ex, _⟩ hp
    obtain ⟨f1, f2, f3⟩ := flat_spec (θ := θ) (n := D) hf hv
    refine ⟨.cells (v.conc θ).cells e, 0, .inr rfl, obj_new hp f2 f3 (fun i u hu => by rw [f1]; exact concs_get hu) (by rw [f1]; simp [lenF_eq, concs_eq]) (by simp [lenF_eq]) trivial, ?_⟩
    simp only [execOp, ho, ex, Instr.box, Sem.run_bind, Result.andThen_ok, Go.newVar, newRow, run_newObj_alloc, Sem.run_pure, AV.conc, Env.set_same.1, Env.set_same.2.1, Nat.add_zero]
theorem S_makeMap {o : Oper} {t : TypeId} (ho : o.op = .makeMap t none) : AS P o (fun _ h => .val (.mp h.next) (h.new (.map []))) := by
  intro T
  refine .inr (.inr (.inr ⟨fun p => .mp p, .map [], fun _ => rfl, ?_⟩))
  intro θ D W ρ p a hp
  refine ⟨.map #[] 0, 0, .inr rfl, ⟨#[], 0, by rw [Env.set_same.1]; exact walloc_new, by simp, by simp, Go.MapKept.stamped_empty 0⟩, ?_⟩
  simp only [execOp, ho, Instr.makeMap, Option.map_none, Sem.run_bind, Result.andThen_ok, run_newObj_alloc, Sem.run_pure, AV.conc, Env.set_same.1]

/-! rows of zeros -/
theorem range_mod {α : Type} [Inhabited α] (z : List α) : ∀ (n : Nat), (List.range (n * z.length)).map (fun i => z[i % z.length]!) = (List.replicate n z).flatten
  | 0 => by simp
  | n + 1 => by
    rw [Nat.succ_mul, Nat.add_comm, List.range_add, List.map_append, List.replicate_succ, List.flatten_cons, ← range_mod z n]
    congr 1
    · apply List.ext_getElem?
      intro i
      simp only [List.getElem?_map]
      by_cases hi : i < z.length
      · simp [hi, Nat.mod_eq_of_lt hi]
      · simp [hi]
    · rw [List.map_map]
      apply List.map_congr_left
      intro i _
      simp
theorem repF_concs (θ : Env) (z : List AV) : ∀ n, AV.concs θ (repF n z) = (List.replicate n (AV.concs θ z)).flatten
  | 0 => rfl
  | n + 1 => by
    have := repF_concs θ z n
    simp only [concs_eq] at this ⊢
    simp [repF, List.replicate_succ, this]
theorem repF_ok {θ : Env} {D : Pt → Prop} {z : List AV} (h : AV.oks θ D z) (hs : allSc z = true) : ∀ n, AV.oks θ D (repF n z) ∧ allSc (repF n z) = true ∧ (repF n z).length = n * z.length
  | 0 => ⟨trivial, rfl, by simp [repF]⟩
  | n + 1 => by
    obtain ⟨h1, h2, h3⟩ := repF_ok h hs n
    refine ⟨oks_iff.2 fun v hv => ?_, allSc_iff.2 fun v hv => ?_, by simp [repF, h3, Nat.succ_mul, Nat.add_comm]⟩
    · simp only [repF, List.mem_append] at hv
      exact hv.elim (oks_iff.1 h v) (oks_iff.1 h1 v)
    · simp only [repF, List.mem_append] at hv
      exact hv.elim (allSc_iff.1 hs v) (allSc_iff.1 h2 v)
theorem zeroRow (θ : Env) (z : List AV) (n : Nat) (zero : Array Value) (hz : zero = ⟨AV.concs θ z⟩) : (Array.range (n * zero.size)).map (zero[· % zero.size]!) = ⟨AV.concs θ (repF n z)⟩ := by
  subst hz
  apply Array.ext'
  have := range_mod (AV.concs θ z) n
  rw [repF_concs, ← this]
  simp
end Go.Eng
namespace Go.Eng
variable {P : Program}

theorem wrap_small {n : Nat} (h : n ≤ 1000000) : IntKind.i64.wrap (Int.ofNat n) = (n : Int) := by
  have h1 : (Int.ofNat n) = (n : Int) := rfl
  rw [h1]
  unfold IntKind.wrap
  simp only [IntKind.bits, IntKind.signed, Bool.true_and, decide_eq_true_eq]
  have h2 : ((n : Int) % 2 ^ 64) = n := by omega
  simp only [h2]
  rw [if_neg (fun hc => by have := of_decide_eq_true hc; have h3 : (n : Int) ≥ 9223372036854775808 := this; omega)]
theorem S_buildSlice {o : Oper} {t : TypeId} {n : Nat} {ps : Array (Nat × Operand)} {g : OpF} (ho : o.op = .buildSlice t n ps) (h : buildSliceP P t n ps.toList = .mk g) : AS P o g := by
  unfold buildSliceP at h
  split at h
  · rename_i e hu
    split at h
    · rename_i sz z hs hz
      rw [Nat.succ_eq_add_one] at hs
      split at h
      · rename_i hc
        simp only [Bool.and_eq_true, lenF_eq] at hc
        have hc1 : z.length = sz + 1 := Nat.eq_of_beq_eq_true hc.1
        have hc2 : n * (sz + 1) < 10000 := by simpa using hc.2
        refine AS_many h fun l => ?_
        cases hf : fillA (placesA (sz + 1) (ps.toList.map (·.1))) l (repF n z) with
        | none => exact .inl fun H => by simp [buildSliceD, hf]
        | some out =>
          refine .inr (.inr (.inr ⟨fun p => .sl p 0 n (.ex n), .cells (n * (sz + 1)) (trOf out) none, fun H => by simp [buildSliceD, hf, newSl], ?_⟩))
          intro θ D W ρ p ⟨hl, el, _⟩ hp
          obtain ⟨zv, z1, z2, z3, z4⟩ := zeroC_spec hz θ D
          obtain ⟨r1, r2, r3⟩ := repF_ok z3 z4 n
          obtain ⟨f1, f2, f3, f4⟩ := fill_run θ D (fun i => some (i * (sz + 1), sz + 1)) _ _ l (repF n z) out (placesA_ok (sz + 1) _) hf hl r1 r2
          have hlen : out.length = n * (sz + 1) := by rw [f2, r3, hc1]
          refine ⟨.cells ⟨AV.concs θ out⟩ e, 0, ⟨.inr rfl, Nat.le_refl _⟩, obj_new hp f3 f4 (fun i v hv => concs_get hv) (by simp [concs_eq, hlen]) (by omega) trivial, ?_⟩
          have hzs : zv.cells.size = sz + 1 := by rw [z2]; simp [concs_eq, hc1]
          have hrow : (if n * (sz + 1) = 0 then (pure #[] : Sem (Array Value)) else (do pure (← zeroValue e).cells)).run P W = .ok (if n * (sz + 1) = 0 then #[] else zv.cells) W := by
            split
            · rfl
            · simp [z1]
          have hcells : (Array.range (n * (sz + 1))).map ((if n * (sz + 1) = 0 then #[] else zv.cells)[· % (if n * (sz + 1) = 0 then #[] else zv.cells).size]!) = ⟨AV.concs θ (repF n z)⟩ := by
            have hn : n * (sz + 1) = 0 ∨ n * (sz + 1) ≠ 0 := by omega
            rcases hn with hn | hn
            · have : n = 0 := by
                rcases Nat.mul_eq_zero.1 hn with h | h
                · exact h
                · omega
              subst this
              simp [repF, AV.concs]
            · rw [if_neg hn]
              have := zeroRow θ z n zv.cells z2
              rw [hzs] at this ⊢
              exact this
          simp only [execOp, ho, Instr.buildSlice, Sem.run_bind, run_underlying hu, Result.andThen_ok, (sizeT_spec hs).1]
          rw [if_neg (by omega)]
          by_cases hn : n * (sz + 1) = 0
          · simp only [hn, if_true] at hcells ⊢
            simp only [Sem.run_pure, Result.andThen_ok, Sem.run_bind, hcells, parts_eq el, f1, newRow, run_newObj_alloc, AV.conc, Env.set_same.1, Env.set_same.2.1, ACap.conc, Nat.add_zero]
          · simp only [hn, if_false] at hcells ⊢
            simp only [Sem.run_pure, Result.andThen_ok, Sem.run_bind, z1, hcells, parts_eq el, f1, newRow, run_newObj_alloc, AV.conc, Env.set_same.1, Env.set_same.2.1, ACap.conc, Nat.add_zero]
      · cases h
    · cases h
  · cases h
theorem S_makeSlice {o : Oper} {t : TypeId} {l c : Operand} {g : OpF} (ho : o.op = .makeSlice t l c) (h : makeSliceP P t l c = .mk g) : AS P o g := by
  unfold makeSliceP at h
  split at h
  · rename_i e hu
    split at h
    · rename_i sz z ie hs hz hi
      rw [Nat.succ_eq_add_one] at hs
      split at h
      · rename_i hc
        simp only [Bool.and_eq_true, lenF_eq] at hc
        have hc1 : z.length = sz + 1 := Nat.eq_of_beq_eq_true hc.1
        have hc2 : ie.bytes ≤ 1000 := Nat.le_of_ble_eq_true hc.2
        refine AS_bi h fun v w => ?_
        unfold makeSliceD
        split
        · rename_i k ln
          split
          · rename_i k' cn
            split
            · rename_i hb
              simp only [Bool.and_eq_true] at hb
              have hb1 : ln ≤ cn := Nat.le_of_ble_eq_true hb.1
              have hb2 : cn ≤ 100000 := Nat.le_of_ble_eq_true hb.2
              refine .inr (.inr (.inr ⟨fun p => .sl p 0 ln (.ex cn), .cells (cn * (sz + 1)) (trOf (repF cn z)) none, fun H => rfl, ?_⟩))
              intro θ D W ρ p ⟨_, _, ev, ew, _⟩ hp
              obtain ⟨zv, z1, z2, z3, z4⟩ := zeroC_spec hz θ D
              obtain ⟨r1, r2, r3⟩ := repF_ok z3 z4 cn
              refine ⟨.cells ⟨AV.concs θ (repF cn z)⟩ e, 0, ⟨.inr rfl, hb1⟩, obj_new hp r1 r2 (fun i v hv => concs_get hv) (by simp [concs_eq, r3, hc1]) (by rw [r3, hc1]; omega) trivial, ?_⟩
              have hzs : zv.cells.size = sz + 1 := by rw [z2]; simp [concs_eq, hc1]
              have hrow : (if cn * (sz + 1) = 0 then (pure #[] : Sem (Array Value)) else (do pure (← zeroValue e).cells)).run P (W) = .ok (if cn * (sz + 1) = 0 then #[] else zv.cells) W := by
                split
                · rfl
                · simp [z1]
              have hcells : (Array.range (cn * (sz + 1))).map ((if cn * (sz + 1) = 0 then #[] else zv.cells)[· % (if cn * (sz + 1) = 0 then #[] else zv.cells).size]!) = ⟨AV.concs θ (repF cn z)⟩ := by
                have hn : cn * (sz + 1) = 0 ∨ cn * (sz + 1) ≠ 0 := by omega
                rcases hn with hn | hn
                · have : cn = 0 := by
                    rcases Nat.mul_eq_zero.1 hn with h | h
                    · exact h
                    · omega
                  subst this
                  simp [repF, AV.concs]
                · rw [if_neg hn]
                  have := zeroRow θ z cn zv.cells z2
                  rw [hzs] at this ⊢
                  exact this
              have hw1 : IntKind.i64.wrap (Int.ofNat ln) = (ln : Int) := wrap_small (by omega)
              have hw2 : IntKind.i64.wrap (Int.ofNat cn) = (cn : Int) := wrap_small (by omega)
              have hmul : (ie.bytes : Int) * (cn : Int) ≤ 2 ^ 48 := by
                have : ie.bytes * cn ≤ 1000 * 100000 := Nat.mul_le_mul hc2 hb2
                have h2 : ((ie.bytes * cn : Nat) : Int) ≤ ((1000 * 100000 : Nat) : Int) := Int.ofNat_le.2 this
                rw [Int.natCast_mul] at h2
                refine Int.le_trans h2 ?_
                decide
              simp only [execOp, ho, ev, ew, AV.conc, Instr.makeSlice, asInt, asIntOf, Sem.run_bind, run_underlying hu, Result.andThen_ok, Sem.run_pure, run_typeInfo (P := P) (w := W) hi, hw1, hw2]
              rw [if_neg (by simp; omega)]
              simp only [Sem.run_bind, run_askRoom, Result.andThen_ok, (sizeT_spec hs).1, Int.toNat_natCast]
              by_cases hn : cn * (sz + 1) = 0
              · simp only [hn, if_true] at hcells ⊢
                simp only [Sem.run_pure, Result.andThen_ok, Sem.run_bind, hcells, newRow, run_newObj_alloc, Env.set_same.1, Env.set_same.2.1, ACap.conc, Nat.add_zero]
              · simp only [hn, if_false] at hcells ⊢
                simp only [Sem.run_pure, Result.andThen_ok, Sem.run_bind, z1, hcells, newRow, run_newObj_alloc, Env.set_same.1, Env.set_same.2.1, ACap.conc, Nat.add_zero]
            · exact ARes.fail
          · exact ARes.fail
        · exact ARes.fail
      · cases h
    · cases h
  · cases h

/-! ### Slices -/
def BV.val (x : BV) (T : Regs) (dflt y : Nat) : Option Nat := x.get T dflt y none some
theorem BV.get_val {β : Type} (x : BV) (T : Regs) (d y : Nat) (bad : β) (k : Nat → β) : x.get T d y bad k = match x.val T d y with | some n => k n | none => bad := by
  unfold BV.val BV.get
  cases x with
  | no => rfl
  | bad => rfl
  | reg b =>
    simp only
    split
    · split <;> rfl
    · rfl
  | cst n => simp only; split <;> rfl
theorem bv_val {θ : Env} {D : Pt → Prop} {T : Regs} {ρ : Operand → Value} (h : RelR θ D T ρ) {x : Option Operand} {d y n : Nat} (hv : (bv x).val T d y = some n) :
    match x with | none => n = d | some op => n ≤ y ∧ ∃ k, ρ op = .int k n := by
  cases x with
  | none => simp [bv, BV.val, BV.get] at hv; simp [hv]
  | some op =>
    simp only [bv, BV.val] at hv
    have key := fun v => rv_get (x := op) (v := v) h
    split at hv
    · rename_i b hb
      simp only [BV.get] at hv
      split at hv
      · rename_i k m hm
        split at hv
        · rename_i hle
          injection hv with hv; subst hv
          exact ⟨Nat.le_of_ble_eq_true hle, k, (key (.int k (.ofNat m)) (by rw [hb]; exact hm)).2⟩
        · cases hv
      · cases hv
    · rename_i k m hb
      simp only [BV.get] at hv
      split at hv
      · rename_i hle
        injection hv with hv; subst hv
        exact ⟨Nat.le_of_ble_eq_true hle, k, (key (.int k (.ofNat m)) (by rw [hb]; rfl)).2⟩
      · cases hv
    · cases hv
theorem run_bound {k : IntKind} {n y : Nat} (h : n ≤ y) (code : BoundsCode) (w : World) : (Instr.sliceBound (.int k n) y code).run P w = .ok n w := by
  simp only [Instr.sliceBound, asIntOf, Sem.run_bind, Sem.run_pure, Result.andThen_ok]
  rw [if_pos ⟨Int.natCast_nonneg n, by omega⟩]
  simp
theorem run_bounds {s : Bool} {len cap l h m : Nat} {lo hi mx : Option Operand} {ρ : Operand → Value} (hmh : mx.isSome = true → hi.isSome = true)
    (hm : match mx with | none => m = cap | some op => m ≤ cap ∧ ∃ k, ρ op = .int k m) (hh : match hi with | none => h = len | some op => h ≤ m ∧ ∃ k, ρ op = .int k h)
    (hl : match lo with | none => l = 0 | some op => l ≤ h ∧ ∃ k, ρ op = .int k l) (w : World) :
    (Instr.sliceBounds s len cap (lo.map ρ) (hi.map ρ) (mx.map ρ)).run P w = .ok (l, h, m) w := by
  unfold Instr.sliceBounds
  cases mx with
  | none =>
    simp only at hm
    subst hm
    cases hi with
    | none =>
      simp only at hh
      subst hh
      cases lo with
      | none => simp only at hl; subst hl; simp
      | some lo => obtain ⟨h1, k, h2⟩ := hl; simp [h2, run_bound h1]
    | some hi =>
      obtain ⟨g1, k', g2⟩ := hh
      cases lo with
      | none => simp only at hl; subst hl; simp [g2, run_bound g1]
      | some lo => obtain ⟨h1, k, h2⟩ := hl; simp [g2, run_bound g1, h2, run_bound h1]
  | some mx =>
    obtain ⟨m1, mk, m2⟩ := hm
    cases hi with
    | none => simp at hmh
    | some hi =>
      obtain ⟨g1, k', g2⟩ := hh
      cases lo with
      | none => simp only at hl; subst hl; simp [m2, run_bound m1, g2, run_bound g1]
      | some lo => obtain ⟨h1, k, h2⟩ := hl; simp [m2, run_bound m1, g2, run_bound g1, h2, run_bound h1]
end Go.Eng
namespace Go.Eng
variable {P : Program}

theorem AS_un' {o : Oper} {x : Operand} {f : AV → Regs → AHeap → R} {g : OpF} (h : un' x f = .mk g)
    (hf : ∀ v T, ARes P o (f v T) fun θ D W ρ => v.ok θ D ∧ ρ x = v.conc θ ∧ AHyp T θ D W ρ) : AS P o g := by
  intro T
  unfold un' at h
  cases hx : rv x with
  | bad => rw [hx] at h; cases h
  | cst v =>
    rw [hx] at h; injection h with h; subst h
    refine (hf v T).mono fun θ D W ρ a => ?_
    obtain ⟨h1, h2⟩ := rv_get (x := x) (v := v) a.rel (by rw [hx]; rfl)
    exact ⟨h1, h2, a⟩
  | reg b =>
    rw [hx] at h; injection h with h; subst h
    cases hb : T.at b with
    | none => exact .inl fun g => by simp only [hb]
    | some v =>
      have e : (fun h => (match T.at b with | some v => f v T h | none => R.fail)) = f v T := by funext h; simp only [hb]
      show ARes P o (fun h => (match T.at b with | some v => f v T h | none => R.fail)) _
      rw [e]
      refine (hf v T).mono fun θ D W ρ a => ?_
      obtain ⟨h1, h2⟩ := rv_get (x := x) (v := v) a.rel (by rw [hx]; exact hb)
      exact ⟨h1, h2, a⟩
theorem ARes.val {o : Oper} {v : AV} {hyp : Env → (Pt → Prop) → World → (Operand → Value) → Prop}
    (h : ∀ θ D W ρ, hyp θ D W ρ → v.ok θ D ∧ (execOp ρ o).run P W = .ok (.value (v.conc θ)) W) : ARes P o (fun H => .val v H) hyp := .inr (.inl ⟨v, fun _ => rfl, h⟩)
/-- bounds -/
theorem ares_bounds' {o : Oper} {hyp : Env → (Pt → Prop) → World → (Operand → Value) → Prop} (lo hi mx : BV) (T : Regs) (c c' len : Nat) (hl hl' : Nat → Nat) (F : Nat → Nat → Nat → AHeap → R)
    (hF : ∀ l h m, mx.val T c c' = some m → hi.val T len (hl m) = some h → lo.val T 0 (hl' h) = some l → ARes P o (F l h m) hyp) :
    ARes P o (fun H => mx.get T c c' .fail fun m => hi.get T len (hl m) .fail fun h => lo.get T 0 (hl' h) .fail fun l => F l h m H) hyp := by
  cases hm : mx.val T c c' with
  | none => exact .inl fun H => by simp only [BV.get_val, hm]
  | some m =>
    cases hh : hi.val T len (hl m) with
    | none => exact .inl fun H => by simp only [BV.get_val, hm, hh]
    | some h =>
      cases hlo : lo.val T 0 (hl' h) with
      | none => exact .inl fun H => by simp only [BV.get_val, hm, hh, hlo]
      | some l =>
        have e : (fun H => mx.get T c c' .fail fun m => hi.get T len (hl m) .fail fun h => lo.get T 0 (hl' h) .fail fun l => F l h m H) = F l h m := by
          funext H; simp only [BV.get_val, hm, hh, hlo]
        rw [e]
        exact hF l h m hm hh hlo
theorem ares_bounds {o : Oper} {hyp : Env → (Pt → Prop) → World → (Operand → Value) → Prop} (lo hi mx : BV) (T : Regs) (c c' len : Nat) (hl : Nat → Nat) (F : Nat → Nat → Nat → AHeap → R)
    (hF : ∀ l h m, mx.val T c c' = some m → hi.val T len (hl m) = some h → lo.val T 0 h = some l → ARes P o (F l h m) hyp) :
    ARes P o (fun H => mx.get T c c' .fail fun m => hi.get T len (hl m) .fail fun h => lo.get T 0 h .fail fun l => F l h m H) hyp :=
  ares_bounds' lo hi mx T c c' len hl id F hF
def Bnd (ρ : Operand → Value) (n d y : Nat) : Option Operand → Prop
  | none => n = d
  | some op => n ≤ y ∧ ∃ k, ρ op = .int k n
theorem bv_bnd {θ : Env} {D : Pt → Prop} {T : Regs} {ρ : Operand → Value} (h : RelR θ D T ρ) {x : Option Operand} {d y n : Nat} (hv : (bv x).val T d y = some n) : Bnd ρ n d y x := by
  have := bv_val h hv
  cases x <;> exact this
theorem bnd_le {x : Option Operand} {ρ : Operand → Value} {n d y : Nat} (h : Bnd ρ n d y x) (hd : x = none → d ≤ y) : n ≤ y := by
  cases x with
  | none => have h : n = d := h; have := hd rfl; omega
  | some op => exact h.1
theorem bnd_up {x : Option Operand} {ρ : Operand → Value} {n d y y' : Nat} (h : Bnd ρ n d y x) (hy : y ≤ y') : Bnd ρ n d y' x := by
  cases x with
  | none => exact h
  | some op => exact ⟨Nat.le_trans h.1 hy, h.2⟩
theorem run_bounds' {s : Bool} {len cap l h m : Nat} {lo hi mx : Option Operand} {ρ : Operand → Value} (hmh : mx.isSome = true → hi.isSome = true)
    (hm : Bnd ρ m cap cap mx) (hh : Bnd ρ h len m hi) (hl : Bnd ρ l 0 h lo) (w : World) :
    (Instr.sliceBounds s len cap (lo.map ρ) (hi.map ρ) (mx.map ρ)).run P w = .ok (l, h, m) w :=
  run_bounds hmh (by cases mx <;> exact hm) (by cases hi <;> exact hh) (by cases lo <;> exact hl) w

theorem ares_ex {o : Oper} {t : TypeId} {x : Operand} {lo hi mx : Option Operand} {sz : Nat} {b : Pt} {off len c : Nat} {T : Regs} {v : AV} (hmh : mx.isSome = true → hi.isSome = true)
    (hrun : ∀ θ D W ρ, v.ok θ D ∧ ρ x = v.conc θ ∧ AHyp T θ D W ρ → D b ∧ len ≤ c ∧ ∃ s, ∀ l h m, (Instr.sliceBounds s len c (lo.map ρ) (hi.map ρ) (mx.map ρ)).run P W = .ok (l, h, m) W →
      (execOp ρ o).run P W = .ok (.value (.slice (some (if m = l then ⟨θ.blk b, θ.base b + off, none⟩ else (⟨θ.blk b, θ.base b + off, none⟩ : Addr).add (l * sz))) (h - l) (m - l))) W) :
    ARes P o (sliceEx (bv lo) (bv hi) (bv mx) sz b off len c T) fun θ D W ρ => v.ok θ D ∧ ρ x = v.conc θ ∧ AHyp T θ D W ρ := by
  unfold sliceEx
  refine ares_bounds (bv lo) (bv hi) (bv mx) T c c len id _ fun l h m hm hh hl => ?_
  unfold cutD
  refine ARes.val fun θ D W ρ a => ?_
  obtain ⟨d1, d2, s, d3⟩ := hrun θ D W ρ a
  have am := bv_bnd a.2.2.rel hm
  have ah : Bnd ρ h len m hi := bv_bnd a.2.2.rel hh
  have al := bv_bnd a.2.2.rel hl
  have lm : m ≤ c := bnd_le am fun _ => Nat.le_refl _
  have lh : h ≤ m := bnd_le ah fun e => by
    have : mx = none := by
      cases mx with
      | none => rfl
      | some _ => subst e; simp at hmh
    subst this
    have am : m = c := am
    omega
  have ll : l ≤ h := bnd_le al fun _ => Nat.zero_le _
  refine ⟨⟨d1, by show h - l ≤ m - l; omega⟩, ?_⟩
  rw [d3 l h m (run_bounds' hmh am ah al W)]
  simp only [AV.conc, ACap.conc]
  by_cases e : m = l
  · subst e; simp
  · have : Nat.beq m l = false := by
      cases hb : Nat.beq m l
      · rfl
      · exact absurd (Nat.eq_of_beq_eq_true hb) e
    simp only [if_neg e, this, cond_false, addr_add, Nat.add_assoc]

theorem S_slice {o : Oper} {t : TypeId} {x : Operand} {lo hi mx : Option Operand} {g : OpF} (ho : o.op = .slice t x lo hi mx) (h : sliceP P t x lo hi mx = .mk g) : AS P o g := by
  unfold sliceP at h
  split at h
  · cases h
  · rename_i hbad
    simp only [Bool.and_eq_true, Bool.or_eq_true] at hbad
    have hmh : mx.isSome = true → hi.isSome = true := fun hm => by
      rcases hbad.2 with h1 | h1
      · cases mx <;> simp at hm h1
      · exact h1
    split at h
    · rename_i hu
      split at h
      · refine AS_un' h fun v T => ?_
        cases v with
        | str s =>
          show ARes P o (fun H => (bv hi).get T s.size s.size .fail fun h => (bv lo).get T 0 h .fail fun l => .val (.str (s.extract l h)) H) _
          refine ares_bounds (bv lo) (bv hi) .no T s.size s.size s.size id (fun l h _ H => .val (.str (s.extract l h)) H) fun l h m hm hh hl => ?_
          refine ARes.val fun θ D W ρ a => ⟨trivial, ?_⟩
          simp only [BV.val, BV.get, Option.some.injEq] at hm
          subst hm
          have ah := bv_bnd a.2.2.rel hh
          have al := bv_bnd a.2.2.rel hl
          have := run_bounds' (P := P) (s := false) (mx := none) (len := s.size) (cap := s.size) (by simp) rfl ah al W
          simp only [Option.map_none] at this
          simp only [execOp, ho, Instr.sliceAt, Sem.run_bind, run_underlying hu, Result.andThen_ok, Instr.slice, a.2.1, AV.conc, Option.map_none, Option.isSome_none, Sem.run_pure, Bool.false_eq_true, if_false]
          simp [this]
        | _ => exact ARes.fail
      · cases h
    · rename_i e hu
      split at h
      · rename_i sz hs
        refine AS_un' h fun v T => ?_
        have hsl : ∀ (θ : Env) (W : World) (ρ : Operand → Value) (a : Option Addr) (len cap : Nat), ρ x = .slice a len cap → ∀ l h m, (Instr.sliceBounds true len cap (lo.map ρ) (hi.map ρ) (mx.map ρ)).run P W = .ok (l, h, m) W →
            (execOp ρ o).run P W = .ok (.value (.slice (if m = l then a else a.map (·.add (l * sz))) (h - l) (m - l))) W := fun θ W ρ a len cap ex l h m hb => by
          simp only [execOp, ho, Instr.sliceAt, Sem.run_bind, run_underlying hu, Result.andThen_ok, Instr.slice, ex, hb, (sizeT_spec hs).1, Sem.run_pure]
        cases v with
        | nils =>
          show ARes P o (fun H => (bv mx).get T 0 0 .fail fun m => (bv hi).get T 0 0 .fail fun h => (bv lo).get T 0 0 .fail fun l => .val .nils H) _
          refine ares_bounds' (bv lo) (bv hi) (bv mx) T 0 0 0 (fun _ => 0) (fun _ => 0) (fun _ _ _ H => .val .nils H) fun l h m hm hh hl => ?_
          refine ARes.val fun θ D W ρ a => ⟨trivial, ?_⟩
          have am := bv_bnd a.2.2.rel hm
          have ah := bv_bnd a.2.2.rel hh
          have al := bv_bnd a.2.2.rel hl
          have lm : m ≤ 0 := bnd_le am fun _ => Nat.le_refl _
          have lh : h ≤ 0 := bnd_le ah fun _ => Nat.le_refl _
          have ll : l ≤ 0 := bnd_le al fun _ => Nat.zero_le _
          obtain rfl : m = 0 := by omega
          obtain rfl : h = 0 := by omega
          obtain rfl : l = 0 := by omega
          rw [hsl θ W ρ none 0 0 a.2.1 0 0 0 (run_bounds' hmh am ah al W)]
          simp [AV.conc]
        | sl b off len c =>
          cases c with
          | ex c =>
            refine ares_ex (x := x) (t := t) hmh fun θ D W ρ a => ⟨a.1.1, a.1.2, true, fun l h m hb => ?_⟩
            rw [hsl θ W ρ _ len c a.2.1 l h m hb]
            congr 4
            split <;> rfl
          | op k =>
            show ARes P o (sliceOp (bv lo) (bv hi) (bv mx) sz b off len k T) _
            cases hmx : mx with
            | some mx' =>
              have hns : ∀ H, sliceOp (bv lo) (bv hi) (bv (some mx')) sz b off len k T H = (bv (some mx')).get T len len .fail fun m => (bv hi).get T len m .fail fun h => (bv lo).get T 0 h .fail fun l => cutD b off sz l h m H := by
                intro H
                have : bv (some mx') ≠ .no := by simp only [bv]; split <;> simp
                unfold sliceOp
                split
                · rename_i e; exact absurd e this
                · rfl
              have e : sliceOp (bv lo) (bv hi) (bv (some mx')) sz b off len k T = fun H => (bv (some mx')).get T len len .fail fun m => (bv hi).get T len m .fail fun h => (bv lo).get T 0 h .fail fun l => cutD b off sz l h m H := funext hns
              rw [e]
              subst hmx
              refine ares_bounds (bv lo) (bv hi) (bv (some mx')) T len len len id (fun l h m H => cutD b off sz l h m H) fun l h m hm hh hl => ?_
              unfold cutD
              refine ARes.val fun θ D W ρ a => ?_
              have am := bv_bnd a.2.2.rel hm
              have ah : Bnd ρ h len m hi := bv_bnd a.2.2.rel hh
              have al := bv_bnd a.2.2.rel hl
              have lm : m ≤ len := am.1
              have lh : h ≤ m := bnd_le ah fun e => by subst e; simp at hmh
              have ll : l ≤ h := bnd_le al fun _ => Nat.zero_le _
              have hok : k + len ≤ θ.cap b := a.1.2
              refine ⟨⟨a.1.1, by show h - l ≤ m - l; omega⟩, ?_⟩
              rw [hsl θ W ρ _ len _ a.2.1 l h m (run_bounds' hmh (cap := θ.cap b - k) ⟨by omega, am.2⟩ ah al W)]
              simp only [AV.conc, ACap.conc]
              by_cases e : m = l
              · subst e; simp
              · have : Nat.beq m l = false := by
                  cases hb : Nat.beq m l
                  · rfl
                  · exact absurd (Nat.eq_of_beq_eq_true hb) e
                simp only [if_neg e, this, cond_false, Option.map_some, addr_add, Nat.add_assoc]
            | none =>
              subst hmx
              show ARes P o (fun H => (bv hi).get T len len .fail fun h => (bv lo).get T 0 h .fail fun l => (match l with
                | 0 => R.val (.sl b off h (.op k)) H
                | l + 1 => (match Nat.blt (l + 1) len with
                  | true => R.val (.sl b (off + (l + 1) * sz) (h - (l + 1)) (.op (k + (l + 1)))) H
                  | false => R.val (.sl H.next 0 0 (.op 0)) H.skip))) _
              refine ares_bounds (bv lo) (bv hi) .no T len len len id (fun l h _ H => (match l with
                | 0 => R.val (.sl b off h (.op k)) H
                | l + 1 => (match Nat.blt (l + 1) len with
                  | true => R.val (.sl b (off + (l + 1) * sz) (h - (l + 1)) (.op (k + (l + 1)))) H
                  | false => R.val (.sl H.next 0 0 (.op 0)) H.skip))) fun l h m hm hh hl => ?_
              simp only [BV.val, BV.get, Option.some.injEq] at hm
              subst hm
              have facts : ∀ θ D W ρ, ((AV.sl b off len (.op k)).ok θ D ∧ ρ x = (AV.sl b off len (.op k)).conc θ ∧ AHyp T θ D W ρ) → h ≤ len ∧ l ≤ h ∧ k + len ≤ θ.cap b ∧ D b ∧
                  (execOp ρ o).run P W = .ok (.value (.slice (some (if θ.cap b - k = l then ⟨θ.blk b, θ.base b + off, none⟩ else (⟨θ.blk b, θ.base b + off, none⟩ : Addr).add (l * sz))) (h - l) (θ.cap b - k - l))) W := by
                intro θ D W ρ a
                have ah : Bnd ρ h len len hi := bv_bnd a.2.2.rel hh
                have al := bv_bnd a.2.2.rel hl
                have lh : h ≤ len := bnd_le ah fun _ => Nat.le_refl _
                have ll : l ≤ h := bnd_le al fun _ => Nat.zero_le _
                have hok : k + len ≤ θ.cap b := a.1.2
                refine ⟨lh, ll, hok, a.1.1, ?_⟩
                rw [hsl θ W ρ _ len _ a.2.1 l h (θ.cap b - k) (run_bounds' (mx := none) (by simp) rfl (bnd_up ah (by show len ≤ θ.cap b - k; omega)) al W)]
                congr 4
                split <;> rfl
              cases l with
              | zero =>
                refine ARes.val fun θ D W ρ a => ?_
                obtain ⟨f1, f2, f3, f4, f5⟩ := facts θ D W ρ a
                refine ⟨⟨f4, by show k + h ≤ θ.cap b; omega⟩, ?_⟩
                rw [f5]
                simp [AV.conc, ACap.conc, addr_add]
              | succ l =>
                dsimp only
                cases hlt : Nat.blt (l + 1) len with
                | true =>
                  have hlt : l + 1 < len := by rw [Nat.blt_eq] at hlt; exact hlt
                  refine ARes.val fun θ D W ρ a => ?_
                  obtain ⟨f1, f2, f3, f4, f5⟩ := facts θ D W ρ a
                  refine ⟨⟨f4, by show k + (l + 1) + (h - (l + 1)) ≤ θ.cap b; omega⟩, ?_⟩
                  rw [f5, if_neg (by omega)]
                  simp only [AV.conc, ACap.conc, addr_add, Nat.add_assoc, Nat.sub_sub]
                | false =>
                  have hlt : ¬ l + 1 < len := fun hc => by rw [show (l + 1).blt len = true by rw [Nat.blt_eq]; exact hc] at hlt; cases hlt
                  refine .inr (.inr (.inl ⟨fun p => .sl p 0 0 (.op 0), fun _ => rfl, fun θ D W ρ p a hp => ?_⟩))
                  obtain ⟨f1, f2, f3, f4, f5⟩ := facts θ D W ρ a
                  refine ⟨θ.blk b, θ.base b + off + (if θ.cap b - k = l + 1 then 0 else (l + 1) * sz), θ.cap b - k - (l + 1), a.2.2.low b f4, ⟨.inr rfl, ?_⟩, ?_⟩
                  · rw [Env.set_same.2.2]; exact Nat.zero_le _
                  · rw [f5]
                    simp only [AV.conc, ACap.conc, Env.set_same.1, Env.set_same.2.1, Env.set_same.2.2, Nat.add_zero, Nat.sub_zero]
                    rw [show h - (l + 1) = 0 by omega]
                    split
                    · simp
                    · simp only [addr_add]
        | _ => exact ARes.fail
      · cases h
    · rename_i n e hu
      split at h
      · rename_i sz hs
        refine AS_un' h fun v T => ?_
        cases v with
        | ptr b off =>
          refine ares_ex (x := x) (t := t) hmh fun θ D W ρ a => ⟨a.1, Nat.le_refl _, false, fun l h m hb => ?_⟩
          simp only [execOp, ho, Instr.sliceAt, Sem.run_bind, run_underlying hu, Result.andThen_ok, a.2.1, AV.conc, Instr.sureAddr, hb, (sizeT_spec hs).1, Sem.run_pure]
        | _ => exact ARes.fail
      · cases h
    · cases h
end Go.Eng
namespace Go.Eng
variable {P : Program}

/-! ### Effects -/
inductive ERes (P : Program) (o : Oper) (θ : Env) (h : AHeap) (W : World) (ρ : Operand → Value) : R → Prop
  | fail : ERes P o θ h W ρ .fail
  | val {v : AV} {h' : AHeap} {θ' : Env} {W' : World} (run : (execOp ρ o).run P W = .ok (.value (v.conc θ')) W') (st : Step θ h W θ' h' W') (hv : v.ok θ' h'.D) : ERes P o θ h W ρ (.val v h')
  | skip {h' : AHeap} {θ' : Env} {W' : World} (run : (execOp ρ o).run P W = .ok .skip W') (st : Step θ h W θ' h' W') : ERes P o θ h W ρ (.skip h')
  | call {f : Nat} {args : List AV} (run : (execOp ρ o).run P W = .ok (.enter f ⟨AV.concs θ args⟩) W) (ha : AV.oks θ h.D args) : ERes P o θ h W ρ (.call f args h)
  | defer {f : Nat} {args : List AV} (a b : Array Value) (hb : hasBody P f = true) (run : (execOp ρ o).run P W = .ok (.defer { target := .fn (.func f) b, args := a }) W) (he : a ++ b = ⟨AV.concs θ args⟩)
      (ha : AV.oks θ h.D args) : ERes P o θ h W ρ (.defer f args h)
  | panic {t : TypeId} {v : AV} (run : (execOp ρ o).run P W = .halt (.panic (.iface t (v.conc θ))) W) (hv : v.ok θ h.D) : ERes P o θ h W ρ (.panic (.ifc t v) h)
def ES (P : Program) (o : Oper) (f : OpF) : Prop := ∀ (T : Regs) (h : AHeap) (θ : Env) (W : World) (ρ : Operand → Value), HR θ h W → RelR θ h.D T ρ → ERes P o θ h W ρ (f T h)
theorem ES_of_LS {o : Oper} {f : OpF} (hf : LS P o f) : ES P o f := by
  intro T h θ W ρ hr hrel
  rcases hf T h θ h.D W ρ hr (fun _ hp => hp) hrel with e | ⟨v, e, hv, hrun⟩
  · rw [e]; exact .fail
  · rw [e]; exact .val hrun (Step.refl hr) hv
theorem D_succ {h : AHeap} {q : Pt} (hq : Dp h.D h.next q) : q.toNat < h.next.toNat + 1 := by
  rcases hq with hq | hq
  · have : q.toNat < h.next.toNat := hq; omega
  · subst hq; omega
theorem ES_of_AS {o : Oper} {f : OpF} (hf : AS P o f) : ES P o f := by
  intro T h θ W ρ hr hrel
  have hyp : AHyp T θ h.D W ρ := ⟨hrel, hr.low⟩
  have hn : ¬ h.D h.next := fun hp => Nat.lt_irrefl _ hp
  rcases hf T with e | ⟨v, e, k⟩ | ⟨v, e, k⟩ | ⟨v, ob, e, k⟩
  · rw [e]; exact .fail
  · rw [e]
    obtain ⟨h1, h2⟩ := k θ h.D W ρ hyp
    exact .val h2 (Step.refl hr) h1
  · rw [e]
    obtain ⟨blk, base, cap, h1, h2, h3⟩ := k θ h.D W ρ h.next hyp hn
    exact .val h3 (Step.skip hr blk base cap h1) (ok_mono (fun q hq => by show q.toNat < h.skip.next.toNat; rw [AHeap.next_skip]; exact D_succ hq) h2)
  · rw [e]
    obtain ⟨o', cap, h1, h2, h3⟩ := k θ h.D W ρ h.next hyp hn
    refine .val h3 (Step.new hr o' ob cap ?_) (ok_mono (fun q hq => by show q.toNat < (h.new ob).next.toNat; rw [AHeap.next_new]; exact D_succ hq) h1)
    exact h2.keep (.inr rfl) (Agree.refl _ _) (fun q hq => D_succ hq) rfl
theorem ES_un {o : Oper} {x : Operand} {f : AV → AHeap → R} {g : OpF} (h : un x f = .mk g)
    (hf : ∀ v h θ W ρ, HR θ h W → v.ok θ h.D → ρ x = v.conc θ → ERes P o θ h W ρ (f v h)) : ES P o g := by
  intro T H θ W ρ hr hrel
  unfold un at h
  cases hx : rv x with
  | bad => rw [hx] at h; cases h
  | cst v =>
    rw [hx] at h; injection h with h; subst h
    obtain ⟨h1, h2⟩ := rv_get (x := x) (v := v) hrel (by rw [hx]; rfl)
    exact hf v H θ W ρ hr h1 h2
  | reg b =>
    rw [hx] at h; injection h with h; subst h
    dsimp only
    cases hb : T.at b with
    | none => exact .fail
    | some v =>
      obtain ⟨h1, h2⟩ := rv_get (x := x) (v := v) hrel (by rw [hx]; exact hb)
      exact hf v H θ W ρ hr h1 h2
theorem bi_eq {x y : Operand} {f : AV → AV → AHeap → R} {g : OpF} (h : bi x y f = .mk g) (T : Regs) (H : AHeap) : g T H = match (rv x).get T, (rv y).get T with | some v, some w => f v w H | _, _ => .fail := by
  unfold bi at h
  cases hx : rv x <;> cases hy : rv y <;> simp only [hx, hy, reduceCtorEq, Cl.mk.injEq] at h <;> subst h <;> simp only [RV.get]
  · cases T.at _ <;> simp only []
    cases T.at _ <;> rfl
  · cases T.at _ <;> rfl
  · cases T.at _ <;> rfl
theorem ES_bi {o : Oper} {x y : Operand} {f : AV → AV → AHeap → R} {g : OpF} (h : bi x y f = .mk g)
    (hf : ∀ v w h θ W ρ, HR θ h W → v.ok θ h.D → w.ok θ h.D → ρ x = v.conc θ → ρ y = w.conc θ → ERes P o θ h W ρ (f v w h)) : ES P o g := by
  intro T H θ W ρ hr hrel
  rw [bi_eq h]
  cases hx : (rv x).get T with
  | none => exact .fail
  | some v =>
    cases hy : (rv y).get T with
    | none => exact .fail
    | some w =>
      obtain ⟨h1, h2⟩ := rv_get hrel hx
      obtain ⟨h3, h4⟩ := rv_get hrel hy
      exact hf v w H θ W ρ hr h1 h3 h2 h4
theorem ES_many {o : Oper} {xs : List Operand} {f : List AV → AHeap → R} {g : OpF} (h : many (rvs xs) f = .mk g)
    (hf : ∀ l h θ W ρ, HR θ h W → AV.oks θ h.D l → xs.map ρ = AV.concs θ l → ERes P o θ h W ρ (f l h)) : ES P o g := by
  intro T H θ W ρ hr hrel
  unfold many at h
  injection h with h; subst h
  dsimp only
  cases hl : RV.gets T (rvs xs) with
  | none => exact .fail
  | some l =>
    obtain ⟨h1, h2⟩ := rvs_gets hrel hl
    exact hf l H θ W ρ hr h1 h2

/-! rows -/
theorem splice_get {α : Type} (cur vs : List α) (o : Nat) (h : o + vs.length ≤ cur.length) (j : Nat) :
    (cur.take o ++ vs ++ cur.drop (o + vs.length))[j]? = if j < o then cur[j]? else if j < o + vs.length then vs[j - o]? else cur[j]? := by
  have h1 : (cur.take o).length = o := by simp; omega
  by_cases a : j < o
  · rw [if_pos a, List.append_assoc, List.getElem?_append_left (by omega), List.getElem?_take_of_lt a]
  · rw [if_neg a]
    by_cases b : j < o + vs.length
    · rw [if_pos b, List.getElem?_append_left (by simp; omega), List.getElem?_append_right (by omega), h1]
    · rw [if_neg b, List.getElem?_append_right (by simp; omega), List.getElem?_drop]
      congr 1
      simp; omega
theorem row_write {W : World} {g : Nat} {e : TypeId} {cur : Array Value} (hg : W.heap[g]? = some (.cells cur e (0, 0))) (o : Nat) (vs : List Value) (hle : o + vs.length ≤ cur.size) (h1 : ∀ v ∈ vs, v.oneCell' = true) :
    ∃ cur' : Array Value, (∀ P : Program, (storeCells ⟨g, o, none⟩ vs).run P W = .ok () (W.setRow g cur')) ∧ cur'.size = cur.size ∧ (W.setRow g cur').heap[g]? = some (.cells cur' e (0, 0)) ∧
      ∀ j, cur'[j]? = if j < o then cur[j]? else if j < o + vs.length then vs[j - o]? else cur[j]? := by
  refine ⟨(cur.toList.take o ++ vs ++ cur.toList.drop (o + vs.length)).toArray, fun P => ?_, ?_, setRow_heap W g cur _ e (0, 0) hg, fun j => ?_⟩
  · have := run_storeCells_at (P := P) g o e vs 0 cur W hg (by omega) h1
    simpa using this
  · simp; omega
  · have := splice_get cur.toList vs o (by simpa using hle) j
    simpa using this
theorem scs_one {θ : Env} {l : List AV} (hs : allSc l = true) : ∀ v ∈ AV.concs θ l, v.oneCell' = true := by
  intro v hv
  rw [concs_eq, List.mem_map] at hv
  obtain ⟨a, ha, rfl⟩ := hv
  exact sc_conc (allSc_iff.1 hs a ha)
/-- cells of a row, some written -/
theorem cells_write {θ : Env} {D : Pt → Prop} {m m' : Nat} {base : Nat} {cs : Q AV} {l : List AV} {off : Nat} {c c' : Array Value} (hl : AV.oks θ D l) (hs : allSc l = true) (hle : off + l.length ≤ m') (hm : ∀ i v, cs.get i = some v → i < m → i < m')
    (hc : ∀ i v, cs.get i = some v → i < m ∧ v.ok θ D ∧ v.sc = true ∧ c[base + i]? = some (v.conc θ))
    (hw : ∀ j, c'[base + j]? = if j < off then c[base + j]? else if j < off + l.length then (AV.concs θ l)[j - off]? else c[base + j]?) :
    ∀ i v, (writeN l off cs).get i = some v → i < m' ∧ v.ok θ D ∧ v.sc = true ∧ c'[base + i]? = some (v.conc θ) := by
  intro i v hv
  unfold writeN at hv
  rw [trOfFrom_get] at hv
  have old : ∀ i v, cs.get i = some v → (¬ (off ≤ i ∧ i < off + l.length)) → i < m' ∧ v.ok θ D ∧ v.sc = true ∧ c'[base + i]? = some (v.conc θ) := fun i v h hn => by
    obtain ⟨a0, a1, a2, a3⟩ := hc i v h
    refine ⟨hm i v h a0, a1, a2, ?_⟩
    rw [hw]
    by_cases x : i < off
    · rw [if_pos x]; exact a3
    · rw [if_neg x, if_neg (by omega)]; exact a3
  split at hv
  · exact old i v hv (by omega)
  · split at hv
    · have hmem := List.mem_of_getElem? hv
      refine ⟨by omega, oks_iff.1 hl v hmem, allSc_iff.1 hs v hmem, ?_⟩
      rw [hw, if_neg (by omega), if_pos (by omega), concs_eq, List.getElem?_map, hv]; rfl
    · exact old i v hv (by omega)

theorem E_store {o : Oper} {t : TypeId} {a x : Operand} {g : OpF} (ho : o.op = .store t a x) (h : storeP P t a x = .mk g) : ES P o g := by
  unfold storeP at h
  split at h
  · rename_i s hs
    refine ES_bi h fun v w H θ W ρ hr hv hw ev ew => ?_
    unfold storeD
    split
    · rename_i l hf
      unfold storeL
      split
      · rename_i b off
        split
        · rename_i n cs op hb
          cases hc : (Nat.beq s (lenF l) && Nat.ble (off + s) n) with
          | false => exact .fail
          | true =>
            simp only [cond_true]
            simp only [Bool.and_eq_true, lenF_eq] at hc
            have hc1 : s = l.length := Nat.eq_of_beq_eq_true hc.1
            have hc2 : off + s ≤ n := Nat.le_of_ble_eq_true hc.2
            obtain ⟨f1, f2, f3⟩ := flat_spec (θ := θ) (n := H.D) hf hw
            obtain ⟨c, e, o1, o2, o3, o4⟩ := hr.obj b _ hb
            obtain ⟨c', w1, w2, w3, w4⟩ := row_write o1 (θ.base b + off) (AV.concs θ l) (by rw [concs_length]; omega) (scs_one f3)
            refine .skip (θ' := θ) (W' := W.setRow (θ.blk b) c') ?_ (Step.upd hr hb (by simp) (fun B hB => setRow_other W _ _ _ hB) rfl rfl ⟨c', e, w3, by omega, ?_, by rw [w2]; exact o4⟩)
            · have hsz : (w.conc θ).cells.size = s := by rw [f1, hc1]; simp [concs_eq]
              simp only [execOp, ho, ev, ew, AV.conc, Instr.storeAt, Instr.sureAddr, storeVar, Sem.run_bind, Sem.run_pure, Result.andThen_ok, (sizeT_spec hs).1, f1]
              simp [w1, concs_length, hc1]
            · refine cells_write (m := n) f2 f3 (by omega) (fun _ _ _ h => h) o3 fun j => ?_
              rw [w4, concs_length]
              by_cases x1 : j < off
              · rw [if_pos (by omega), if_pos x1]
              · rw [if_neg (by omega), if_neg x1]
                by_cases x2 : j < off + l.length
                · rw [if_pos (by omega), if_pos x2]; congr 1; omega
                · rw [if_neg (by omega), if_neg x2]
        · exact .fail
      · exact .fail
    · exact .fail
  · cases h
theorem E_panic {o : Oper} {x : Operand} {g : OpF} (ho : o.op = .panic x) (h : un x panicD = .mk g) : ES P o g := by
  refine ES_un h fun v H θ W ρ hr hv ev => ?_
  unfold panicD
  split
  · refine .panic ?_ hv
    simp only [execOp, ho, ev, AV.conc, Instr.panic, Sem.run_bind, run_goPanic]
    rfl
  · exact .fail

/-! maps -/
theorem eqIs_conc (θ : Env) : ∀ (n : Nat) (as bs : List AV), eqIs n as bs = some true → AV.concs θ as = AV.concs θ bs ∧ ∀ v ∈ AV.concs θ as, ∃ k m, v = .int k m
  | 0, [], [], _ => ⟨rfl, by simp [AV.concs]⟩
  | n + 1, .int j a :: as, .int k b :: bs, h => by
    simp only [eqIs] at h
    split at h
    · rename_i hk
      split at h
      · rename_i r hr
        simp only [Option.some.injEq, Bool.and_eq_true] at h
        obtain ⟨h1, h2⟩ := h
        subst h2
        obtain ⟨i1, i2⟩ := eqIs_conc θ n as bs hr
        have hk' : j = k := by cases j <;> cases k <;> first | rfl | cases hk
        have ha : a = b := by
          cases a <;> cases b <;> simp only [eqI, Bool.false_eq_true] at h1
          · rw [Nat.eq_of_beq_eq_true h1]
          · rw [Nat.eq_of_beq_eq_true h1]
        subst hk' ha
        refine ⟨by simp [AV.concs, i1], fun v hv => ?_⟩
        simp only [AV.concs, List.mem_cons] at hv
        rcases hv with rfl | hv
        · exact ⟨_, _, rfl⟩
        · exact i2 v hv
      · cases h
    · cases h
theorem eqKey_conc {θ : Env} {kk : KeyK} {a b : AV} (h : eqKey kk a b = some true) : a.conc θ = b.conc θ ∧ Instr.sameBits 10000 (a.conc θ) (a.conc θ) = true := by
  cases kk with
  | int =>
    cases a <;> cases b <;> simp only [eqKey, reduceCtorEq] at h
    rename_i j a k b
    split at h
    · rename_i hk
      have hk' : j = k := by cases j <;> cases k <;> first | rfl | cases hk
      simp only [Option.some.injEq] at h
      have ha : a = b := by
        cases a <;> cases b <;> simp only [eqI, Bool.false_eq_true] at h
        · rw [Nat.eq_of_beq_eq_true h]
        · rw [Nat.eq_of_beq_eq_true h]
      subst hk' ha
      exact ⟨rfl, by simp [AV.conc, Instr.sameBits]⟩
    · cases h
  | flat n =>
    cases a <;> cases b <;> simp only [eqKey, eqFlat, reduceCtorEq] at h
    obtain ⟨h1, h2⟩ := eqIs_conc θ _ _ _ h
    refine ⟨by simp [AV.conc, h1], ?_⟩
    rename_i as bs
    show Instr.sameBits (9999 + 1) _ _ = true
    simp only [AV.conc, Instr.sameBits, beq_self_eq_true, Bool.true_and, List.all_eq_true]
    intro p hp
    have : ∀ (l : List Value), (∀ v ∈ l, ∃ k m, v = .int k m) → ∀ p ∈ l.zip l, Instr.sameBits 9999 p.1 p.2 = true := by
      intro l hl p hp
      induction l with
      | nil => simp at hp
      | cons v l ih =>
        simp only [List.zip_cons_cons, List.mem_cons] at hp
        rcases hp with rfl | hp
        · obtain ⟨k, m, rfl⟩ := hl v (by simp)
          simp [Instr.sameBits]
        · exact ih (fun v hv => hl v (by simp [hv])) hp
    exact this _ h2 p hp
theorem eqIs_false (θ : Env) : ∀ (n : Nat) (as bs : List AV), eqIs n as bs = some false → AV.concs θ as ≠ AV.concs θ bs
  | 0, [], [], h => by simp [eqIs] at h
  | n + 1, .int j a :: as, .int k b :: bs, h => by
    simp only [eqIs] at h
    split at h
    · split at h
      · rename_i r hr
        simp only [Option.some.injEq, Bool.and_eq_false_iff] at h
        intro e
        simp only [AV.concs, AV.conc, List.cons.injEq, Value.int.injEq] at e
        obtain ⟨⟨_, e1⟩, e2⟩ := e
        rcases h with h | h
        · rw [eqI_eq, e1] at h; simp at h
        · subst h; exact eqIs_false θ n as bs hr e2
      · cases h
    · cases h
theorem eqKey_false {θ : Env} {kk : KeyK} {a b : AV} (h : eqKey kk a b = some false) : a.conc θ ≠ b.conc θ := by
  cases kk with
  | int =>
    cases a <;> cases b <;> simp only [eqKey, reduceCtorEq] at h
    split at h
    · simp only [Option.some.injEq] at h
      intro e
      simp only [AV.conc, Value.int.injEq] at e
      rw [eqI_eq, e.2] at h; simp at h
    · cases h
  | flat n =>
    cases a <;> cases b <;> simp only [eqKey, eqFlat, reduceCtorEq] at h
    intro e
    simp only [AV.conc, Value.agg.injEq, Array.mk.injEq] at e
    exact eqIs_false θ _ _ _ h e
theorem findIx_none {kk : KeyK} {k : AV} : ∀ {es : List (AV × AV)}, findIx kk k es = some none → ∀ e ∈ es, eqKey kk k e.1 = some false
  | [], _, e, he => by simp at he
  | (j, w) :: es, h, e, he => by
    simp only [findIx] at h
    split at h
    · cases h
    · rename_i hj
      split at h
      · cases h
      · rename_i hn
        simp only [List.mem_cons] at he
        rcases he with rfl | he
        · exact hj
        · exact findIx_none hn e he
      · cases h
    · cases h
theorem map_set_back {α β : Type} (f : α → β) (l : List α) (i : Nat) (x : α) : (l.set i x).map f = (l.map f).set i (f x) := by simp
theorem map_erase {α β : Type} (f : α → β) : ∀ (l : List α) (i : Nat), (l.eraseIdx i).map f = (l.map f).eraseIdx i
  | [], _ => rfl
  | _ :: _, 0 => rfl
  | x :: l, i + 1 => by simp [map_erase f l i]
theorem step_map {θ : Env} {h : AHeap} {W : World} (hr : HR θ h W) {b : Pt} {es es2 : List (AV × AV)} (hb : h.get b = some (.map es)) {es' : Array MapEntry} {k : Nat}
    (h1 : ∃ e0 k0, W.heap[θ.blk b]? = some (.map e0 k0)) (hok : ∀ x ∈ es2, x.1.ok θ h.D ∧ x.2.ok θ h.D) (he : es'.toList.map (fun x => (x.key, x.val)) = es2.map fun x => (x.1.conc θ, x.2.conc θ)) (hst : Go.MapKept.Stamped es' k) :
    ∃ W', (∀ P : Program, (setObj (θ.blk b) (.map es' k)).run P W = .ok () W') ∧ Step θ h W θ (h.put b (some (.map es2))) W' := by
  obtain ⟨e0, k0, ho⟩ := h1
  have hlt : θ.blk b < W.heap.size := (Array.getElem?_eq_some_iff.1 ho).1
  refine ⟨{ W with heap := W.heap.setIfInBounds (θ.blk b) (.map es' k) }, fun P => by simp [setObj, Sem.run, ho], Step.upd hr hb (by simp) (fun B hB => by simp [Ne.symm hB]) rfl rfl ⟨es', k, ?_, hok, he, hst⟩⟩
  simp [hlt]
theorem E_mapUpdate {o : Oper} {t : TypeId} {m k x : Operand} {g : OpF} (ho : o.op = .mapUpdate t m k x) (h : mapUpdateP P t m k x = .mk g) : ES P o g := by
  unfold mapUpdateP at h
  split at h
  · rename_i kt e hu
    split at h
    · rename_i kk hkt
      refine ES_many h fun l H θ W ρ hr hl el => ?_
      unfold mapUpdateL
      split
      · rename_i mv kv xv
        obtain ⟨om, ok', ox, _⟩ := hl
        simp only [List.map_cons, List.map_nil, AV.concs, List.cons.injEq, and_true] at el
        obtain ⟨em, ek, ex⟩ := el
        unfold mapUpdateD
        split
        · exact .fail
        · rename_i hkey
          split
          · rename_i b
            split
            · rename_i es hb
              split
              · rename_i es2 hup
                obtain ⟨es', clk, h1, h2, h3, h4⟩ := get_map hr hb
                obtain ⟨q, hq, hr2⟩ := updA_ix hup
                have hf := findKey_run (P := P) (θ := θ) hkt W es es'.toList q hq h3
                cases q with
                | none =>
                  simp only at hr2
                  simp only [Option.bind_none] at hf
                  obtain ⟨W', s1, s2⟩ := step_map hr hb (es2 := es2) (es' := es'.push { key := kv.conc θ, val := xv.conc θ, born := clk }) (k := clk + 1) ⟨_, _, h1⟩
                    (fun x hx => by rw [hr2, List.mem_append] at hx; rcases hx with hx | hx; exact h2 x hx; simp only [List.mem_singleton] at hx; subst hx; exact ⟨ok', ox⟩)
                    (by rw [hr2]; simp [h3])
                    (Go.MapKept.stamped_push (get_map_st hr hb h1) fun x hx e => by
                      have hm : (x.key, x.val) ∈ es'.toList.map (fun x => (x.key, x.val)) := List.mem_map.2 ⟨x, hx, rfl⟩
                      rw [h3, List.mem_map] at hm
                      obtain ⟨y, hy, hyx⟩ := hm
                      have := findIx_none hq y hy
                      exact eqKey_false (θ := θ) this ((Prod.mk.inj hyx).1.trans e).symm)
                  refine .skip ?_ s2
                  simp only [execOp, ho, em, ek, ex, AV.conc, Instr.mapUpdate, Sem.run_bind, run_underlying hu, Result.andThen_ok, Sem.run_pure, h4, checkKey_run hkt hkey, hf, s1]
                | some i =>
                  obtain ⟨hlt, en, hen, heq⟩ := findIx_lt hq
                  simp only at hr2
                  have hi : ∃ me, es'.toList[i]? = some me ∧ me.key = en.1.conc θ ∧ me.val = en.2.conc θ := by
                    have := congrArg (·[i]?) h3
                    simp only [List.getElem?_map, hen, Option.map_some, Option.map_eq_some_iff] at this
                    obtain ⟨me, hm1, hm2⟩ := this
                    exact ⟨me, hm1, (Prod.mk.inj hm2).1, (Prod.mk.inj hm2).2⟩
                  obtain ⟨me, hm1, hm2, hm3⟩ := hi
                  simp only [Option.bind_some, hm1, Option.map_some] at hf
                  obtain ⟨c1, c2⟩ := eqKey_conc (θ := θ) heq
                  have hm1' : es'[i]? = some me := by rw [← Array.getElem?_toList]; exact hm1
                  have hkeep : (Instr.keyThatStays (((es'[i]?).map (·.key)).getD (kv.conc θ)) (kv.conc θ)).run P W = .ok (kv.conc θ) W := by
                    rw [hm1']
                    simp only [Option.map_some, Option.getD_some, hm2, Instr.keyThatStays, ← c1, c2, if_true, Sem.run_pure]
                  obtain ⟨W', s1, s2⟩ := step_map hr hb (es2 := es2) (es' := es'.modify i fun e => { e with key := kv.conc θ, val := xv.conc θ }) (k := clk) ⟨_, _, h1⟩
                    (fun x hx => by rw [hr2] at hx; rcases List.mem_or_eq_of_mem_set hx with hx | hx; exact h2 x hx; subst hx; exact ⟨ok', ox⟩)
                    (by
                      rw [hr2, map_set_back, ← h3]
                      apply List.ext_getElem?
                      intro j
                      simp only [List.getElem?_map, Array.getElem?_toList, Array.getElem?_modify, List.getElem?_set, List.length_map, Array.length_toList]
                      have hlt' : i < es'.size := (Array.getElem?_eq_some_iff.1 hm1').1
                      by_cases hj : i = j
                      · subst hj; simp [hlt']
                      · simp [hj])
                    (Go.MapKept.stamped_modify (get_map_st hr hb h1) i _ (fun _ _ => rfl) fun x _ hx => by
                      rw [hm1'] at hx; injection hx with hx; subst hx
                      show kv.conc θ = me.key
                      rw [hm2, c1])
                  refine .skip ?_ s2
                  simp only [execOp, ho, em, ek, ex, AV.conc, Instr.mapUpdate, Sem.run_bind, run_underlying hu, Result.andThen_ok, Sem.run_pure, h4, checkKey_run hkt hkey, hf, hkeep, s1]
              · exact .fail
            · exact .fail
          · exact .fail
      · exact .fail
    · cases h
  · cases h
theorem E_delete {o : Oper} {c : Call} {t kt e : TypeId} {ts : List TypeId} {m k : Operand} {kk : KeyK} {g : OpF} (ho : o.op = .call c) (hc : c.callee = .builtin .delete) (ht : c.argTypes.toList = t :: ts)
    (ha : c.args.toList = [m, k]) (hu : P.underlying t = some (.map kt e)) (hkt : keyT P kt = some kk) (h : bi m k (deleteD kk) = .mk g) : ES P o g := by
  have ht0 : c.argTypes[0]? = some t := by rw [← Array.getElem?_toList, ht]; rfl
  refine ES_bi h fun v w H θ W ρ hr hv hw ev ew => ?_
  have ha' : c.args.map ρ = #[v.conc θ, w.conc θ] := by apply Array.ext'; simp [ha, ev, ew]
  unfold deleteD
  split
  · exact .fail
  · rename_i hkey
    split
    · rename_i b
      split
      · rename_i es hb
        split
        · rename_i es2 hup
          obtain ⟨es', clk, h1, h2, h3, h4⟩ := get_map hr hb
          obtain ⟨q, hq, hr2⟩ := delA_ix hup
          have hf := findKey_run (P := P) (θ := θ) hkt W es es'.toList q hq h3
          have fin : ∀ {W' : World}, (Builtin.delete_ c.argTypes o.type #[.map (some (θ.blk b)), w.conc θ]).run P W = .ok (.tuple #[]) W' → (execOp ρ o).run P W = .ok (.value ((AV.tup []).conc θ)) W' := fun hrun => by
            simp only [execOp, ho, resolve, hc, ha', Sem.run_bind, Sem.run_pure, Result.andThen_ok, invoke, builtin, AV.conc] at hrun ⊢
            rw [hrun]; rfl
          cases q with
          | none =>
            simp only at hr2
            subst hr2
            simp only [Option.bind_none] at hf
            obtain ⟨W', s1, s2⟩ := step_map hr hb (es2 := es2) (es' := es') (k := clk) ⟨_, _, h1⟩ h2 h3 (get_map_st hr hb h1)
            refine .val (fin ?_) s2 trivial
            simp only [Builtin.delete_, ht0]
            simp [h4, run_underlying hu, checkKey_run hkt hkey, hf, s1]
          | some i =>
            obtain ⟨hlt, en, hen, heq⟩ := findIx_lt hq
            simp only at hr2
            have hi : ∃ me, es'.toList[i]? = some me := by
              have := congrArg (·[i]?) h3
              simp only [List.getElem?_map, hen, Option.map_some, Option.map_eq_some_iff] at this
              obtain ⟨me, hm1, _⟩ := this
              exact ⟨me, hm1⟩
            obtain ⟨me, hm1⟩ := hi
            simp only [Option.bind_some, hm1, Option.map_some] at hf
            obtain ⟨W', s1, s2⟩ := step_map hr hb (es2 := es2) (es' := es'.eraseIdxIfInBounds i) (k := clk) ⟨_, _, h1⟩
              (fun x hx => by rw [hr2] at hx; exact h2 x (List.mem_of_mem_eraseIdx hx))
              (by
                have : i < es'.size := by simpa using (List.getElem?_eq_some_iff.1 hm1).1
                rw [hr2, Array.eraseIdxIfInBounds, dif_pos this, Array.toList_eraseIdx, map_erase, map_erase, ← h3])
              (Go.MapKept.stamped_erase (get_map_st hr hb h1) i)
            refine .val (fin ?_) s2 trivial
            simp [Builtin.delete_, ht0, h4, run_underlying hu, checkKey_run hkt hkey, hf, s1]
        · exact .fail
      · exact .fail
    · exact .fail
end Go.Eng
namespace Go.Eng
variable {P : Program}

theorem hasBody_call {f : Nat} (h : hasBody P f = true) (args : Array Value) (W : World) : (callFunc f args).run P W = .ok (.enter f args) W := by
  unfold hasBody at h
  split at h
  · rename_i fn hf
    simp only [Bool.and_eq_true, bne_iff_ne, ne_eq] at h
    have h2 : fn.body.isNone = false := by cases hb : fn.body <;> simp_all
    have h3 : (fn.name == "runtime.NumGoroutine") = false := by simpa using h.2
    simp only [callFunc, Sem.run_bind, run_program, Result.andThen_ok, hf, h3, h2, Bool.false_eq_true, if_false, Sem.run_pure]
  · cases h
theorem concs_append (θ : Env) (a b : List AV) : AV.concs θ (a ++ b) = AV.concs θ a ++ AV.concs θ b := by simp [concs_eq]
theorem oks_append {θ : Env} {D : Pt → Prop} {a b : List AV} : AV.oks θ D (a ++ b) ↔ AV.oks θ D a ∧ AV.oks θ D b := by
  simp only [oks_iff, List.mem_append]
  constructor
  · intro h; exact ⟨fun v hv => h v (.inl hv), fun v hv => h v (.inr hv)⟩
  · intro h v hv; exact hv.elim (h.1 v) (h.2 v)
theorem E_call {o : Oper} {c : Call} {f : Operand} {df : Bool} {g : OpF} (ho : o.op = if df then .defer c else .call c) (hc : c.callee = .value f) (h : callP P df f c.args.toList = .mk g) : ES P o g := by
  have main : ∀ (fv : AV) (l : List AV) (H : AHeap) (θ : Env) (W : World) (ρ : Operand → Value), fv.ok θ H.D → ρ f = fv.conc θ → AV.oks θ H.D l → c.args.toList.map ρ = AV.concs θ l →
      ERes P o θ H W ρ (callD P df (fv :: l) H) := by
    intro fv l H θ W ρ hfv ef hl el
    unfold callD
    split
    · rename_i f' a b args he
      injection he with he1 he2
      subst he1 he2
      unfold callK
      split
      · rename_i hb
        have hargs : c.args.map ρ = ⟨AV.concs θ l⟩ := map_args el
        obtain ⟨ha1, ha2⟩ := hfv
        cases df with
        | true =>
          refine .defer ⟨AV.concs θ (a ++ l)⟩ ⟨AV.concs θ b⟩ hb ?_ (by simp [concs_append]) (oks_append.2 ⟨ha1, oks_append.2 ⟨hl, ha2⟩⟩)
          simp only [if_true] at ho
          simp only [execOp, ho, resolve, hc, ef, AV.conc, Deferred.ofValue, hargs, Sem.run_bind, Sem.run_pure, Result.andThen_ok, concs_append]
          simp
        | false =>
          refine .call ?_ (oks_append.2 ⟨ha1, oks_append.2 ⟨hl, ha2⟩⟩)
          simp only [Bool.false_eq_true, if_false] at ho
          simp only [execOp, ho, resolve, hc, ef, AV.conc, Deferred.ofValue, hargs, Sem.run_bind, Sem.run_pure, Result.andThen_ok, invoke, hasBody_call hb, concs_append]
          congr 2
          simp
      · exact .fail
    · exact .fail
  unfold callP at h
  split at h
  · rename_i f' hf
    split at h
    · rename_i hb
      have e : ∀ l H, (callD P df (.fn f' [] [] :: l) H) = if df then .defer f' l H else .call f' l H := fun l H => by
        simp only [callD, callK, hb, List.nil_append, List.append_nil]
        cases df <;> rfl
      intro T H θ W ρ hr hrel
      obtain ⟨h1, h2⟩ := rv_get (x := f) (v := .fn f' [] []) hrel (by rw [hf]; rfl)
      cases df with
      | true =>
        simp only at h
        unfold many at h
        injection h with h; subst h
        dsimp only
        cases hl : RV.gets T (rvs c.args.toList) with
        | none => exact .fail
        | some l =>
          obtain ⟨h3, h4⟩ := rvs_gets hrel hl
          have := main _ l H θ W ρ h1 h2 h3 h4
          rw [e] at this
          exact this
      | false =>
        simp only at h
        unfold many at h
        injection h with h; subst h
        dsimp only
        cases hl : RV.gets T (rvs c.args.toList) with
        | none => exact .fail
        | some l =>
          obtain ⟨h3, h4⟩ := rvs_gets hrel hl
          have := main _ l H θ W ρ h1 h2 h3 h4
          rw [e] at this
          exact this
    · cases h
  · refine ES_many (xs := f :: c.args.toList) h fun l H θ W ρ hr hl el => ?_
    cases l with
    | nil => simp [AV.concs] at el
    | cons fv l =>
      simp only [List.map_cons, AV.concs, List.cons.injEq] at el
      exact main fv l H θ W ρ hl.1 el.1 hl.2 el.2

/-! ### append -/
theorem HR.drew {θ : Env} {h : AHeap} {W : World} (hr : HR θ h W) : HR θ h W.drew := ⟨hr.low, hr.dom, hr.inj, fun b o hb => by
  have := hr.obj b o hb
  cases o <;> exact this⟩
theorem Step.undrew {θ θ' : Env} {h h' : AHeap} {W W' : World} (s : Step θ h W.drew θ' h' W') : Step θ h W θ' h' W' := ⟨s.hr, s.le, s.agree, s.size, s.frame, s.img, s.os, s.out⟩
theorem growBy_le (newLen : Nat) : ∀ (r c : Nat), c < newLen → Builtin.growBy newLen r c ≤ newLen + newLen + 200
  | 0, c, h => by simp [Builtin.growBy]; omega
  | r + 1, c, h => by
    simp only [Builtin.growBy]
    rw [if_neg (by omega)]
    by_cases hc : c + (c + 768) / 4 < newLen
    · exact growBy_le newLen r _ hc
    · cases r with
      | zero => simp only [Builtin.growBy]; omega
      | succ r => simp only [Builtin.growBy]; rw [if_pos (by omega)]; omega
theorem nextcap_le {need cap bytes : Nat} (h : cap < need) (hb : need * bytes ≤ 100000000) : Builtin.nextslicecap need cap * bytes ≤ 281474976710656 := by
  have h1 : Builtin.nextslicecap need cap ≤ 202 * need := by
    unfold Builtin.nextslicecap
    split
    · omega
    · split
      · omega
      · have := growBy_le need 4 cap h; omega
  calc _ ≤ 202 * need * bytes := Nat.mul_le_mul_right _ h1
    _ = 202 * (need * bytes) := Nat.mul_assoc ..
    _ ≤ 202 * 100000000 := Nat.mul_le_mul_left _ hb
    _ ≤ _ := by decide
/-- what append needs to know of its two types -/
structure AppT (P : Program) (o : Oper) (c : Call) (e : TypeId) (sz : Nat) (ie : TypeInfo) (z : List AV) : Prop where
  op : o.op = .call c
  cal : c.callee = .builtin .append
  st : ∃ st xt, c.argTypes[0]? = some st ∧ c.argTypes[1]? = some xt ∧ P.underlying st = some (.slice e) ∧ ((∃ e', P.underlying xt = some (.slice e')) ∨ P.underlying xt = some .string)
  size : sizeT P e = some sz
  info : P.info? e = some ie
  zero : zeroC P e = some z
  len : z.length = sz
  pos : 0 < sz
  bytes : 0 < ie.bytes
theorem app_run {o : Oper} {c : Call} {e : TypeId} {sz : Nat} {ie : TypeInfo} {z : List AV} (A : AppT P o c e sz ie z) {ρ : Operand → Value} {s x v : Value} {W W' : World} (ha : c.args.map ρ = #[s, x])
    (h : (Builtin.append_ c.argTypes o.type #[s, x]).run P W = .ok v W') : (execOp ρ o).run P W = .ok (.value v) W' := by
  simp only [execOp, A.op, resolve, A.cal, ha, Sem.run_bind, Sem.run_pure, Result.andThen_ok, invoke, builtin] at h ⊢
  rw [h]; rfl
theorem app_room {o : Oper} {c : Call} {e : TypeId} {sz : Nat} {ie : TypeInfo} {z : List AV} (A : AppT P o c e sz ie z) {b off len cap n : Nat} {x : Value} {news : List Value} {W W' : World}
    (hn : (Builtin.lenOf x).run P W = .ok n W) (hx : (Builtin.firstCells sz n x).run P W = .ok ⟨news⟩ W) (hroom : len + n ≤ cap) (hst : (storeCells ⟨b, off + len * sz, none⟩ news).run P W = .ok () W') :
    (Builtin.append_ c.argTypes o.type #[.slice (some ⟨b, off, none⟩) len cap, x]).run P W = .ok (.slice (some ⟨b, off, none⟩) (len + n) cap) W' := by
  obtain ⟨st, xt, h0, h1, hu, hk⟩ := A.st
  rcases hk with ⟨e', hd⟩ | hd
  all_goals
    simp [Builtin.append_, h0, h1, run_underlying hu, run_underlying hd, (sizeT_spec A.size).1, hn, hroom, hx, hst, addr_add]
theorem app_room0 {o : Oper} {c : Call} {e : TypeId} {sz : Nat} {ie : TypeInfo} {z : List AV} (A : AppT P o c e sz ie z) {a : Option Addr} {len cap : Nat} {x : Value} {W : World}
    (hn : (Builtin.lenOf x).run P W = .ok 0 W) (hx : (Builtin.firstCells sz 0 x).run P W = .ok #[] W) (hroom : len ≤ cap) :
    (Builtin.append_ c.argTypes o.type #[.slice a len cap, x]).run P W = .ok (.slice a len cap) W := by
  obtain ⟨st, xt, h0, h1, hu, hk⟩ := A.st
  rcases hk with ⟨e', hd⟩ | hd
  all_goals
    cases a <;> simp [Builtin.append_, h0, h1, run_underlying hu, run_underlying hd, (sizeT_spec A.size).1, hn, hroom, hx, storeCells]
theorem app_grow {o : Oper} {c : Call} {e : TypeId} {sz : Nat} {ie : TypeInfo} {z : List AV} (A : AppT P o c e sz ie z) {a : Option Addr} {len cap n : Nat} {x : Value} {olds news : List Value} {W : World}
    (hn : (Builtin.lenOf x).run P W = .ok n W) (hold : (Builtin.firstCells sz len (.slice a len cap)).run P W.drew = .ok ⟨olds⟩ W.drew) (hx : (Builtin.firstCells sz n x).run P W.drew = .ok ⟨news⟩ W.drew)
    (hroom : cap < len + n) (hb : (len + n) * ie.bytes ≤ 100000000) :
    ∃ newCap rest, len + n ≤ newCap ∧ rest.length = (newCap - (len + n)) * sz ∧
      (Builtin.append_ c.argTypes o.type #[.slice a len cap, x]).run P W = .ok (.slice (some ⟨W.drew.heap.size, 0, none⟩) (len + n) newCap) (W.drew.alloc (.cells ⟨olds ++ news ++ rest⟩ e)) := by
  obtain ⟨st, xt, h0, h1, hu, hk⟩ := A.st
  have hsmall : len + n ≤ 100000000 := Nat.le_trans (Nat.le_mul_of_pos_right _ A.bytes) hb
  have h48 : ¬ (2 ^ 48 < Builtin.nextslicecap (len + n) cap * ie.bytes) := Nat.not_lt.2 (nextcap_le hroom hb)
  obtain ⟨zv, z1, z2, z3, z4⟩ := zeroC_spec A.zero (⟨fun _ => 0, fun _ => 0, fun _ => 0⟩ : Env) (fun _ => True)
  have hzs : zv.cells.size = sz := by rw [z2]; simp [concs_eq, A.len]
  refine ⟨(Question.appendCap (len + n) cap e).cut (W.tape W.drawn (.appendCap (len + n) cap e)), (Builtin.zeroCells zv.cells ((Question.appendCap (len + n) cap e).cut (W.tape W.drawn (.appendCap (len + n) cap e)) - (len + n))).toList, Nat.le_add_right _ _, ?_, ?_⟩
  · simp [Builtin.zeroCells, hzs]
  have hroom' : ¬ (len + n ≤ cap) := by omega
  have h63 : ¬ (9223372036854775807 < ((len : Int) + (n : Int))) := by omega
  have h48' : ¬ (281474976710656 < Builtin.nextslicecap (len + n) cap * ie.bytes) := h48
  have hq : (Question.appendCap (len + n) cap e).forced = false := rfl
  have hti := fun w => run_typeInfo (P := P) (w := w) A.info
  rcases hk with ⟨e', hd⟩ | hd
  all_goals
    simp [Builtin.append_, h0, h1, run_underlying hu, run_underlying hd, (sizeT_spec A.size).1, hn, hroom', h63, h48', hti, hq, hold, hx, z1, newRow]
    congr 2
    apply Array.ext'
    simp
theorem wrap_mid {n : Nat} (h : n ≤ 100000000) : IntKind.i64.wrap (n : Int) = (n : Int) := by
  unfold IntKind.wrap
  simp only [IntKind.bits, IntKind.signed, Bool.true_and, decide_eq_true_eq]
  have h2 : ((n : Int) % 2 ^ 64) = n := by omega
  simp only [h2]
  rw [if_neg (fun hc => by have := of_decide_eq_true hc; have h3 : (n : Int) ≥ 9223372036854775808 := this; omega)]
theorem app_zero {o : Oper} {c : Call} {e st xt : TypeId} {sz : Nat} {ie : TypeInfo} {z : List AV} {kx k : IntKind} (h0 : c.argTypes[0]? = some st) (h1 : c.argTypes[1]? = some xt) (hu : P.underlying st = some (.slice e)) (hd : P.underlying xt = some (.int kx))
    (hsz : sizeT P e = some sz) (hi : P.info? e = some ie) (hz : zeroC P e = some z) (hlen : z.length = sz) (hpos : 0 < sz) (hbytes : 0 < ie.bytes) {n : Nat} {W : World} (hn : 0 < n) (hb : n * ie.bytes ≤ 100000000) (θ : Env) :
    ∃ newCap rest, n ≤ newCap ∧ rest.length = (newCap - n) * sz ∧
      (Builtin.append_ c.argTypes o.type #[.slice none 0 0, .int k n]).run P W = .ok (.slice (some ⟨W.drew.heap.size, 0, none⟩) n newCap) (W.drew.alloc (.cells ⟨AV.concs θ (repF n z) ++ rest⟩ e)) := by
  have hsmall : n ≤ 100000000 := Nat.le_trans (Nat.le_mul_of_pos_right _ hbytes) hb
  have h48 : ¬ (281474976710656 < Builtin.nextslicecap n 0 * ie.bytes) := Nat.not_lt.2 (nextcap_le hn hb)
  obtain ⟨zv, z1, z2, z3, z4⟩ := zeroC_spec hz θ (fun _ => True)
  have hzs : zv.cells.size = sz := by rw [z2]; simp [concs_eq, hlen]
  refine ⟨(Question.appendCap n 0 e).cut (W.tape W.drawn (.appendCap n 0 e)), (Builtin.zeroCells zv.cells ((Question.appendCap n 0 e).cut (W.tape W.drawn (.appendCap n 0 e)) - n)).toList, Nat.le_add_right _ _, ?_, ?_⟩
  · simp [Builtin.zeroCells, hzs]
  have hroom' : n ≠ 0 := by omega
  have h63 : ¬ (9223372036854775807 < (n : Int)) := by omega
  have hq : (Question.appendCap n 0 e).forced = false := rfl
  have hti := fun w => run_typeInfo (P := P) (w := w) hi
  have hneg : ¬ ((n : Int) < 0) := by omega
  have hmul : ¬ (281474976710656 < (n : Int) * (ie.bytes : Int)) := by
    have h2 : ((n * ie.bytes : Nat) : Int) ≤ ((100000000 : Nat) : Int) := Int.ofNat_le.2 hb
    rw [Int.natCast_mul] at h2
    omega
  have hns : sz ≠ 0 := by omega
  have hrow : Builtin.zeroCells zv.cells n = ⟨AV.concs θ (repF n z)⟩ := zeroRow θ z n zv.cells z2
  simp [Builtin.append_, h0, h1, run_underlying hu, run_underlying hd, (sizeT_spec hsz).1, wrap_mid hsmall, hneg, hmul, hroom', h63, h48, hti, hq, z1, newRow, Builtin.firstCells, asInt, asIntOf, hrow]
  rw [if_neg (Nat.ne_of_gt (Nat.mul_pos hn hpos))]
  congr 3
  apply Array.ext'
  simp

theorem lenX_run {θ : Env} {x : AV} {n : Nat} (h : lenX x = some n) (W : World) : (Builtin.lenOf (x.conc θ)).run P W = .ok n W := by
  unfold lenX at h
  split at h <;> first | (injection h with h; subst h; rfl) | cases h
theorem takeF_map_bytes (l : List UInt8) (n : Nat) (θ : Env) : AV.concs θ ((l.take n).map fun b => AV.int .u8 (.ofNat b.toNat)) = (l.take n).map fun b => Value.int .u8 (b.toNat : Int) := by
  rw [concs_eq, List.map_map]; rfl
theorem firstA_spec {θ : Env} {h : AHeap} {W : World} (hr : HR θ h W) {x : AV} {sz n : Nat} {l : List AV} (hx : x.ok θ h.D) (hpos : 0 < sz) (hlen : lenX x = some n) (hl : firstA sz n x h = some l) :
    AV.oks θ h.D l ∧ allSc l = true ∧ l.length = n * sz ∧ (Builtin.firstCells sz n (x.conc θ)).run P W = .ok ⟨AV.concs θ l⟩ W := by
  unfold firstA at hl
  split at hl
  · injection hl with hl; subst hl
    simp only [lenX, Option.some.injEq] at hlen
    subst hlen
    exact ⟨trivial, rfl, by simp, rfl⟩
  · rename_i b off _ _
    split at hl
    · rename_i hz
      injection hl with hl; subst hl
      refine ⟨trivial, rfl, by simp [hz], ?_⟩
      simp only [AV.conc, Builtin.firstCells, hz]
      rfl
    · rename_i m hm
      split at hl
      · rename_i k cs op hb
        obtain ⟨h1, h2, h3, h4⟩ := loadCells_at (P := P) hr hb hl
        refine ⟨h1, h2, by omega, ?_⟩
        simp only [AV.conc, Builtin.firstCells, hm]
        exact h4
      · cases hl
  · rename_i s
    split at hl
    · rename_i hs
      have hs : sz = 1 := Nat.eq_of_beq_eq_true hs
      subst hs
      obtain ⟨h1, h2⟩ := takeF_spec _ _ _ hl
      rw [← List.map_take] at h2
      subst h2
      refine ⟨oks_iff.2 fun v hv => ?_, allSc_iff.2 fun v hv => ?_, ?_, ?_⟩
      · rw [List.mem_map] at hv; obtain ⟨_, _, rfl⟩ := hv; trivial
      · rw [List.mem_map] at hv; obtain ⟨_, _, rfl⟩ := hv; rfl
      · simp at h1 ⊢; omega
      · simp only [AV.conc, Builtin.firstCells, Sem.run_pure]
        congr 1
        apply Array.ext'
        rw [takeF_map_bytes]
        simp
    · cases hl
  · cases hl
end Go.Eng
namespace Go.Eng
variable {P : Program}

theorem first0 {θ : Env} {x : AV} {sz : Nat} (h : lenX x = some 0) (W : World) : (Builtin.firstCells sz 0 (x.conc θ)).run P W = .ok #[] W := by
  unfold lenX at h
  split at h
  · rfl
  · simp only [AV.conc, Builtin.firstCells, Nat.zero_mul]; rfl
  · simp only [AV.conc, Builtin.firstCells, Sem.run_pure]
    congr 1
    apply Array.ext'
    simp
  · cases h
theorem load_row {W : World} {g : Nat} {e : TypeId} {c : Array Value} (hg : W.heap[g]? = some (.cells c e (0, 0))) {o n : Nat} (h : o + n ≤ c.size) :
    (loadCells ⟨g, o, none⟩ n).run P W = .ok ⟨(c.toList.drop o).take n⟩ W := by
  have hl : ((c.toList.drop o).take n).length = n := by simp; omega
  have := run_loadCells_list (P := P) W ⟨g, o, none⟩ ((c.toList.drop o).take n) (fun j v hj => by
    rw [addr_add]
    have hlt : j < n := by
      have := (List.getElem?_eq_some_iff.1 hj).1; omega
    rw [List.getElem?_take_of_lt hlt, List.getElem?_drop, Array.getElem?_toList] at hj
    simp only [World.cell?, hg]
    simpa using hj)
  rw [hl] at this
  exact this
/-- a new open row -/
theorem new_open {θ : Env} {h : AHeap} {W : World} (hr : HR θ h W) {need sz newCap : Nat} {e : TypeId} {t : Q AV} {c : Array Value} (hcap : need ≤ newCap) (hsize : c.size = newCap * sz)
    (ht : ∀ i v, t.get i = some v → i < need * sz ∧ v.ok θ h.D ∧ v.sc = true ∧ c[i]? = some (v.conc θ)) :
    ∃ θ', Step θ h W θ' (h.new (.cells (need * sz) t (some sz))) (W.drew.alloc (.cells c e)) ∧ (AV.sl h.next 0 need (.op 0)).ok θ' (h.new (.cells (need * sz) t (some sz))).D ∧
      (AV.sl h.next 0 need (.op 0)).conc θ' = .slice (some ⟨W.drew.heap.size, 0, none⟩) need newCap := by
  have hle : need * sz ≤ newCap * sz := Nat.mul_le_mul_right _ hcap
  refine ⟨θ.set h.next W.drew.heap.size 0 newCap, Step.undrew (Step.new hr.drew _ _ newCap ?_), ?_, ?_⟩
  · refine ⟨c, e, by rw [Env.set_same.1]; exact walloc_new, by rw [Env.set_same.2.1]; omega, fun i v hv => ?_, ?_⟩
    · obtain ⟨h1, h2, h3, h4⟩ := ht i v hv
      have hag := agree_set θ h.next W.drew.heap.size 0 newCap
      exact ⟨h1, ok_agree hag (fun q (hq : q.toNat < h.next.toNat) => by omega) v h2, h3, by rw [Env.set_same.2.1, Nat.zero_add, conc_agree hag v h2]; exact h4⟩
    · simp only [OpnR, Env.set_same.2.1, Env.set_same.2.2]; omega
  · refine ⟨?_, ?_⟩
    · show h.next.toNat < (h.new _).next.toNat
      rw [AHeap.next_new]; omega
    · rw [Env.set_same.2.2]; show 0 + need ≤ newCap; omega
  · simp [AV.conc, ACap.conc, Env.set_same.1, Env.set_same.2.1, Env.set_same.2.2]
theorem list_get {θ : Env} {D : Pt → Prop} {l : List AV} {rest : List Value} (hl : AV.oks θ D l) (hs : allSc l = true) {t : Q AV} (ht : ∀ i, t.get i = l[i]?) {m : Nat} (hm : l.length = m) :
    ∀ i v, t.get i = some v → i < m ∧ v.ok θ D ∧ v.sc = true ∧ (⟨AV.concs θ l ++ rest⟩ : Array Value)[i]? = some (v.conc θ) := by
  intro i v hv
  rw [ht] at hv
  have hlt := (List.getElem?_eq_some_iff.1 hv).1
  have hmem := List.mem_of_getElem? hv
  refine ⟨by omega, oks_iff.1 hl v hmem, allSc_iff.1 hs v hmem, ?_⟩
  simp only [List.getElem?_toArray]
  rw [List.getElem?_append_left (by rw [concs_length]; exact hlt), concs_eq, List.getElem?_map, hv]; rfl
theorem writeN_get (old new : List AV) (i : Nat) : (writeN new old.length (trOf old)).get i = (old ++ new)[i]? := by
  unfold writeN
  rw [trOfFrom_get, trOf_get, List.getElem?_append]
  split
  · rfl
  · split
    · rfl
    · rename_i h1 h2
      rw [List.getElem?_eq_none (by omega), List.getElem?_eq_none (by omega)]
theorem allSc_append {a b : List AV} (ha : allSc a = true) (hb : allSc b = true) : allSc (a ++ b) = true := allSc_iff.2 fun v hv => by
  rw [List.mem_append] at hv
  exact hv.elim (allSc_iff.1 ha v) (allSc_iff.1 hb v)
theorem sz_sum {len n newCap sz : Nat} (h : len + n ≤ newCap) : len * sz + n * sz + (newCap - (len + n)) * sz = newCap * sz := by
  rw [← Nat.add_mul, ← Nat.add_mul]; congr 1; omega

section
variable {o : Oper} {c : Call} {e : TypeId} {sz : Nat} {ie : TypeInfo} {z : List AV} {θ : Env} {H : AHeap} {W : World} {ρ : Operand → Value}
theorem E_appIn (A : AppT P o c e sz ie z) {b : Pt} {off len n m cap : Nat} {cp : ACap} {cs : Q AV} {op : Option Nat} {x : AV} {new : List AV} (ha : c.args.map ρ = #[(AV.sl b off len cp).conc θ, x.conc θ])
    (hr : HR θ H W) (hx : x.ok θ H.D) (hlen : lenX x = some n) (hnew : firstA sz n x H = some new) (hb : H.get b = some (.cells m cs op)) (hcap : cp.conc (θ.cap b) = cap) (hroom : len + n ≤ cap)
    (hfit : off + (len + n) * sz ≤ m) (hok : cp.ok (len + n) (θ.cap b)) : ERes P o θ H W ρ (appIn b off len (len + n) cp sz m cs op new H) := by
  obtain ⟨f1, f2, f3, f4⟩ := firstA_spec (P := P) hr hx A.pos hlen hnew
  obtain ⟨cc, e', o1, o2, o3, o4⟩ := hr.obj b _ hb
  have hsum : len * sz + n * sz = (len + n) * sz := (Nat.add_mul ..).symm
  obtain ⟨c', w1, w2, w3, w4⟩ := row_write o1 (θ.base b + off + len * sz) (AV.concs θ new) (by rw [concs_length]; omega) (scs_one f2)
  refine .val (θ' := θ) (W' := W.setRow (θ.blk b) c') ?_ (Step.upd hr hb (by simp) (fun B hB => setRow_other W _ _ _ hB) rfl rfl ⟨c', e', w3, by omega, ?_, by rw [w2]; exact o4⟩) ⟨hr.dom b _ hb, hok⟩
  · refine app_run A ha ?_
    simp only [AV.conc, hcap]
    exact app_room A (lenX_run hlen W) f4 hroom (w1 P)
  · refine cells_write (m := m) f1 f2 (by omega) (fun _ _ _ h => h) o3 fun j => ?_
    rw [w4, concs_length]
    by_cases x1 : j < off + len * sz
    · rw [if_pos (by omega), if_pos x1]
    · rw [if_neg (by omega), if_neg x1]
      by_cases x2 : j < off + len * sz + new.length
      · rw [if_pos (by omega), if_pos x2]; congr 1; omega
      · rw [if_neg (by omega), if_neg x2]
/-- grown, the old cells known -/
theorem E_appGrow (A : AppT P o c e sz ie z) {s x : AV} {a : Option Addr} {len n cap : Nat} {old new : List AV} {t : Q AV} (ha : c.args.map ρ = #[s.conc θ, x.conc θ]) (hs : s.conc θ = .slice a len cap)
    (hr : HR θ H W) (hx : x.ok θ H.D) (hlen : lenX x = some n) (hnew : firstA sz n x H = some new) (hold : (Builtin.firstCells sz len (s.conc θ)).run P W.drew = .ok ⟨AV.concs θ old⟩ W.drew)
    (h1 : AV.oks θ H.D old) (h2 : allSc old = true) (h3 : old.length = len * sz) (hroom : cap < len + n) (hbytes : (len + n) * ie.bytes ≤ 100000000) (ht : ∀ i, t.get i = (old ++ new)[i]?) :
    ERes P o θ H W ρ (appNew sz (len + n) t H) := by
  obtain ⟨f1, f2, f3, f4⟩ := firstA_spec (P := P) hr.drew hx A.pos hlen hnew
  rw [hs] at hold
  obtain ⟨newCap, rest, g1, g2, g3⟩ := app_grow A (lenX_run hlen W) hold f4 hroom hbytes
  have hcat : AV.concs θ old ++ AV.concs θ new ++ rest = AV.concs θ (old ++ new) ++ rest := by rw [concs_append]
  have hsum : len * sz + n * sz = (len + n) * sz := (Nat.add_mul ..).symm
  obtain ⟨θ', s1, s2, s3⟩ := new_open hr (need := len + n) (sz := sz) (newCap := newCap) (e := e) (t := t) (c := ⟨AV.concs θ (old ++ new) ++ rest⟩) g1
    (by simp [concs_length, h3, f3, g2]; have := sz_sum (sz := sz) g1; omega)
    (list_get (oks_append.2 ⟨h1, f1⟩) (allSc_append h2 f2) ht (by rw [List.length_append, h3, f3, hsum]))
  refine .val ?_ s1 s2
  rw [s3]
  rw [hcat] at g3
  exact app_run A ha (by rw [hs]; exact g3)
end
end Go.Eng
namespace Go.Eng
variable {P : Program}
section
variable {o : Oper} {c : Call} {e : TypeId} {sz : Nat} {ie : TypeInfo} {z : List AV} {θ : Env} {H : AHeap} {W : World} {ρ : Operand → Value}
/-- an open slice whose block ends: in place or not, the block is read no more under its old number -/
theorem E_appAgain (A : AppT P o c e sz ie z) {b : Pt} {off len k n m : Nat} {cs t : Q AV} {x : AV} {new : List AV} (ha : c.args.map ρ = #[(AV.sl b off len (.op k)).conc θ, x.conc θ])
    (hr : HR θ H W) (hx : x.ok θ H.D) (hlen : lenX x = some n) (hnew : firstA sz n x H = some new) (hb : H.get b = some (.cells m cs (some sz))) (hoff : off = k * sz) (hok : k + len ≤ θ.cap b)
    (hbytes : (len + n) * ie.bytes ≤ 100000000)
    (ht : ∀ i v, t.get i = some v → (i < len * sz ∧ cs.get (off + i) = some v) ∨ (len * sz ≤ i ∧ i < len * sz + new.length ∧ new[i - len * sz]? = some v)) :
    ERes P o θ H W ρ (appNew sz (len + n) t (H.put b none)) := by
  obtain ⟨f1, f2, f3, f4⟩ := firstA_spec (P := P) hr hx A.pos hlen hnew
  obtain ⟨_, _, _, f4'⟩ := firstA_spec (P := P) hr.drew hx A.pos hlen hnew
  obtain ⟨cc, e', o1, o2, o3, o4, o5⟩ := hr.obj b _ hb
  have hsum : len * sz + n * sz = (len + n) * sz := (Nat.add_mul ..).symm
  have hlow := hr.dom b _ hb
  by_cases hroom : len + n ≤ θ.cap b - k
  · -- in place
    have hk : (k + (len + n)) * sz ≤ θ.cap b * sz := Nat.mul_le_mul_right _ (by omega)
    rw [Nat.add_mul, ← hoff] at hk
    obtain ⟨c', w1, w2, w3, w4⟩ := row_write o1 (θ.base b + off + len * sz) (AV.concs θ new) (by rw [concs_length]; omega) (scs_one f2)
    have hcut : off + (θ.cap b - k) * sz = θ.cap b * sz := by rw [hoff, ← Nat.add_mul]; congr 1; omega
    have hcut2 : (len + n) * sz ≤ (θ.cap b - k) * sz := Nat.mul_le_mul_right _ hroom
    have hag := agree_set θ H.next (θ.blk b) (θ.base b + off) (θ.cap b - k)
    refine .val (θ' := θ.set H.next (θ.blk b) (θ.base b + off) (θ.cap b - k)) (W' := W.setRow (θ.blk b) c') ?_ (Step.again hr hb _ _ (by simp) (fun B hB => setRow_other W _ _ _ hB) rfl rfl
      ⟨c', e', by rw [Env.set_same.1]; exact w3, by rw [Env.set_same.2.1]; omega, fun i v hv => ?_, ?_⟩) ⟨?_, ?_⟩
    · refine app_run A ha ?_
      have := app_room A (lenX_run hlen W) f4 (b := θ.blk b) (off := θ.base b + off) (len := len) (cap := θ.cap b - k) hroom (w1 P)
      rw [show (AV.sl (H.put b none).next 0 (len + n) (.op 0)).conc (θ.set H.next (θ.blk b) (θ.base b + off) (θ.cap b - k)) = .slice (some ⟨θ.blk b, θ.base b + off, none⟩) (len + n) (θ.cap b - k) by
        show (AV.sl H.next 0 (len + n) (.op 0)).conc (θ.set H.next (θ.blk b) (θ.base b + off) (θ.cap b - k)) = _
        simp [AV.conc, ACap.conc, Env.set_same.1, Env.set_same.2.1, Env.set_same.2.2]]
      exact this
    · have fin : i < (len + n) * sz ∧ v.ok θ H.D ∧ v.sc = true ∧ c'[θ.base b + off + i]? = some (v.conc θ) := by
        rcases ht i v hv with ⟨h1, h2⟩ | ⟨h1, h2, h3⟩
        · obtain ⟨p1, p2, p3, p4⟩ := o3 _ _ h2
          refine ⟨by omega, p2, p3, ?_⟩
          rw [w4, if_pos (by omega), Nat.add_assoc]; exact p4
        · have hmem := List.mem_of_getElem? h3
          refine ⟨by omega, oks_iff.1 f1 v hmem, allSc_iff.1 f2 v hmem, ?_⟩
          rw [w4, concs_length, if_neg (by omega), if_pos (by omega), concs_eq, List.getElem?_map, show θ.base b + off + i - (θ.base b + off + len * sz) = i - len * sz by omega, h3]; rfl
      obtain ⟨p1, p2, p3, p4⟩ := fin
      exact ⟨p1, ok_agree hag (fun q (hq : q.toNat < H.next.toNat) => by omega) v p2, p3, by rw [Env.set_same.2.1, conc_agree hag v p2]; exact p4⟩
    · simp only [OpnR, Env.set_same.2.1, Env.set_same.2.2]; omega
    · show H.next.toNat < ((H.put b none).new _).next.toNat
      rw [AHeap.next_new]; show H.next.toNat < H.next.toNat + 1; omega
    · show 0 + (len + n) ≤ (θ.set H.next (θ.blk b) (θ.base b + off) (θ.cap b - k)).cap H.next
      rw [Env.set_same.2.2]; omega
  · -- a new block
    have hk : (k + len) * sz ≤ θ.cap b * sz := Nat.mul_le_mul_right _ hok
    rw [Nat.add_mul, ← hoff] at hk
    have hold : (Builtin.firstCells sz len (.slice (some ⟨θ.blk b, θ.base b + off, none⟩) len (θ.cap b - k))).run P W.drew = .ok ⟨(cc.toList.drop (θ.base b + off)).take (len * sz)⟩ W.drew :=
      load_row (W := W.drew) (g := θ.blk b) (e := e') o1 (by omega)
    obtain ⟨newCap, rest, g1, g2, g3⟩ := app_grow A (lenX_run hlen W) hold f4' (by omega) hbytes
    have hll : ((cc.toList.drop (θ.base b + off)).take (len * sz)).length = len * sz := by simp; omega
    have st := Step.kill hr b
    obtain ⟨θ', s1, s2, s3⟩ := new_open st.hr (need := len + n) (sz := sz) (newCap := newCap) (e := e) (t := t) (c := ⟨(cc.toList.drop (θ.base b + off)).take (len * sz) ++ AV.concs θ new ++ rest⟩) g1
      (by
        have := sz_sum (sz := sz) g1
        show ((cc.toList.drop (θ.base b + off)).take (len * sz) ++ AV.concs θ new ++ rest).length = _
        rw [List.length_append, List.length_append, hll, concs_length, f3, g2]; omega)
      (fun i v hv => by
        rcases ht i v hv with ⟨h1, h2⟩ | ⟨h1, h2, h3⟩
        · obtain ⟨p1, p2, p3, p4⟩ := o3 _ _ h2
          refine ⟨by omega, p2, p3, ?_⟩
          simp only [List.getElem?_toArray]
          rw [List.append_assoc, List.getElem?_append_left (by omega), List.getElem?_take_of_lt h1, List.getElem?_drop, Array.getElem?_toList, Nat.add_assoc]
          exact p4
        · have hmem := List.mem_of_getElem? h3
          refine ⟨by omega, oks_iff.1 f1 v hmem, allSc_iff.1 f2 v hmem, ?_⟩
          simp only [List.getElem?_toArray]
          rw [List.append_assoc, List.getElem?_append_right (by omega), hll, List.getElem?_append_left (by rw [concs_length]; omega), concs_eq, List.getElem?_map, h3]; rfl)
    refine .val ?_ (Step.trans st s1) s2
    show _ = Result.ok (Next.value ((AV.sl (H.put b none).next 0 (len + n) (.op 0)).conc θ')) _
    rw [s3]
    exact app_run A ha g3
end

theorem E_append {o : Oper} {c : Call} {s x : Operand} {g : OpF} (ho : o.op = .call c) (hc : c.callee = .builtin .append) (ha : c.args.toList = [s, x]) (h : appP P c.argTypes.toList s x = .mk g) : ES P o g := by
  have ha' : ∀ (ρ : Operand → Value) v w, ρ s = v → ρ x = w → c.args.map ρ = #[v, w] := fun ρ v w hv hw => by
    apply Array.ext'; simp [ha, hv, hw]
  unfold appP at h
  split at h
  · rename_i st xt hts
    have h0 : c.argTypes[0]? = some st := by rw [← Array.getElem?_toList, hts]; rfl
    have h1 : c.argTypes[1]? = some xt := by rw [← Array.getElem?_toList, hts]; rfl
    split at h
    · rename_i e hu
      split at h
      · rename_i sz ie z hs hi hz
        split at h
        · rename_i hchk
          simp only [Bool.and_eq_true, lenF_eq] at hchk
          have hzl : z.length = sz + 1 := Nat.eq_of_beq_eq_true hchk.1
          have hby : 0 < ie.bytes := Nat.le_of_ble_eq_true hchk.2
          have main : ((∃ e', P.underlying xt = some (.slice e')) ∨ P.underlying xt = some .string) → bi s x (appD (sz + 1) ie.bytes) = .mk g → ES P o g := by
            intro hk h
            have A : AppT P o c e (sz + 1) ie z := ⟨ho, hc, ⟨st, xt, h0, h1, hu, hk⟩, hs, hi, hz, hzl, Nat.succ_pos _, hby⟩
            refine ES_bi h fun v w H θ W ρ hr hv hw ev ew => ?_
            have hargs := ha' ρ _ _ ev ew
            unfold appD
            split
            · exact .fail
            · rename_i n hlen
              split
              · exact .fail
              · split
                · -- nil
                  rcases n with _ | n
                  · refine .val (app_run A hargs ?_) (Step.refl hr) trivial
                    exact app_room0 A (lenX_run hlen W) (first0 hlen W) (Nat.le_refl _)
                  · dsimp only
                    split
                    · rename_i new hb hnew
                      have hb : (n + 1) * ie.bytes ≤ 100000000 := Nat.le_of_ble_eq_true hb
                      obtain ⟨f1, f2, f3, f4⟩ := firstA_spec (P := P) hr hw A.pos hlen hnew
                      have := E_appGrow A (s := .nils) (x := w) (a := none) (len := 0) (n := n + 1) (cap := 0) (old := []) (t := trOf new) hargs rfl hr hw hlen hnew rfl trivial rfl (by simp) (by omega)
                        (by rw [Nat.zero_add]; exact hb) (fun i => by rw [trOf_get]; simp)
                      rw [Nat.zero_add] at this
                      exact this
                    · exact .fail
                · rename_i b off len cp
                  rcases n with _ | n
                  · refine .val (app_run A hargs ?_) (Step.refl hr) hv
                    refine app_room0 A (lenX_run hlen W) (first0 hlen W) ?_
                    have := hv.2
                    cases cp with
                    | ex c => exact this
                    | op k => have : k + len ≤ θ.cap b := this; show len ≤ θ.cap b - k; omega
                  · dsimp only
                    split
                    · exact .fail
                    · rename_i new hnew
                      split
                      · exact .fail
                      · rename_i hb
                        have hb : (len + (n + 1)) * ie.bytes ≤ 100000000 := Nat.le_of_ble_eq_true hb
                        split
                        · rename_i cp
                          unfold appEx
                          split
                          · rename_i hroom
                            have hroom : len + (n + 1) ≤ cp := Nat.le_of_ble_eq_true hroom
                            split
                            · rename_i m cs op hget
                              split
                              · rename_i hfit
                                have hfit := Nat.le_of_ble_eq_true hfit
                                exact E_appIn A (cap := cp) hargs hr hw hlen hnew hget rfl hroom hfit hroom
                              · exact .fail
                            · exact .fail
                          · rename_i hroom
                            have hroom : ¬ len + (n + 1) ≤ cp := fun hc => by
                              rw [Nat.ble_eq_true_of_le hc] at hroom; cases hroom
                            split
                            · split
                              · rename_i old hold
                                obtain ⟨q1, q2, q3, q4⟩ := firstA_spec (P := P) hr.drew hv A.pos (n := len) rfl hold
                                refine E_appGrow A (s := .sl b off len (.ex cp)) (a := some ⟨θ.blk b, θ.base b + off, none⟩) (cap := cp) (old := old) (new := new) hargs rfl hr hw hlen hnew q4 q1 q2 q3 (by omega) hb (fun i => ?_)
                                rw [← q3]; exact writeN_get old new i
                              · exact .fail
                            · exact .fail
                        · rename_i k
                          unfold appOp
                          split
                          · rename_i m cs sz' hget
                            split
                            · rename_i hz2
                              simp only [Bool.and_eq_true] at hz2
                              have hz3 : sz + 1 = sz' := Nat.eq_of_beq_eq_true hz2.1
                              have hoff : off = k * (sz + 1) := Nat.eq_of_beq_eq_true hz2.2
                              subst hz3
                              have hok : k + len ≤ θ.cap b := hv.2
                              obtain ⟨cc, e', o1, o2, o3, o4, o5⟩ := hr.obj b _ hget
                              split
                              · rename_i hfit
                                have hfit := Nat.le_of_ble_eq_true hfit
                                have hk : (k + (len + (n + 1))) * (sz + 1) ≤ θ.cap b * (sz + 1) := by rw [Nat.add_mul, ← hoff]; omega
                                have hk2 : k + (len + (n + 1)) ≤ θ.cap b := Nat.le_of_mul_le_mul_right hk (Nat.succ_pos _)
                                exact E_appIn A (cap := θ.cap b - k) hargs hr hw hlen hnew hget rfl (by omega) hfit hk2
                              · rename_i hfit
                                have hfit : ¬ off + (len + (n + 1)) * (sz + 1) ≤ m := fun hc => by
                                  rw [Nat.ble_eq_true_of_le hc] at hfit; cases hfit
                                obtain ⟨f1, f2, f3, f4⟩ := firstA_spec (P := P) hr hw A.pos hlen hnew
                                have hsum : len * (sz + 1) + (n + 1) * (sz + 1) = (len + (n + 1)) * (sz + 1) := (Nat.add_mul ..).symm
                                split
                                · refine E_appAgain A hargs hr hw hlen hnew hget hoff hok hb fun i v hi => ?_
                                  unfold writeN at hi
                                  rw [trOfFrom_get] at hi
                                  split at hi
                                  · rename_i hlt; exact .inl ⟨hlt, by rw [Nat.zero_add]; exact hi⟩
                                  · split at hi
                                    · exact .inr ⟨by omega, by omega, hi⟩
                                    · have := (o3 i v hi).1; omega
                                · split
                                  · rename_i old hold
                                    obtain ⟨r1, r2⟩ := readN_spec _ _ _ _ hold
                                    refine E_appAgain A hargs hr hw hlen hnew hget hoff hok hb fun i v hi => ?_
                                    rw [← r1, writeN_get, List.getElem?_append] at hi
                                    split at hi
                                    · exact .inl ⟨by omega, by rw [r2 i (by omega)]; exact hi⟩
                                    · have := (List.getElem?_eq_some_iff.1 hi).1
                                      exact .inr ⟨by omega, by omega, by rw [← r1]; exact hi⟩
                                  · exact .fail
                            · exact .fail
                          · exact .fail
                · exact .fail
          split at h
          · rename_i kx hd
            refine ES_bi h fun v w H θ W ρ hr hv hw ev ew => ?_
            have hargs := ha' ρ _ _ ev ew
            unfold appZero
            split
            · split
              · rename_i k n
                split
                · rename_i hb
                  simp only [Bool.and_eq_true] at hb
                  have hb2 : (n + 1) * ie.bytes ≤ 100000000 := Nat.le_of_ble_eq_true hb.2
                  obtain ⟨newCap, rest, g1, g2, g3⟩ := app_zero (o := o) (k := k) h0 h1 hu hd hs hi hz hzl (Nat.succ_pos _) hby (W := W) (Nat.succ_pos n) hb2 θ
                  obtain ⟨zv, z1, z2, z3, z4⟩ := zeroC_spec hz θ H.D
                  obtain ⟨r1, r2, r3⟩ := repF_ok z3 z4 (n + 1)
                  obtain ⟨θ', s1, s2, s3⟩ := new_open hr (need := n + 1) (sz := sz + 1) (newCap := newCap) (e := e) (t := trOf (repF (n + 1) z)) (c := ⟨AV.concs θ (repF (n + 1) z) ++ rest⟩) g1
                    (by
                      have := sz_sum (len := 0) (n := n + 1) (newCap := newCap) (sz := sz + 1) (by omega)
                      show (AV.concs θ (repF (n + 1) z) ++ rest).length = _
                      rw [List.length_append, concs_length, r3, hzl, g2]
                      simp only [Nat.zero_mul, Nat.zero_add] at this
                      exact this)
                    (list_get r1 r2 (fun i => trOf_get _ i) (by rw [r3, hzl]))
                  refine .val ?_ s1 s2
                  rw [s3]
                  simp only [execOp, ho, resolve, hc, hargs, Sem.run_bind, Sem.run_pure, Result.andThen_ok, invoke, builtin, AV.conc] at g3 ⊢
                  simp only [Int.ofNat_eq_natCast]
                  rw [g3]; rfl
                · exact .fail
              · exact .fail
            · exact .fail
          · rename_i e' hd; exact main (.inl ⟨e', hd⟩) h
          · rename_i hd; exact main (.inr hd) h
          · cases h
        · cases h
      · cases h
    · cases h
  · cases h
end Go.Eng
namespace Go.Eng
variable {P : Program}

/-- what an operation made ready is -/
inductive PS (P : Program) (o : Oper) (f : OpF) : Prop
  | ls (h : LS P o f) (k : kindOf o.op ≠ some .alloc)
  | as (h : AS P o f) (k : kindOf o.op ≠ some .read)
  | es (h : ES P o f) (k1 : kindOf o.op ≠ some .read) (k2 : kindOf o.op ≠ some .alloc)
theorem PS.toES {o : Oper} {f : OpF} (h : PS P o f) : ES P o f := by
  cases h with
  | ls h => exact ES_of_LS h
  | as h => exact ES_of_AS h
  | es h => exact h
theorem PS.toLS {o : Oper} {f : OpF} (h : PS P o f) (k : kindOf o.op = some .read) : LS P o f := by
  cases h with
  | ls h => exact h
  | as h h' => exact absurd k h'
  | es h h' => exact absurd k h'
theorem PS.toAS {o : Oper} {f : OpF} (h : PS P o f) (k : kindOf o.op = some .alloc) : AS P o f := by
  cases h with
  | ls h h' => exact absurd k h'
  | as h => exact h
  | es h h' h'' => exact absurd k h''
theorem builtin_spec {o : Oper} {c : Call} {b : Builtin} {f : OpF} (ho : o.op = .call c) (hc : c.callee = .builtin b) (h : builtinP P b c.argTypes.toList c.args.toList = .mk f) : PS P o f := by
  have hk : kindOf o.op ≠ some .alloc := by
    obtain ⟨callee, args, argTypes⟩ := c
    simp only at hc
    subst hc
    rw [ho]
    cases b <;> simp [kindOf]
  unfold builtinP at h
  split at h
  · split at h
    · rename_i ht ha; exact .ls (S_len ho hc ht ha h) hk
    · cases h
  · split at h
    · rename_i ht ha; exact .ls (S_cap ho hc ht ha h) hk
    · cases h
  · exact .ls (S_min ho hc h) hk
  · exact .ls (S_max ho hc h) hk
  · split at h
    · rename_i ha
      refine .es (E_append ho hc ha h) ?_ hk
      obtain ⟨callee, args, argTypes⟩ := c
      simp only at hc
      subst hc
      rw [ho]; simp [kindOf]
    · cases h
  · split at h
    · rename_i ht ha
      split at h
      · rename_i hu
        split at h
        · rename_i hkt
          refine .es (E_delete ho hc ht ha hu hkt h) ?_ hk
          obtain ⟨callee, args, argTypes⟩ := c
          simp only at hc
          subst hc
          rw [ho]; simp [kindOf]
        · cases h
      · cases h
    · cases h
  · cases h
theorem prep_spec {o : Oper} {f : OpF} (h : prep P o.op = .mk f) : PS P o f := by
  cases ho : o.op <;> rw [ho] at h <;> try (simp only [prep] at h <;> cases h <;> done)
  case move x => exact .ls (S_mov (.inl ho) h) (by rw [ho]; simp [kindOf])
  case assign x => exact .ls (S_mov (.inr ho) h) (by rw [ho]; simp [kindOf])
  case pick c a b => exact .ls (S_pick ho h) (by rw [ho]; simp [kindOf])
  case alloc e => exact .as (S_alloc ho h) (by rw [ho]; simp [kindOf])
  case box e x => exact .as (S_box ho h) (by rw [ho]; simp [kindOf])
  case build t ps => exact .ls (S_build ho h) (by rw [ho]; simp [kindOf])
  case buildSlice t n ps => exact .as (S_buildSlice ho h) (by rw [ho]; simp [kindOf])
  case load t a => exact .ls (S_load ho h) (by rw [ho]; simp [kindOf])
  case store t a x => exact .es (E_store ho h) (by rw [ho]; simp [kindOf]) (by rw [ho]; simp [kindOf])
  case nilCheck x => exact .ls (S_nilCheck ho h) (by rw [ho]; simp [kindOf])
  case binOp op t x y ty => exact .ls (S_bin ho h) (by rw [ho]; simp [kindOf])
  case unOp op t x =>
    cases op
    case not => exact .ls (S_not ho h) (by rw [ho]; simp [kindOf])
    case neg => exact .ls (S_neg ho h) (by rw [ho]; simp [kindOf])
    all_goals simp only [prep] at h; cases h
  case convert s d x => exact .ls (S_conv ho h) (by rw [ho]; simp [kindOf])
  case makeInterface t x => exact .ls (S_iface ho h) (by rw [ho]; simp [kindOf])
  case makeFunc f a b => exact .ls (S_fn ho h) (by rw [ho]; simp [kindOf])
  case makeMap t r =>
    cases r with
    | none =>
      simp only [prep, Cl.mk.injEq] at h
      subst h
      exact .as (S_makeMap ho) (by rw [ho]; simp [kindOf])
    | some r => simp only [prep] at h; cases h
  case makeSlice t l c => exact .as (S_makeSlice ho h) (by rw [ho]; simp [kindOf])
  case slice t x lo hi mx => exact .as (S_slice ho h) (by rw [ho]; simp [kindOf])
  case fieldAddr s x f => exact .ls (S_fieldAddr ho h) (by rw [ho]; simp [kindOf])
  case field t x f => exact .ls (S_field ho h) (by rw [ho]; simp [kindOf])
  case indexAddr t x i => exact .ls (S_indexAddr ho h) (by rw [ho]; simp [kindOf])
  case index t x i => exact .ls (S_index ho h) (by rw [ho]; simp [kindOf])
  case lookup t m k ok => exact .ls (S_lookup ho h) (by rw [ho]; simp [kindOf])
  case mapUpdate t m k v => exact .es (E_mapUpdate ho h) (by rw [ho]; simp [kindOf]) (by rw [ho]; simp [kindOf])
  case typeAssert x s d ok => exact .ls (S_assert ho h) (by rw [ho]; simp [kindOf])
  case extract x i => exact .ls (S_extract ho h) (by rw [ho]; simp [kindOf])
  case panic x => exact .es (E_panic ho h) (by rw [ho]; simp [kindOf]) (by rw [ho]; simp [kindOf])
  case call c =>
    obtain ⟨callee, args, argTypes⟩ := c
    cases callee with
    | value f =>
      simp only [prep] at h
      exact .es (E_call (df := false) ho rfl h) (by rw [ho]; simp [kindOf]) (by rw [ho]; simp [kindOf])
    | builtin b =>
      simp only [prep] at h
      exact builtin_spec ho rfl h
    | invoke r m => simp only [prep] at h; cases h
  case defer c =>
    obtain ⟨callee, args, argTypes⟩ := c
    cases callee with
    | value f =>
      simp only [prep] at h
      exact .es (E_call (df := true) ho rfl h) (by rw [ho]; simp [kindOf]) (by rw [ho]; simp [kindOf])
    | builtin b => simp only [prep] at h; cases h
    | invoke r m => simp only [prep] at h; cases h
end Go.Eng
