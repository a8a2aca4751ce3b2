/-
  Proved: TopSpawns returns true for every int, at any world; nothing that lay before the call has turned.
  Conditions: none beyond the given statement's own.
-/
import Derived.Test.YtaebgjlinhmajaaGreatRows
import Derived.Test.YtaebgjlinhmajaaGreatFactsS
import Derived.Test.YtaebgjlinhmajaaGreatRunS0
import Derived.Test.YtaebgjlinhmajaaGreatRunS1
import Derived.Test.YtaebgjlinhmajaaGreatRunS2
import Derived.Test.YtaebgjlinhmajaaGreatRunS3
import Derived.Test.YtaebgjlinhmajaaGreatRunS4
import Derived.Test.YtaebgjlinhmajaaGreatRunS5
import Derived.Test.YtaebgjlinhmajaaGreatRunS6
import Derived.Test.YtaebgjlinhmajaaGreatRunS7
import Derived.Test.YtaebgjlinhmajaaGreatRunS8
import Derived.Test.YtaebgjlinhmajaaGreatRunS9
import Derived.Test.YtaebgjlinhmajaaGreatRunS10
import Derived.Test.YtaebgjlinhmajaaGreatRunS11
import Derived.Test.YtaebgjlinhmajaaGreatRunS12
import Derived.Test.YtaebgjlinhmajaaGreatRunS13
import Derived.Test.YtaebgjlinhmajaaGreatRunS14
import Derived.Test.YtaebgjlinhmajaaGreatRunS15
import Derived.Test.YtaebgjlinhmajaaGreatRunS16
import Derived.Test.YtaebgjlinhmajaaGreatRunS17
import Derived.Test.YtaebgjlinhmajaaGreatRunS18
import Derived.Test.YtaebgjlinhmajaaGreatRunS19
import Derived.WalkKit
import Derived.ProofKit
import Derived.OpenShut
namespace Go.Proofs.YtaebgjlinhmajaaGreat.topSpawns
open Go.ChangeShapes Go.WideShapes Go.ChangeAt Go.RowKit
set_option linter.unusedVariables false      -- a walk need not use every 'w<i>' (that an integer argument fits its kind)

theorem own : ownKnob Tryz.prog.godebug = none := by kernel_rfl

/-! ### The walk -/
theorem runs (m : Nat) (h : (m : Int) < 20) : Go.Eng.okRes (Go.Eng.tailRun Tryz.f4 200 m) = true :=
  match m, h with
  | 0, _ => Go.Eng.spawns0
  | 1, _ => Go.Eng.spawns1
  | 2, _ => Go.Eng.spawns2
  | 3, _ => Go.Eng.spawns3
  | 4, _ => Go.Eng.spawns4
  | 5, _ => Go.Eng.spawns5
  | 6, _ => Go.Eng.spawns6
  | 7, _ => Go.Eng.spawns7
  | 8, _ => Go.Eng.spawns8
  | 9, _ => Go.Eng.spawns9
  | 10, _ => Go.Eng.spawns10
  | 11, _ => Go.Eng.spawns11
  | 12, _ => Go.Eng.spawns12
  | 13, _ => Go.Eng.spawns13
  | 14, _ => Go.Eng.spawns14
  | 15, _ => Go.Eng.spawns15
  | 16, _ => Go.Eng.spawns16
  | 17, _ => Go.Eng.spawns17
  | 18, _ => Go.Eng.spawns18
  | 19, _ => Go.Eng.spawns19
  | _ + 20, h => absurd h (by omega)
theorem head0_eq (n : Int) : Go.Eng.head0 Tryz.f4 20 n = .norm (Go.Eng.outR (Go.Eng.head0 Tryz.f4 20 n)) [] Go.Eng.h00 := by kernel_rfl
theorem head1_eq (n : Int) : Go.Eng.head1 Tryz.f4 20 n = .norm (Go.Eng.outR (Go.Eng.head1 Tryz.f4 20 n)) [] Go.Eng.h00 := by kernel_rfl
theorem head_at0 (n : Int) : (Go.Eng.outR (Go.Eng.head1 Tryz.f4 20 n)).at (Go.Eng.ptOf 0) = some (.int .i64 (n % 18446744073709551616 % 20)) := by kernel_rfl
theorem head_at2 (n : Int) : (Go.Eng.outR (Go.Eng.head1 Tryz.f4 20 n)).at (Go.Eng.ptOf 2) = some (.bool false) := by kernel_rfl
theorem walk (a0 : Int) (w : World) : Calls Tryz.prog 4 #[.int .i64 a0] w fun e w' => e = .returned (.bool true) ∧ Go.Eng.Grown w w' :=
  (Go.Eng.low_glue Tryz.func4 (by kernel_rfl) (by kernel_rfl) (by kernel_rfl) (by omega) Tryz.low20 head0_eq head1_eq head_at0 head_at2 (by kernel_rfl) runs a0 w).mono fun _ _ ⟨g, he⟩ => ⟨he, g⟩

/-! ### What a memory that has only grown pays -/
theorem kept_of_grown {W W' : World} (g : Go.Eng.Grown W W') (may : MemPlace → Prop) : W.keptBut W' may := by
  refine ⟨g.os, g.out, fun i hi => ?_⟩
  rw [g.kept i hi]
  cases W.heap[i]? with
  | none => rfl
  | some o => cases o <;> first | exact ⟨rfl, rfl, rfl, fun _ _ => rfl⟩ | exact .inr ⟨rfl, rfl⟩ | rfl
theorem frozen_of_grown {W W' : World} (g : Go.Eng.Grown W W') {a : Addr} (h : a.block < W.heap.size) : W'.frozen? a = W.frozen? a := by
  simp only [World.frozen?, g.kept a.block h]
section
variable {H : Type} {enc : TypeId × Value → H} {P : Program}
theorem post_of_grown {f : Func} {s : ChangeSpec} {apart fresh handsOn again : Bool} {W W' : World} {args : Array Value} {v : Value} {ds gs : List (DataW H)} {before pa pv : List MemPlace}
    (hW : DataW.Whole enc P f.params.toList s.vars apart W args.toList ds gs before)
    (hres : ∀ (b : Nat) (sp : Nat → Bool) (hd : Bool), DataW.TrodAll enc P W' b sp hd f.resultTypes.toList (v.resultList f.resultTypes.size) (s.fn H (ds ++ gs)).results [])
    (hargs : ∀ sp : Nat → Bool, (∀ p ∈ before, sp p.block = true) → DataW.TrodAll enc P W' 0 sp true f.params.toList args.toList (s.fn H (ds ++ gs)).args pa)
    (hvars : ∀ sp : Nat → Bool, (∀ p ∈ before, sp p.block = true) → DataW.TrodVars enc P W' sp s.vars (s.fn H (ds ++ gs)).vars pv)
    (hps : before = pa ++ pv) (hb : Go.Eng.Grown W W')
    (hok : ∀ (j : Nat) (t : TypeId) (r : Value), f.resultTypes[j]? = some t → (v.resultList f.resultTypes.size)[j]? = some r → Value.okWide P W' .any 0 t r) :
    s.post enc P f apart fresh handsOn again W args v W' := by
  have hlt : ∀ p ∈ before, p.block < W.heap.size := fun p hp => hW.lt p hp
  have hold : ∀ p ∈ before, (fun b => decide (b < W.heap.size)) p.block = true := fun p hp => by simpa using hlt p hp
  refine ⟨ds, gs, before, [], pa, pv, hW, hres _ _ _, hargs _ hold, hvars _ hold, World.keptBut_mono (fun p hp => ⟨hp, ?_⟩) (kept_of_grown hb (· ∈ before)), fun _ => ?_⟩
  · rw [hps, List.mem_append] at hp
    exact Or.inr hp
  · obtain ⟨_, _, _, _, _, hz, hn⟩ := hW
    refine ⟨hok, _, _, ([] ++ pa) ++ pv, ⟨[] ++ pa, pv, trodAll_append (hargs _ (fun _ _ => rfl)) (hres _ _ _), hvars _ (fun _ _ => rfl), rfl, ?_, ?_⟩, ?_⟩
    · intro b off hp
      have hin : MemPlace.cell b off ∈ before := by rw [hps]; simpa using hp
      rw [frozen_of_grown hb (hlt _ hin)]
      exact hz b off hin
    · intro ha
      have := hn ha
      rw [hps] at this
      simpa using this
    · intro p hp _
      rw [hps]
      simpa using hp
end

/-! ### THE ROW's STEP: WRITTEN OUT: LEAVE IT -/
set_option maxRecDepth 100000 in
theorem lifted (os : Os) (started : os.Started) (H : Type) (enc : TypeId × Value → H) :
    ReturnsInHanded {} Tryz.checked os 4 .any (Rows.topSpawnsSpec.pre6 enc Tryz.prog Tryz.f4 Rows.topSpawnsRow.domain false) (Rows.topSpawnsSpec.post enc Tryz.prog Tryz.f4 false true false false) := by
  refine returnsInHanded_of_change (C := Tryz.checked) own started (by kernel_rfl) Tryz.func4
    (ChangeSpec.witness6 (enc := enc) (C := Tryz.checked) false ⟨#[], #[.int .i64 0], []⟩ 8 (by kernel_rfl) (by kernel_rfl) (by kernel_rfl) (by kernel_rfl)) ?_
  intro W base args ds gs before hval0 hW hcnd _
  have hval : ∀ (j : Nat) t v, Tryz.f4.params[j]? = some t → args[j]? = some v → Value.okWide Tryz.prog W .any base t v := hval0
  have hW' := hW
  obtain ⟨p, q, hA0, hV, rfl, hfz, hnd⟩ := hW
  have hA : DataW.TrodAll enc Tryz.prog W 0 (fun _ => true) true Tryz.f4.params.toList args.toList ds p := hA0
  rw [Tryz.params4] at hA hval
  obtain ⟨v0, vs0, d0, ds0, p0, q0, hargs, rfl, rfl, h0, r0⟩ := trodAll_cons hA
  obtain ⟨rfl, rfl, rfl⟩ := trodAll_nil r0
  obtain rfl : args = #[v0] := by cases args; simp_all
  obtain ⟨rfl, rfl⟩ := trodVars_none hV
  obtain ⟨a0, rfl, rfl, rfl, w0⟩ := open_int Tryz.underlying3 (hval 0 3 v0 rfl rfl) h0
  clear hA0 hval0
  simp only [List.append_nil] at hW'
  refine (walk a0 W).mono fun e W' ⟨he, hg⟩ => ?_
  subst he
  exact ⟨_, rfl, post_of_grown (pa := []) (pv := []) hW' (fun _ _ _ => (trodAll_cons_mk (shut_bool Tryz.underlying4 _) trodAll_mk0)) (fun sp _ => (trodAll_cons_mk (shut_int Tryz.underlying3 w0) trodAll_mk0)) (fun _ _ => rfl) rfl
    hg (ok_one (by kernel_rfl) rfl (okWide_bool_mk Tryz.underlying4 _))⟩

theorem over : Rows.topSpawnsRow.holds Tryz.pinned (OpenSpec.ofChange Rows.topSpawnsSpec) :=
  OpenClaim.holds_of_wide 4 Tryz.f4 rfl rfl rfl rfl rfl rfl rfl ⟨rfl, rfl, rfl, rfl, rfl⟩ rfl rfl rfl rfl rfl (by as_aux_lemma => kernel_rfl) Tryz.func4 facts
    (of_decide_eq_true (by as_aux_lemma => kernel_rfl)) (by unfold Func.isWrapper; first | (rw [if_pos (by decide +kernel)]; kernel_rfl) | (rw [if_neg (by decide +kernel)]; exact ⟨rfl, rfl⟩))
    (fun os started H enc _ => lifted os started H enc)

/-- ████ THE STATEMENT ████ -/
theorem proved : Rows.TopSpawnsSaid :=
  over
#print axioms proved
end Go.Proofs.YtaebgjlinhmajaaGreat.topSpawns
