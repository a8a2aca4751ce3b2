/-
  Hooks of the program's small functions.
-/
import Derived.Shelf.SlIterI.Nil
import Derived.Shelf.SortM.Plain
import Derived.Shelf.SortM.SortNone
import Derived.Ground.GgzProg
import Derived.Ground.SlgmProg
import Derived.Test.YtaebgjlinhmajaaGreatProg
import Derived.Test.YtaebgjlinhmajaaGreatEngE
import Derived.Test.YtaebgjlinhmajaaGreatLaid
import Derived.Test.YtaebgjlinhmajaaGreatEngG
import Derived.Test.YtaebgjlinhmajaaGreatWalkA
namespace Go.Proofs
open Go.RowKit Go.Maps Go.Sort Go.Shelf Go.MapKept Go.ChangeMaps
theorem Tryz.sortsA (m : Nat) : AnyZI.SortsIn Tryz.prog Tryz.sortedA_ren Fence.wide m :=
  ⟨fun blk off cap ss W hH hblk hsz => callsIn_wide.2 (AnyM.slices_Sort_int Tryz.sortA blk off cap ss W hH hblk hsz),
   fun p cap W => callsIn_wide.2 (AnyM.slices_Sort_int_none Tryz.sortA p cap W)⟩
theorem insert_perm {H : Type} (x : Lit × DataW H) : ∀ l, (DataW.insert x l).Perm (x :: l)
  | [] => .refl _
  | y :: l => by
    simp only [DataW.insert]
    split
    · exact .refl _
    · exact ((insert_perm x l).cons y).trans (.swap x y l)
theorem foldr_perm {H : Type} : ∀ l : List (Lit × DataW H), (l.foldr DataW.insert []).Perm l
  | [] => .refl _
  | x :: l => (insert_perm x _).trans ((foldr_perm l).cons x)
def Ru : Value → Option (DataW Unit × List MemPlace) := fun _ => some (.lit (.bool true), [])
theorem key_at (n : Int) (h1 : -9223372036854775808 ≤ n) (h2 : n < 9223372036854775808) (v : Value) (b : Nat) : Go.WideElems.rd Tryz.prog 3 Ru ⟨.int .i64 n, v, b⟩ = some (.int .i64 n, .lit (.bool true)) := by
  have hk : keyOf Tryz.prog 3 (.int .i64 n) = some (.int .i64 n) := by
    have hw : (Lit.int .i64 n).wf = true := by
      simp [Lit.wf, IntKind.min, IntKind.max, IntKind.signed, IntKind.bits]; omega
    unfold keyOf
    rw [show Tryz.prog.underlying 3 = some (.int .i64) by kernel_rfl]
    simp [mapKey, hw]
  simp [Go.WideElems.rd, hk, Ru]
theorem keys_perm {es : List MapEntry} (hk : ∀ x ∈ es, ∃ n, x.key = .int .i64 n ∧ -9223372036854775808 ≤ n ∧ n < 9223372036854775808) :
    (intKeys (.map ((es.map (Go.WideElems.rg Tryz.prog 3 Ru)).foldr DataW.insert []) : DataW Unit)).Perm (Go.Eng.keysOf es) := by
  unfold intKeys
  refine (List.Perm.map _ (foldr_perm _)).trans (List.Perm.of_eq ?_)
  rw [List.map_map]
  unfold Go.Eng.keysOf
  refine List.map_congr_left fun x hx => ?_
  obtain ⟨n, e, b1, b2⟩ := hk x hx
  obtain ⟨k, v, b⟩ := x
  simp only at e
  subst e
  simp only [Function.comp, Go.WideElems.rg, key_at n b1 b2, Option.getD_some]
  rfl
theorem Tryz.sortedAt : Go.Eng.SortedAt Tryz.prog 42 79 3 := by
  intro pb mb es clock W hpb hcell hes hst hsz hkeys
  have hown : W.ownsMap Tryz.prog 3 Ru mb es.size (.map ((es.toList.map (Go.WideElems.rg Tryz.prog 3 Ru)).foldr DataW.insert [])) :=
    ⟨es, clock, hes, ⟨by unfold maxLen; omega, hst, fun x hx => by
      obtain ⟨n, h1, h2, h3⟩ := hkeys x hx
      obtain ⟨k, v, b⟩ := x
      simp only at h1
      subst h1
      exact ⟨_, key_at n h2 h3 v b⟩⟩, Nat.le_refl _, rfl⟩
  have hseq := AnyZI.keys_gives (ρ := Tryz.keysA_ren) { Tryz.keysA with } Fence.wide 2 trivial rfl (by omega) pb mb es.size _ W hpb hcell hown
  have hsize : Maps.size (.map ((es.toList.map (Go.WideElems.rg Tryz.prog 3 Ru)).foldr DataW.insert []) : DataW Unit) = es.size := by
    rw [size_eq, (foldr_perm _).length_eq]; simp
  have cS := AnyZI.sorted_in Tryz.sortedA Fence.wide 5 trivial trivial trivial trivial rfl (by omega) (Tryz.sortsA _) (enters_of Tryz.func78 (by kernel_rfl) rfl) 79 #[.pointer (some ⟨pb, 0, none⟩)] trivial (enters_of Tryz.func79 (by kernel_rfl) rfl) _ _ (by rw [hsize]; unfold maxLen; omega) (by rw [hsize]; omega) W hseq
  change CallsIn _ _ Tryz.prog 42 _ _ _ at cS
  refine (callsIn_wide.1 cS).mono ?_
  rintro e w' ⟨v, ss, rfl, hS, hrow, hnil, hb⟩
  refine ⟨v, ss, rfl, hS.trans (keys_perm hkeys), ?_, hnil, hb⟩
  exact hrow
end Go.Proofs
namespace Go.Eng
open Go.Proofs
noncomputable section
/-! ### Small functions of the program, told at once -/
def fitsK (t l : Int) : Bool := Int.rec (motive := fun _ => Bool) (fun n =>
  Bool.rec (motive := fun _ => Bool)
    (Bool.rec (motive := fun _ => Bool) (Bool.rec (motive := fun _ => Bool) (Bool.rec (motive := fun _ => Bool) (Bool.rec (motive := fun _ => Bool) false (leN l (nat_lit 1152921504606846975)) (Nat.ble n (nat_lit 7)))
      (leN l (nat_lit 0)) (Nat.beq n (nat_lit 3))) (leN l (nat_lit 63)) (Nat.beq n (nat_lit 2))) (leN l (nat_lit 255)) (Nat.beq n (nat_lit 1)))
    (Int.rec (motive := fun _ => Bool) (fun x => Nat.ble x (nat_lit 1152921504606846975)) (fun y => Nat.ble y (nat_lit 1152921504606846975)) l) (Nat.beq n (nat_lit 0))) (fun _ => false) t
theorem beqN_cases (n m : Nat) : (Nat.beq n m = true ∧ n = m) ∨ (Nat.beq n m = false ∧ n ≠ m) := by
  cases h : Nat.beq n m with
  | true => exact .inl ⟨rfl, Nat.eq_of_beq_eq_true h⟩
  | false => exact .inr ⟨rfl, fun e => by subst e; rw [Nat.beq_refl] at h; cases h⟩
theorem bleN_cases (n m : Nat) : (Nat.ble n m = true ∧ n ≤ m) ∨ (Nat.ble n m = false ∧ m < n) := by
  cases h : Nat.ble n m with
  | true => exact .inl ⟨rfl, Nat.le_of_ble_eq_true h⟩
  | false => exact .inr ⟨rfl, Nat.lt_of_not_le fun e => by rw [Nat.ble_eq_true_of_le e] at h; cases h⟩
theorem fitsK_eq (t l : Int) : fitsK t l = fitsB t l := by
  cases t with
  | negSucc n =>
    show false = _
    unfold fitsB
    rw [if_neg (by omega), if_neg (by omega), if_neg (by omega), if_neg (by omega), if_neg (by omega)]
  | ofNat n =>
    unfold fitsK fitsB
    dsimp only
    simp only [leN_eq]
    rcases beqN_cases n 0 with ⟨e, h⟩ | ⟨e, h⟩ <;> rw [e]
    · subst h
      rw [if_pos (by rfl)]
      cases l with
      | ofNat x =>
        show Nat.ble x 1152921504606846975 = _
        rw [Bool.eq_iff_iff, decide_eq_true_iff, Nat.ble_eq]
        simp only [Int.ofNat_eq_natCast]; omega
      | negSucc x =>
        show Nat.ble x 1152921504606846975 = _
        rw [Bool.eq_iff_iff, decide_eq_true_iff, Nat.ble_eq]
        omega
    · rw [if_neg (by simp only [Int.ofNat_eq_natCast]; omega)]
      rcases beqN_cases n 1 with ⟨e, h⟩ | ⟨e, h⟩ <;> rw [e]
      · subst h; rw [if_pos (by rfl)]; rfl
      · rw [if_neg (by simp only [Int.ofNat_eq_natCast]; omega)]
        rcases beqN_cases n 2 with ⟨e, h⟩ | ⟨e, h⟩ <;> rw [e]
        · subst h; rw [if_pos (by rfl)]; rfl
        · rw [if_neg (by simp only [Int.ofNat_eq_natCast]; omega)]
          rcases beqN_cases n 3 with ⟨e, h⟩ | ⟨e, h⟩ <;> rw [e]
          · subst h; rw [if_pos (by rfl)]; rfl
          · rw [if_neg (by simp only [Int.ofNat_eq_natCast]; omega)]
            rcases bleN_cases n 7 with ⟨e, h⟩ | ⟨e, h⟩ <;> rw [e]
            · rw [if_pos (by simp only [Int.ofNat_eq_natCast]; omega)]; rfl
            · rw [if_neg (by simp only [Int.ofNat_eq_natCast]; omega)]
def hookFits (args : List AV) (h : AHeap) : CR := args2 args (fun a b => i64E a (fun t => i64E b (fun l => retB (fitsK t l) h) .fail) .fail) .fail
theorem hookFits_ok (args : List AV) (h : AHeap) (θ : Env) (W : World) (hr : HR θ h W) (ha : AV.oks θ h.D args) : CallRes Tryz.prog 327 args θ h W (hookFits args h) := by
  unfold hookFits
  rw [args2_eq]
  split
  · rename_i a b
    rw [i64E_eq]
    split
    · rw [i64E_eq]
      split
      · rw [retB_eq, fitsK_eq]
        exact hook_grow hr trivial (Tryz.fits_any _ _ W)
      · trivial
    · trivial
  · trivial
/-- how long a slice is -/
def lenS (v : AV) : Option Nat := match v with
  | .nils => some 0
  | .sl _ _ n _ => some n
  | _ => none
def thereK (o c : Nat) (form n : Int) : Bool := Int.rec (motive := fun _ => Bool) (fun f =>
  Bool.rec (motive := fun _ => Bool) (Bool.rec (motive := fun _ => Bool) (Bool.rec (motive := fun _ => Bool) (Bool.rec (motive := fun _ => Bool) (Bool.rec (motive := fun _ => Bool) (Bool.rec (motive := fun _ => Bool) (Bool.rec (motive := fun _ => Bool) (Bool.rec (motive := fun _ => Bool)
    (leN n (nat_lit 0)) (leN n (nat_lit 8)) (Nat.beq f (nat_lit 8))) (Bool.rec (motive := fun _ => Bool) (inN n (nat_lit 1) (nat_lit 9)) false (Int.rec (motive := fun _ => Bool) (fun x => Nat.beq x (nat_lit 2)) (fun _ => false) n)) (Nat.beq f (nat_lit 7)))
    (leN n (nat_lit 7)) (Nat.beq f (nat_lit 6))) (leN n (nat_lit 8)) (Nat.beq f (nat_lit 5))) (ltN n o) (Nat.beq f (nat_lit 4))) (ltN n c) (Nat.beq f (nat_lit 3))) (leN n (nat_lit 6)) (Nat.beq f (nat_lit 2))) (leN n (nat_lit 7)) (Nat.beq f (nat_lit 1))) (fun _ => leN n (nat_lit 0)) form
theorem thereK_eq (o c : Nat) (form n : Int) : thereK o c form n = thereB o c form n := by
  cases form with
  | negSucc f =>
    show leN n 0 = _
    rw [leN_eq]
    unfold thereB
    rw [if_neg (by omega), if_neg (by omega), if_neg (by omega), if_neg (by omega), if_neg (by omega), if_neg (by omega), if_neg (by omega), if_neg (by omega)]
    rfl
  | ofNat f =>
    unfold thereK thereB
    dsimp only
    simp only [leN_eq, ltN_eq, Int.ofNat_eq_natCast]
    rcases beqN_cases f 1 with ⟨e, h⟩ | ⟨e, h⟩ <;> rw [e]
    · subst h; rfl
    rcases beqN_cases f 2 with ⟨e, h2⟩ | ⟨e, h2⟩ <;> rw [e]
    · subst h2; rfl
    rcases beqN_cases f 3 with ⟨e, h3⟩ | ⟨e, h3⟩ <;> rw [e]
    · subst h3; rfl
    rcases beqN_cases f 4 with ⟨e, h4⟩ | ⟨e, h4⟩ <;> rw [e]
    · subst h4; rfl
    rcases beqN_cases f 5 with ⟨e, h5⟩ | ⟨e, h5⟩ <;> rw [e]
    · subst h5; rfl
    rcases beqN_cases f 6 with ⟨e, h6⟩ | ⟨e, h6⟩ <;> rw [e]
    · subst h6; rfl
    rcases beqN_cases f 7 with ⟨e, h7⟩ | ⟨e, h7⟩ <;> rw [e]
    · subst h7
      rw [if_pos (by rfl)]
      cases n with
      | negSucc x =>
        show false = _
        symm; rw [decide_eq_false_iff_not]; omega
      | ofNat x =>
        show Bool.rec (motive := fun _ => Bool) (Bool.rec (motive := fun _ => Bool) false (Nat.ble x 9) (Nat.ble 1 x)) false (Nat.beq x 2) = _
        simp only [Int.ofNat_eq_natCast]
        rcases beqN_cases x 2 with ⟨e, h⟩ | ⟨e, h⟩ <;> rw [e]
        · show false = _
          symm; rw [decide_eq_false_iff_not]; omega
        · rcases bleN_cases 1 x with ⟨e, h⟩ | ⟨e, h⟩ <;> rw [e]
          · show Nat.ble x 9 = _
            rw [Bool.eq_iff_iff, decide_eq_true_iff, Nat.ble_eq]; omega
          · show false = _
            symm; rw [decide_eq_false_iff_not]; omega
    rw [if_neg (by omega), if_neg (by omega), if_neg (by omega), if_neg (by omega), if_neg (by omega), if_neg (by omega), if_neg (by omega)]
    rcases beqN_cases f 8 with ⟨e, h8⟩ | ⟨e, h8⟩ <;> rw [e]
    · subst h8; rfl
    rw [if_neg (by omega)]
    rfl
def hookThere (args : List AV) (h : AHeap) : CR := match args with
  | [.agg [o, c], f, n] => (match lenS o, lenS c with
    | some lo, some lc => (match Nat.ble lo 1000000 && Nat.ble lc 1000000 with
      | true => i64E f (fun f => i64E n (fun n => retB (thereK lo lc f n) h) .fail) .fail
      | false => .fail)
    | _, _ => .fail)
  | _ => .fail
theorem lenS_conc {θ : Env} {v : AV} {n : Nat} (h : lenS v = some n) : ∃ a d, v.conc θ = .slice a n d := by
  unfold lenS at h
  split at h
  · injection h with h; subst h; exact ⟨_, _, rfl⟩
  · injection h with h; subst h; exact ⟨_, _, rfl⟩
  · cases h
theorem hookThere_ok (args : List AV) (h : AHeap) (θ : Env) (W : World) (hr : HR θ h W) (ha : AV.oks θ h.D args) : CallRes Tryz.prog 149 args θ h W (hookThere args h) := by
  unfold hookThere
  split
  · rename_i o c f n
    split
    · rename_i lo lc ho hc
      split
      · rename_i hb
        rw [i64E_eq]
        split
        · rw [i64E_eq]
          split
          · simp only [Bool.and_eq_true] at hb
            obtain ⟨a1, d1, e1⟩ := lenS_conc (θ := θ) ho
            obtain ⟨a2, d2, e2⟩ := lenS_conc (θ := θ) hc
            rw [retB_eq, thereK_eq]
            refine hook_grow hr trivial ?_
            have := fun f n => Tryz.there_any a1 a2 lo lc d1 d2 f n (Nat.le_of_ble_eq_true hb.1) (Nat.le_of_ble_eq_true hb.2) W
            simp only [AV.concs, AV.conc, e1, e2]
            apply this
          · trivial
        · trivial
      · trivial
    · trivial
  · trivial
def hookTag (args : List AV) (h : AHeap) : CR := match args with
  | [v] => intE v (fun k i => IntKind.rec (motive := fun _ => CR) .fail .fail .fail .fail .fail .fail .fail (Int.rec (motive := fun _ => CR) (fun n => natK (Nat.mod n (nat_lit 8)) fun m => .ret (.int .i64 (.ofNat m)) h) (fun _ => .fail) i) k) .fail
  | _ => .fail
theorem hookTag_ok (args : List AV) (h : AHeap) (θ : Env) (W : World) (hr : HR θ h W) (ha : AV.oks θ h.D args) : CallRes Tryz.prog 351 args θ h W (hookTag args h) := by
  unfold hookTag
  clear ha
  split
  · rename_i v
    cases v <;> try trivial
    rename_i k i
    cases k <;> try trivial
    cases i with
    | negSucc => trivial
    | ofNat n =>
      show CallRes _ _ _ _ _ _ (natK (Nat.mod n 8) fun m => .ret (.int .i64 (.ofNat m)) h)
      rw [natK_eq]
      exact hook_grow hr trivial (Tryz.tag_any n W)
  · trivial
end
end Go.Eng
namespace Go.Eng
open Go.Proofs
noncomputable section
theorem Tryz.mixed : Tryz.prog.follows .mixedOrders = true := by kernel_rfl
def noHook (_ : Nat) : Option (List AV → AHeap → CR) := none
/-- a run that needs nothing of memory -/
theorem run_ret {hook : Nat → Option (List AV → AHeap → CR)}
    (hhook : ∀ f k, hook f = some k → ∀ (args : List AV) (h : AHeap) (θ : Env) (W : World), HR θ h W → AV.oks θ h.D args → CallRes Tryz.prog f args θ h W (k args h)) {loops depth f : Nat} {args : List AV} {v : AV} {h' : AHeap}
    (hrun : callF Tryz.prog loops hook depth f args h00 = .ret v h') (hargs : AV.oks θ00 h00.D args) (W : World) :
    Calls Tryz.prog f ⟨AV.concs θ00 args⟩ W fun e W' => Grown W W' ∧ ∃ θ', e = .returned (v.conc θ') :=
  engine_ret Tryz.mixed hhook loops depth (by rw [← callF_eq]; exact hrun) hargs W
/-- a value out of which no number of a block comes, of a run that needs nothing of memory -/
theorem hook_run {P : Program} {f : Nat} {args : List AV} {h : AHeap} {θ : Env} {W : World} {v : AV} (hr : HR θ h W) (hv : v.ok θ h.D) (hcc : ∀ θ', v.conc θ' = v.conc θ)
    (hc : Calls P f ⟨AV.concs θ args⟩ W fun e W' => Grown W W' ∧ ∃ θ', e = .returned (v.conc θ')) : CallRes P f args θ h W (.ret v h) :=
  Calls.mono hc fun _ _ ⟨g, θ', he⟩ => ⟨θ, Step.grow hr g.size g.kept g.os g.out, hv, by rw [he, hcc]⟩
def formsL : List (Nat × Nat × Nat) :=
  [(0, 0, 0), (1, 3, 0), (1, 1, 0), (1, 0, 0), (1, 0, 0), (1, 1, 1), (1, 1, 1), (1, 1, 1), (1, 1, 1), (1, 1, 1), (1, 1, 0), (1, 1, 0), (1, 8, 5), (1, 1, 6), (1, 1, 1), (1, 1, 2), (1, 1, 0), (1, 1, 0),
   (1, 0, 0), (1, 4, 0), (1, 1, 0), (1, 0, 0), (0, 0, 0), (0, 0, 0), (1, 1, 4), (1, 1, 4), (1, 7, 4), (4, 0, 0), (4, 0, 0), (0, 0, 0), (1, 0, 0), (1, 0, 0), (4, 0, 0), (0, 0, 0), (1, 0, 0), (8, 0, 0)]
def formV (x : Nat × Nat × Nat) : AV := .tup [.agg [.int .i64 (.ofNat x.1), .int .i64 (.ofNat x.2.1), .int .i64 (.ofNat x.2.2)], .bool true]
def okForm (x : Nat × Nat × Nat) (r : CR) : Bool := match r with
  | .ret v _ => beqA v (formV x)
  | _ => false
theorem okForm_spec {x : Nat × Nat × Nat} {r : CR} (h : okForm x r = true) : ∃ h', r = .ret (formV x) h' := by
  unfold okForm at h
  split at h
  · rename_i v h'
    exact ⟨h', by rw [beqA_eq _ _ h]⟩
  · cases h
def okForms (r : Nat → CR) : List (Nat × Nat × Nat) → Nat → Bool
  | [], _ => true
  | x :: l, k => okForm x (r k) && okForms r l (k + 1)
theorem okForms_spec (r : Nat → CR) : ∀ {l : List (Nat × Nat × Nat)} {k : Nat}, okForms r l k = true → ∀ {j : Nat} {x : Nat × Nat × Nat}, nthF l j = some x → okForm x (r (k + j)) = true
  | [], _, _, _, _, h => by cases h
  | y :: l, k, h, 0, x, hx => by
    simp only [okForms, Bool.and_eq_true] at h
    injection hx with hx; subst hx
    exact h.1
  | y :: l, k, h, j + 1, x, hx => by
    simp only [okForms, Bool.and_eq_true] at h
    have := okForms_spec r h.2 (j := j) (x := x) hx
    rwa [show k + 1 + j = k + (j + 1) by omega] at this
def formRun (k : Nat) : CR := callF Tryz.prog 200 noHook 20 148 [.int .i64 (.ofNat k)] h00
theorem forms_run : okForms formRun formsL 0 = true := by kernel_rfl
def hookForms (args : List AV) (h : AHeap) : CR := match args with
  | [v] => i64E v (fun i => Int.rec (motive := fun _ => CR) (fun n => Option.rec (motive := fun _ => CR) .fail (fun x => .ret (formV x) h) (nthL formsL n)) (fun _ => .fail) i) .fail
  | _ => .fail
theorem hookForms_ok (args : List AV) (h : AHeap) (θ : Env) (W : World) (hr : HR θ h W) (_ha : AV.oks θ h.D args) : CallRes Tryz.prog 148 args θ h W (hookForms args h) := by
  unfold hookForms
  split
  · rw [i64E_eq]
    split
    · rename_i i
      cases i with
      | negSucc => trivial
      | ofNat n =>
        show CallRes _ _ _ _ _ _ (Option.rec (motive := fun _ => CR) .fail (fun x => .ret (formV x) h) (nthL formsL n))
        rw [nthL_eq]
        cases hx : nthF formsL n with
        | none => trivial
        | some x =>
          have h1 := okForms_spec formRun forms_run hx
          rw [Nat.zero_add] at h1
          obtain ⟨h', h2⟩ := okForm_spec h1
          exact hook_run hr ⟨⟨⟨trivial, trivial, trivial, trivial⟩, rfl⟩, trivial, trivial⟩ (fun _ => rfl) (run_ret (by intro f k hk; cases hk) h2 ⟨trivial, trivial⟩ W)
    · trivial
  · trivial
end
end Go.Eng
namespace Go.Eng
open Go.Proofs
noncomputable section
theorem Tryz.listAt : ListAt Tryz.prog 52 := fun b off cap k0 k1 k4 k2 k5 w hb h0 h1 h2 h3 h4 h5 h6 =>
  callsIn_wide.1 (Tryz.list1_in Fence.wide 5 trivial trivial trivial rfl (by omega) b off cap k0 k1 k4 k2 k5 w hb h0 h1 h2 h3 h4 h5 h6)
abbrev HookT := List AV → AHeap → CR
/-- one number more -/
def orHook (n : Nat) (k : HookT) (r : Nat → Option HookT) (f : Nat) : Option HookT := Bool.rec (motive := fun _ => Option HookT) (r f) (some k) (Nat.beq f n)
def HookOK (r : Nat → Option HookT) : Prop := ∀ f k, r f = some k → ∀ (args : List AV) (h : AHeap) (θ : Env) (W : World), HR θ h W → AV.oks θ h.D args → CallRes Tryz.prog f args θ h W (k args h)
theorem noHook_ok : HookOK noHook := fun _ _ h => by cases h
theorem orHook_ok {n : Nat} {k : HookT} {r : Nat → Option HookT} (hr : HookOK r) (hk : ∀ (args : List AV) (h : AHeap) (θ : Env) (W : World), HR θ h W → AV.oks θ h.D args → CallRes Tryz.prog n args θ h W (k args h)) : HookOK (orHook n k r) := by
  intro f k' h
  unfold orHook at h
  cases hb : Nat.beq f n with
  | false => rw [hb] at h; exact hr f k' h
  | true =>
    rw [hb] at h
    have : f = n := Nat.eq_of_beq_eq_true hb
    subst this
    injection h with h
    subst h
    exact hk
def hookA : Nat → Option HookT := orHook 327 hookFits (orHook 351 hookTag (orHook 149 hookThere (orHook 148 hookForms (orHook 42 (hookS 79) (orHook 52 hookL noHook)))))
theorem hookA_ok : HookOK hookA :=
  orHook_ok (orHook_ok (orHook_ok (orHook_ok (orHook_ok (orHook_ok noHook_ok (hookL_ok Tryz.listAt)) (hookS_ok Tryz.sortedAt)) hookForms_ok) hookThere_ok) hookTag_ok) hookFits_ok
end
end Go.Eng
