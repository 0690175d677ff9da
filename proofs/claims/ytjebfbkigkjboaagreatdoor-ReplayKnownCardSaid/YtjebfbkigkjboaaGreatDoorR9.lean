/- The claim: ReplayKnown: the law returns true. -/
import Derived.Test.YtjebfbkigkjboaaGreatDoorCards
import Derived.Test.YtjebfbkigkjboaaGreatDoorTie
import Derived.WalkKit
import Derived.ProofKit
import Derived.OpenShut
import Derived.Deep.DeepHandedRow
import Derived.Lib.LaidTab
import Derived.Carry
import Derived.Deep.DeepLaidRun
import Derived.Test.YtjebfbkigkjboaaGreatDoorR8
set_option maxRecDepth 100000
namespace Go.Proofs.YtjebfbkigkjboaaGreatDoor.Sy
open Go Go.RowKit Kit Go.ChangeShapes Go.WideShapes Go.ChangeAt
section
variable {H : Type} {enc : TypeId × Value → H} {P : Program}
/-- of what was there nothing has turned: the row's answer -/
theorem post_below {f : Func} {s : ChangeSpec} {apart fresh handsOn again : Bool} {W W' : World} {args : Array Value} {v : Value} {ds gs : List (DataW H)} {before pa pv : List MemPlace}
    (hW : DataW.Whole enc P f.params.toList s.vars apart W args.toList ds gs before)
    (hres : ∀ (b : Nat) (sp : Nat → Bool) (hd : Bool), DataW.TrodAll enc P W' b sp hd f.resultTypes.toList (v.resultList f.resultTypes.size) (s.fn H (ds ++ gs)).results [])
    (hargs : ∀ sp : Nat → Bool, (∀ p ∈ before, sp p.block = true) → DataW.TrodAll enc P W' 0 sp true f.params.toList args.toList (s.fn H (ds ++ gs)).args pa)
    (hvars : ∀ sp : Nat → Bool, (∀ p ∈ before, sp p.block = true) → DataW.TrodVars enc P W' sp s.vars (s.fn H (ds ++ gs)).vars pv)
    (hps : before = pa ++ pv) (hb : Below W.heap.size W W')
    (hok : ∀ (j : Nat) (t : TypeId) (r : Value), f.resultTypes[j]? = some t → (v.resultList f.resultTypes.size)[j]? = some r → Value.okWide P W' .any 0 t r) :
    s.post enc P f apart fresh handsOn again W args v W' := by
  have hlt := hW.lt
  have hold : ∀ p ∈ before, (fun b => decide (b < W.heap.size)) p.block = true := fun p hp => by simpa using hlt p hp
  refine ⟨ds, gs, before, [], pa, pv, hW, hres _ _ _, hargs _ hold, hvars _ hold, World.keptBut_mono (fun p hp => ⟨hp, ?_⟩) (hb.frame (· ∈ before)), fun _ => ?_⟩
  · rw [hps, List.mem_append] at hp
    exact Or.inr hp
  · obtain ⟨_, _, _, _, _, hz, hn⟩ := hW
    refine ⟨hok, _, _, ([] ++ pa) ++ pv, ⟨[] ++ pa, pv, trodAll_append (hargs _ (fun _ _ => rfl)) (hres _ _ _), hvars _ (fun _ _ => rfl), rfl, ?_, ?_⟩, ?_⟩
    · intro b off hp
      have hp' : MemPlace.cell b off ∈ before := by rw [hps]; simpa using hp
      rw [hb.frozen (hlt _ hp')]
      exact hz b off hp'
    · intro ha
      have := hn ha
      rw [hps] at this
      simpa using this
    · intro p hp _
      rw [hps]
      simpa using hp
end
def base (W : World) : Base := { W with L := fun _ => False, gh := fun _ => none }
theorem rel0 (W : World) : Rel (base W) (snap W) (snap W) (fun _ => none) St.nil #[] W where
  below := ⟨rfl, rfl, rfl, Nat.le_refl _, fun _ _ _ => rfl⟩
  snap := fun _ _ h => h
  mono := fun _ _ h => h
  newM := fun _ _ h => .inl h
  apart := fun _ _ _ h => by cases h
  inj := fun _ _ _ _ _ h => by cases h
  size := Nat.zero_le _
  small := Nat.zero_le _
  env := fun _ _ h => by cases h
  objs := fun _ _ h => by cases h
theorem below0 {W w : World} {M M' : Snap} {β : Plc} {σ : St} {tm : Array Value} (h : Rel (base W) M M' β σ tm w) : Below W.heap.size W w :=
  ⟨h.below.os, h.below.tape, h.below.output, h.below.size, fun k hk => h.below.block k hk (fun h => h)⟩

open Go Go.RowKit Kit Go.ChangeShapes Go.WideShapes Go.ChangeAt
theorem own : ownKnob Tryz.prog.godebug = none := by kernel_rfl
theorem known_pt : zc182 [] St.nil = .ret (rB true, ⟨0, [], []⟩) := by kernel_rfl
theorem known_calls {W : World} : Calls Tryz.prog 3 #[] W fun e w' => e = .returned (.bool true) ∧ Below W.heap.size W w' := by
  refine (zc182_ok.2 (base W) (snap W) (fun _ => none) St.nil [] [] (rel0 W) .nil (fun r => r.1 = rB true) ?_).mono ?_
  · rw [known_pt]
    exact rfl
  · rintro e w' ⟨x, τ', v, M', β', hK, rfl, hx, hrel⟩
    refine ⟨?_, below0 hrel⟩
    have hK : x = rB true := hK
    subst hK
    have hx : DR M' (.v (.bool true)) v := hx
    cases hx with
    | v h => rfl
theorem known_contract (H : Type) (enc : TypeId × Value → H) (W : World) (args : Array Value) (ds gs : List (DataW H)) (before : List MemPlace)
    (hW : DataW.Whole enc Tryz.prog Tryz.f3.params.toList Rows.replayKnownSpec.vars false W args.toList ds gs before) :
    Calls Tryz.prog 3 args W fun e W' => ∃ v, e = .returned v ∧ Rows.replayKnownSpec.post enc Tryz.prog Tryz.f3 false true false false W args v W' := by
  have hW' := hW
  obtain ⟨p, q, hA0, hV, rfl, hfz, hnd⟩ := hW
  have hA : DataW.TrodAll enc Tryz.prog W 0 (fun _ => true) true Tryz.f3.params.toList args.toList ds p := hA0
  rw [Tryz.params3] at hA
  obtain ⟨hargs, rfl, rfl⟩ := trodAll_nil hA
  obtain rfl : args = #[] := by cases args; simp_all
  obtain ⟨rfl, rfl⟩ := trodVars_none hV
  clear hA0 hA
  simp only [List.append_nil] at hW'
  refine (known_calls (W := W)).mono fun e W' ⟨he, hb⟩ => ?_
  subst he
  exact ⟨_, rfl, post_below (pa := []) (pv := []) hW' (fun _ _ _ => trodAll_cons_mk (shut_bool Tryz.underlying4 _) trodAll_mk0)
    (fun _ _ => trodAll_mk0) (fun _ _ => rfl) rfl
    hb (ok_one (by kernel_rfl) rfl (okWide_bool_mk Tryz.underlying4 _))⟩
/-! ### the witness: every listed table lies as the program's text lays it -/
def flatD : DataW Unit → List Value
  | .lit (.int k n) => [.int k n]
  | .agg l => flatDs l
  | _ => []
where flatDs : List (DataW Unit) → List Value
  | [] => []
  | d :: r => flatD d ++ flatDs r
def layOne (vs : List Value) : Obj → Obj
  | .cells _ t fr => .cells vs.toArray t fr
  | o => o
def layTab (P : Program) (h : Array Obj) (x : String × DataW Unit) : Array Obj :=
  match P.globalNamed x.1 with
  | some g => h.modify g (layOne (flatD x.2))
  | none => h
noncomputable def laidWorld (l : List (String × DataW Unit)) (os : Os) : World :=
  { World.holding Tryz.prog os ⟨#[], #[], []⟩ with heap := l.foldl (layTab Tryz.prog) (World.holding Tryz.prog os ⟨#[], #[], []⟩).heap }
theorem known_met (os : Os) : laidMet Tryz.prog Rows.replayKnownRow.laid ((laidWorld Rows.replayKnownRow.laid os).forCall (fun _ _ => 0) ⟨#[], #[], []⟩).memory :=
  laidMet_of_run3 8 (by kernel_rfl) (by kernel_rfl) (by kernel_rfl)
theorem known_reads (os : Os) {H : Type} (enc : TypeId × Value → H) : ∃ ds places, DataW.whole enc Tryz.prog ((laidWorld Rows.replayKnownRow.laid os).forCall (fun _ _ => 0) ⟨#[], #[], []⟩).memory Tryz.f3.params.toList Rows.replayKnownSpec.vars false #[].toList 8 = some (ds, [], places) :=
  ⟨[], [], by kernel_rfl⟩
theorem known_lifted (os : Os) (started : os.Started) (H : Type) (enc : TypeId × Value → H) (F : Stop.Interp) :
    ReturnsInHanded {} Tryz.checked os 3 .any ((OpenSpec.ofChange Rows.replayKnownSpec).preRow enc Tryz.prog Tryz.f3 Rows.replayKnownRow.domain false Rows.replayKnownRow.laid) (((OpenSpec.ofChange Rows.replayKnownSpec).at F).post enc Tryz.prog Tryz.f3 false true false false) := by
  obtain ⟨ds, places, hx⟩ := known_reads os enc
  refine returnsInHanded_of_row (C := Tryz.checked) (s := OpenSpec.ofChange Rows.replayKnownSpec) own started (by kernel_rfl) Tryz.func3
    (witness_row_at (enc := enc) (C := Tryz.checked) false (laidWorld Rows.replayKnownRow.laid os) #[] rfl (by kernel_rfl) (by kernel_rfl) (by kernel_rfl)
      (OpenSpec.preRow_of_cond 8 hx (by kernel_rfl) (fun k hk => by cases hk) (by kernel_rfl) (known_met os))) ?_
  intro W b0 args ds gs before hval hW _ _ _ hL _ _
  exact known_contract H enc W args ds gs before hW
theorem known_closed : joinedFacts Tryz.pinned.checked.prog 3 Tryz.f3 (OpenSpec.ofChange Rows.replayKnownSpec).bare Rows.replayKnownRow = true := by
  unfold joinedFacts
  rw [show Tryz.pinned.checked.prog.inPlace 3 = _ from ip_eq, show Tryz.pinned.checked.prog.unfollowed 3 = true from un_eq, show Tryz.pinned.checked.prog.recurses 3 = true from re_eq, show Tryz.pinned.checked.prog.varsNamed 3 = _ from nm_eq]
  kernel_rfl
theorem known_said : Rows.ReplayKnownSaid :=
  OpenClaim.holds_of_cond 3 Tryz.f3 rfl rfl rfl rfl rfl rfl rfl ⟨rfl, rfl, rfl, rfl, rfl⟩ rfl rfl rfl rfl rfl (by kernel_rfl) Tryz.func3 known_closed
    (of_decide_eq_true (by kernel_rfl)) (by unfold Func.isWrapper; first | (rw [if_pos (by decide +kernel)]; kernel_rfl) | (rw [if_neg (by decide +kernel)]; exact ⟨rfl, rfl⟩))
    (fun os started H enc _ F => by rw [OpenClaim.pre_eq_preRow]; exact known_lifted os started H enc F)
theorem known_plain (f : FuncId) (fn : Func) (hf : Tryz.pinned.checked.prog.funcNamed "crossroads/crossroadslaw24.ReplayKnown" = some f) (hfn : Tryz.pinned.checked.prog.funcs[f]? = some fn) :
    true = Tryz.pinned.checked.prog.looks [] ∧ ∀ (j : Nat) t, fn.params[j]? = some t → Tryz.pinned.checked.prog.wantsStandIn t = false := by
  obtain rfl : f = 3 := Option.some.inj ((show Tryz.prog.funcNamed "crossroads/crossroadslaw24.ReplayKnown" = some 3 by kernel_rfl).symm.trans hf) |>.symm
  obtain rfl : fn = Tryz.f3 := (Option.some.inj (Tryz.func3.symm.trans hfn)).symm
  refine ⟨by kernel_rfl, fun j t ht => ?_⟩
  rw [Tryz.params3] at ht
  have hm := Array.mem_of_getElem? ht
  simp at hm
theorem replayKnown_card : Rows.ReplayKnownCardSaid :=
  Claim7.holds_tied_plain_at .later [] _ _ _ _ known_said (fun _ h => by cases h) wf_eq (fun _ h => by cases h) replayKnown_row_tie rfl ⟨rfl, rfl⟩ main_eq rfl known_plain gb_eq
#print axioms replayKnown_card
end Go.Proofs.YtjebfbkigkjboaaGreatDoor.Sy
