/- The claim: ImageApart: of every two rows the law returns true. -/
import Derived.Test.YtdngaaploooceaaGreatDoorM8
set_option maxRecDepth 100000
namespace Go.Proofs.YtdngaaploooceaaGreatDoor.Sy
open Go Go.RowKit Kit Go.ChangeShapes Go.WideShapes Go.ChangeAt
theorem rg_u16 {n : Int} (h : Rg (.int .u16) n) : 0 ≤ n ∧ n ≤ 65535 := by
  simp only [Rg, Lit.wf, Bool.and_eq_true, decide_eq_true_eq] at h
  exact h
theorem rg_imgR {m : Img} (h : Rg tImg m) : imgR m = true := by
  have h0 := rg_img h
  obtain ⟨-, -, -, h1, -, h2⟩ := h
  unfold imgR trcR
  rw [h0, Bool.true_and, Bool.and_eq_true, decide_eq_true_iff]
  exact ⟨List.all_eq_true.2 fun e he => decide_eq_true (rg_u16 (h1 e he).2), rg_u16 h2⟩
/-- an argument that is a row -/
theorem row_argR {H : Type} {enc : TypeId × Value → H} {W : World} {b0 : Nat} {v : Value} {d : DataW H} {ps : List MemPlace} (hv : Value.okWide Tryz.prog W .any b0 39 v) (h : DataW.Trod enc Tryz.prog W 0 (fun _ => true) true 39 v d ps) :
    ∃ (m : Img), SVR (snap W) (fun _ => none) ((aAgg tImg).sv m) v ∧ imgR m = true := by
  obtain ⟨fuel, hf⟩ := h
  have hc : ∃ cs : Array Value, v = .agg cs ∧ cs.size = 13 := by
    unfold Value.okWide at hv
    rw [Tryz.underlying39] at hv
    obtain ⟨cs, e, hs, -⟩ := hv
    exact ⟨cs, e, hs.trans (by kernel_rfl)⟩
  obtain ⟨cs, rfl, hs⟩ := hc
  obtain ⟨m, hm, hr⟩ := open_lay (enc := enc) (P := Tryz.prog) (w := W) (base := 0) (spare := fun _ => true) (held := true) tImg 0 [(0, 39)] cs.toList (by kernel_rfl) (fun f hf' => by
    have e : f = (0, 39) := by simpa using hf'
    subst e
    refine ⟨fuel, (d, ps), ?_⟩
    rw [show (Tryz.prog.cellsOf (0, 39).2) = 13 from by kernel_rfl, List.drop_zero, List.take_of_length_le (by simp; omega)]
    exact hf)
  rw [List.drop_zero, List.take_of_length_le (by show cs.toList.length ≤ 13; simp; omega)] at hm
  exact ⟨m, ⟨cs, rfl, .ofCells hm⟩, rg_imgR hr⟩
theorem apart_calls {W : World} {vs : List Value} {a b : Img} (ha : imgR a = true) (hb : imgR b = true) (hs : SVRs (snap W) (fun _ => none) [(aAgg tImg).sv a, (aAgg tImg).sv b] vs) :
    Calls Tryz.prog 5 vs.toArray W fun e w' => e = .returned (.bool true) ∧ Below W.heap.size W w' := by
  obtain ⟨⟨pL, pN⟩, ⟨cT, cA, c1, c2, c3⟩, ⟨iF, iA, iB⟩, ⟨tL, tE, tC⟩⟩ := a
  obtain ⟨⟨qL, qN⟩, ⟨dT, dA, d1, d2, d3⟩, ⟨jF, jA, jB⟩, ⟨uL, uE, uC⟩⟩ := b
  refine (apart_ok.2 (base W) (snap W) (fun _ => none) St.nil _ vs (rel0 W) hs (fun r => r.1 = .e (.c (.kb true)) ∨ r.1 = rB true) ?_).mono ?_
  · show Tr.sat _ (Tr.bind (.need _ (.ret _)) _)
    exact ⟨fun _ => .inr rfl, fun h => by
      have : (imgR ((pL, pN), (cT, cA, c1, c2, c3), (iF, iA, iB), (tL, tE, tC)) && imgR ((qL, qN), (dT, dA, d1, d2, d3), (jF, jA, jB), (uL, uE, uC))) = true := by rw [ha, hb]; rfl
      rw [this] at h; cases h⟩
  · rintro e w' ⟨x, τ', v, M', β', hK, rfl, hx, hrel⟩
    refine ⟨?_, below0 hrel⟩
    rcases hK with hK | hK
    · have hK : x = .e (.c (.kb true)) := hK
      subst hK
      have : v = .bool true := hx
      rw [this]
    · have hK : x = rB true := hK
      subst hK
      have hx : DR M' (.v (.bool true)) v := hx
      cases hx with
      | v h => rfl
theorem apart_contract (H : Type) (enc : TypeId × Value → H) (W : World) (b0 : Nat) (args : Array Value) (ds gs : List (DataW H)) (before : List MemPlace)
    (hval : ∀ (j : Nat) t v, Tryz.f5.params[j]? = some t → args[j]? = some v → Value.okWide Tryz.prog W .any b0 t v)
    (hW : DataW.Whole enc Tryz.prog Tryz.f5.params.toList Rows.imageApartSpec.vars false W args.toList ds gs before) :
    Calls Tryz.prog 5 args W fun e W' => ∃ v, e = .returned v ∧ Rows.imageApartSpec.post enc Tryz.prog Tryz.f5 false true false false W args v W' := by
  have hW' := hW
  have hlt := hW.lt
  obtain ⟨p, q, hA0, hV, rfl, hfz, hnd⟩ := hW
  have hA : DataW.TrodAll enc Tryz.prog W 0 (fun _ => true) true Tryz.f5.params.toList args.toList ds p := hA0
  rw [Tryz.params5] at hA hval
  obtain ⟨v0, vs0, d0, ds0, p0, q0, hargs, rfl, rfl, h0, r0⟩ := trodAll_cons hA
  obtain ⟨v1, vs1, d1, ds1, p1, q1, rfl, rfl, rfl, h1, r1⟩ := trodAll_cons r0
  obtain ⟨rfl, rfl, rfl⟩ := trodAll_nil r1
  obtain rfl : args = #[v0, v1] := by cases args; simp_all
  obtain ⟨rfl, rfl⟩ := trodVars_none hV
  obtain ⟨m, hm, hmu⟩ := row_argR (hval 0 39 v0 rfl rfl) h0
  obtain ⟨n, hn, hnu⟩ := row_argR (hval 1 39 v1 rfl rfl) h1
  clear hA0 hA
  simp only [List.append_nil] at hW' hlt
  refine (apart_calls (W := W) (vs := [v0, v1]) (a := m) (b := n) hmu hnu (.cons hm (.cons hn .nil))).mono fun e W' ⟨he, hb⟩ => ?_
  subst he
  exact ⟨_, rfl, post_below (pa := p0 ++ (p1 ++ [])) (pv := []) hW' (fun _ _ _ => trodAll_cons_mk (shut_bool Tryz.underlying4 _) trodAll_mk0)
    (fun sp hsp => trodAll_cons_mk (stays (by kernel_rfl) (of_decide_eq_true (by kernel_rfl)) hb (fun x hx => hlt x (by simp [hx])) h0 (fun x hx => hsp x (by simp [hx]))) (trodAll_cons_mk (stays (by kernel_rfl) (of_decide_eq_true (by kernel_rfl)) hb (fun x hx => hlt x (by simp [hx])) h1 (fun x hx => hsp x (by simp [hx]))) trodAll_mk0)) (fun _ _ => rfl) (by simp)
    hb (ok_one (by kernel_rfl) rfl (okWide_bool_mk Tryz.underlying4 _))⟩
theorem apart_met (os : Os) : laidMet Tryz.prog Rows.imageApartRow.laid ((laidWorld Rows.imageApartRow.laid os).forCall (fun _ _ => 0) ⟨#[], #[row0, row0], []⟩).memory :=
  laidMet_of_run3 8 (by kernel_rfl) (by kernel_rfl) (by kernel_rfl)
def dRow0 {H : Type} : DataW H := .agg [.agg [.nil, .nil], .agg [.nil, .nil, .lit (.int .i64 0), .lit (.int .i64 0), .lit (.int .i64 0)], .agg [.nil, .nil, .nil], .agg [.nil, .lit (.int .i64 0), .lit (.int .u16 0)]]
theorem apart_reads (os : Os) {H : Type} (enc : TypeId × Value → H) : ∃ ds places, DataW.whole enc Tryz.prog ((laidWorld Rows.imageApartRow.laid os).forCall (fun _ _ => 0) ⟨#[], #[row0, row0], []⟩).memory Tryz.f5.params.toList Rows.imageApartSpec.vars false #[row0, row0].toList 8 = some (ds, [], places) :=
  ⟨[dRow0, dRow0], [], by kernel_rfl⟩
theorem apart_lifted (os : Os) (started : os.Started) (H : Type) (enc : TypeId × Value → H) (F : Stop.Interp) :
    ReturnsInHanded {} Tryz.checked os 5 .any ((OpenSpec.ofChange Rows.imageApartSpec).preRow enc Tryz.prog Tryz.f5 Rows.imageApartRow.domain false Rows.imageApartRow.laid) (((OpenSpec.ofChange Rows.imageApartSpec).at F).post enc Tryz.prog Tryz.f5 false true false false) := by
  obtain ⟨ds, places, hx⟩ := apart_reads os enc
  refine returnsInHanded_of_row (C := Tryz.checked) (s := OpenSpec.ofChange Rows.imageApartSpec) own started (by kernel_rfl) Tryz.func5
    (witness_row_at (enc := enc) (C := Tryz.checked) false (laidWorld Rows.imageApartRow.laid os) #[row0, row0] rfl (by kernel_rfl) (by kernel_rfl) (by kernel_rfl)
      (OpenSpec.preRow_of_cond 8 hx (by kernel_rfl) (fun k hk => by cases hk) (by kernel_rfl) (apart_met os))) ?_
  intro W b0 args ds gs before hval hW _ _ _ hL _ _
  exact apart_contract H enc W b0 args ds gs before hval hW
theorem apart_said : Rows.ImageApartSaid :=
  OpenClaim.holds_of_cond 5 Tryz.f5 rfl rfl rfl rfl rfl rfl rfl ⟨rfl, rfl, rfl, rfl, rfl⟩ rfl rfl rfl rfl rfl (by kernel_rfl) Tryz.func5 (by kernel_rfl)
    (of_decide_eq_true (by kernel_rfl)) (by unfold Func.isWrapper; first | (rw [if_pos (by decide +kernel)]; kernel_rfl) | (rw [if_neg (by decide +kernel)]; exact ⟨rfl, rfl⟩))
    (fun os started H enc _ F => by rw [OpenClaim.pre_eq_preRow]; exact apart_lifted os started H enc F)
theorem apart_plain (f : FuncId) (fn : Func) (hf : Tryz.pinned.checked.prog.funcNamed "crossroads/crossroadslaw23.ImageApart" = some f) (hfn : Tryz.pinned.checked.prog.funcs[f]? = some fn) :
    false = Tryz.pinned.checked.prog.looks [] ∧ ∀ (j : Nat) t, fn.params[j]? = some t → Tryz.pinned.checked.prog.wantsStandIn t = false := by
  obtain rfl : f = 5 := Option.some.inj ((show Tryz.prog.funcNamed "crossroads/crossroadslaw23.ImageApart" = some 5 by kernel_rfl).symm.trans hf) |>.symm
  obtain rfl : fn = Tryz.f5 := (Option.some.inj (Tryz.func5.symm.trans hfn)).symm
  refine ⟨by kernel_rfl, fun j t ht => ?_⟩
  rw [Tryz.params5] at ht
  have hm := Array.mem_of_getElem? ht
  have h3 : t = 39 := by simpa using hm
  subst h3
  exact (show Tryz.prog.wantsStandIn 39 = false by kernel_rfl)
theorem imageApart_card : Rows.ImageApartCardSaid :=
  Claim7.holds_tied_plain_at .later [] _ _ _ _ apart_said (fun _ h => by cases h) (by kernel_rfl) (fun _ h => by cases h) imageApart_row_tie rfl ⟨rfl, rfl⟩ (by kernel_rfl) rfl apart_plain (by kernel_rfl)
#print axioms imageApart_card
end Go.Proofs.YtdngaaploooceaaGreatDoor.Sy
