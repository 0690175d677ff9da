/- The joins, first part: what a reading of an argument gives: the data that the calculus speaks of. -/
import Derived.ChangeArms
import Derived.DataElems
import Derived.Test.YtdngaaploooceaaGreatDoorCards
import Derived.Test.YtdngaaploooceaaGreatDoorTie
import Derived.WalkKit
import Derived.ProofKit
import Derived.OpenShut
import Derived.Deep.DeepHandedRow
import Derived.Lib.LaidTab
import Derived.Carry
import Derived.Deep.DeepLaidRun
import Derived.Test.YtdngaaploooceaaGreatDoorQ7
namespace Go.Proofs.YtdngaaploooceaaGreatDoor.Sy
open Go Go.RowKit Kit

/-- the numbers in it lie in their kinds -/
def Rg : (t : Ty) → t.El → Prop
  | .int k, n => (Lit.int k n).wf = true
  | .sl t, l => ∀ x ∈ l, Rg t x
  | .pair a b, x => Rg a x.1 ∧ Rg b x.2
  | _, _ => True
/-- these fields, from this place on, lay data of this kind -/
def layOk (P : Program) : Ty → Nat → List (Nat × TypeId) → Bool
  | .int k, off, [f] => f.1 == off && (match P.underlying f.2 with | some (.int k') => decide (k' = k) | _ => false) && P.cellsOf f.2 == 1
  | .bool, off, [f] => f.1 == off && (match P.underlying f.2 with | some .bool => true | _ => false) && P.cellsOf f.2 == 1
  | .str, off, [f] => f.1 == off && (match P.underlying f.2 with | some .string => true | _ => false) && P.cellsOf f.2 == 1
  | .sl t, off, [f] => f.1 == off && (match P.underlying f.2 with | some (.slice e) => P.cellsOf e == t.sz && layOk P t 0 [(0, e)] | _ => false) && P.cellsOf f.2 == 1
  | .pair a b, off, [f] => f.1 == off && (match P.underlying f.2 with
      | some (.struct fs) => (match fs.toList.map fun g => (g.offset, g.type) with | f0 :: f1 :: r => layOk P a 0 [f0] && layOk P b a.sz (f1 :: r) | _ => false)
      | _ => false) && P.cellsOf f.2 == a.sz + b.sz
  | .pair a b, off, f0 :: f1 :: r => layOk P a off [f0] && layOk P b (off + a.sz) (f1 :: r)
  | _, _, _ => false
def snap (w : World) : Snap := fun b => w.heap[b]?
theorem snap_cell {w : World} {a : Addr} {v : Value} (h : w.cell? a = some v) : (snap w).cell a = some v := by
  unfold World.cell? at h
  unfold Snap.cell snap
  split at h
  · rename_i c e f hm; rw [hm]; exact h
  · cases h
theorem take_one {l : List Value} {o n : Nat} {v : Value} (h : (l.drop o).take n = [v]) : (l.drop o).take 1 = [v] := by
  cases hd : l.drop o with
  | nil => rw [hd] at h; simp at h
  | cons x r =>
    rw [hd] at h
    cases n with
    | zero => simp at h
    | succ n => simp at h; simp [h.1]
theorem pick_all {α : Type} {d : α} {p : Nat → α → Prop} : ∀ (n : Nat), (∀ i, i < n → ∃ x, p i x) → ∃ l : List α, l.length = n ∧ ∀ i, i < n → p i (l.getD i d) := by
  intro n h
  refine ⟨(List.range n).map fun i => if hi : i < n then (h i hi).choose else d, by simp, fun i hi => ?_⟩
  have : ((List.range n).map fun i => if hi : i < n then (h i hi).choose else d).getD i d = (h i hi).choose := by
    rw [List.getD, List.getElem?_map, List.getElem?_range hi]; simp [hi]
  rw [this]; exact (h i hi).choose_spec
section
variable {H : Type} {enc : TypeId × Value → H} {P : Program} {w : World} {base : Nat} {spare : Nat → Bool} {held : Bool}
theorem lay_sz {P : Program} : ∀ (ty : Ty) (off : Nat) (fs : List (Nat × TypeId)), layOk P ty off fs = true → ∀ f, fs = [f] → f.1 = off ∧ P.cellsOf f.2 = ty.sz := by
  intro ty off fs h f e
  subst e
  cases ty <;> simp only [layOk, Bool.and_eq_true, beq_iff_eq] at h <;> exact ⟨h.1.1, h.2⟩
theorem open_lay : ∀ (ty : Ty) (off : Nat) (fs : List (Nat × TypeId)) (cs : List Value), layOk P ty off fs = true →
    (∀ f ∈ fs, ∃ n y, DataW.trod enc P w base spare held n f.2 ((cs.drop f.1).take (P.cellsOf f.2)) = some y) →
    ∃ x : ty.El, Cells (snap w) (split ty x) ((cs.drop off).take ty.sz) ∧ Rg ty x := by
  intro ty
  induction ty with
  | int k =>
    intro off fs cs h ht
    match fs, h with
    | [f], h =>
      simp only [layOk, Bool.and_eq_true, beq_iff_eq] at h
      obtain ⟨⟨h1, h2⟩, h3⟩ := h
      obtain ⟨n, y, hy⟩ := ht f (by simp)
      split at h2
      · rename_i k' hk
        have h2 := of_decide_eq_true h2
        subst h2
        obtain ⟨z, hz, -, hw⟩ := DataW.trod_int hk hy
        rw [h1] at hz
        refine ⟨z, ?_, hw⟩
        show Cells _ [D.v (.int _ z)] ((cs.drop off).take 1)
        rw [take_one hz]
        exact .cons (.v rfl) .nil
      · cases h2
  | bool =>
    intro off fs cs h ht
    match fs, h with
    | [f], h =>
      simp only [layOk, Bool.and_eq_true, beq_iff_eq] at h
      obtain ⟨⟨h1, h2⟩, h3⟩ := h
      obtain ⟨n, y, hy⟩ := ht f (by simp)
      split at h2
      · rename_i hk
        obtain ⟨z, hz, -⟩ := DataW.trod_bool hk hy
        rw [h1] at hz
        refine ⟨z, ?_, trivial⟩
        show Cells _ [D.v (.bool z)] ((cs.drop off).take 1)
        rw [take_one hz]
        exact .cons (.v rfl) .nil
      · cases h2
  | str =>
    intro off fs cs h ht
    match fs, h with
    | [f], h =>
      simp only [layOk, Bool.and_eq_true, beq_iff_eq] at h
      obtain ⟨⟨h1, h2⟩, h3⟩ := h
      obtain ⟨n, y, hy⟩ := ht f (by simp)
      split at h2
      · rename_i hk
        obtain ⟨z, hz, -, hw⟩ := DataW.trod_string hk hy
        rw [h1] at hz
        refine ⟨z, ?_, trivial⟩
        show Cells _ [D.v (.string z)] ((cs.drop off).take 1)
        rw [take_one hz]
        exact .cons (.v rfl) .nil
      · cases h2
  | sl t ih =>
    intro off fs cs h ht
    match fs, h with
    | [f], h =>
      simp only [layOk, Bool.and_eq_true, beq_iff_eq] at h
      obtain ⟨⟨h1, h2⟩, h3⟩ := h
      obtain ⟨n, y, hy⟩ := ht f (by simp)
      split at h2
      · rename_i e hk
        simp only [Bool.and_eq_true, beq_iff_eq] at h2
        obtain ⟨hsz, hl⟩ := h2
        rcases DataW.trod_slice hk hy with ⟨h0, -⟩ | ⟨a, len, cap, elems, rest, m, -, hz, -, hb, hlc, hcm, hlen, hel, -, -⟩
        · rw [h1] at h0
          refine ⟨[], ?_, fun x hx => by cases hx⟩
          show Cells _ [D.sl t []] ((cs.drop off).take 1)
          rw [take_one h0]
          exact .cons (DR.sl (t := t) (l := []) (A := none) (c := 0) (fun _ _ => undef) (Nat.le_refl _) (Nat.zero_le _) (fun h => absurd rfl h) (fun k j e x h => by simp [rows] at h)) .nil
        · rw [h1] at hz
          have each : ∀ i, i < len → ∃ x : t.El, Rg t x ∧ ∃ us : List Value, (∀ j, j < t.sz → w.cell? (a.add (i * t.sz + j)) = us[j]?) ∧ Cells (snap w) (split t x) us := by
            intro i hi
            have he := hel i hi
            have hi' : i < elems.length := by omega
            rw [List.getElem?_eq_getElem hi'] at he
            obtain ⟨us, hus, hy⟩ := Option.bind_eq_some_iff.1 he
            obtain ⟨-, hul, huc⟩ := World.cells?_some hus
            obtain ⟨x, hx, hr⟩ := ih 0 [(0, e)] us hl (fun f hf => by
              have hf' : f = (0, e) := by simpa using hf
              subst hf'
              exact ⟨m, _, by show DataW.trod enc P w base spare held m e (List.take (P.cellsOf e) (List.drop 0 us)) = _; rw [List.drop_zero, List.take_of_length_le (by omega)]; exact hy⟩)
            rw [List.drop_zero, List.take_of_length_le (by omega)] at hx
            refine ⟨x, hr, us, fun j hj => ?_, hx⟩
            rw [← huc j (by omega), Addr.add_add, hsz]
          obtain ⟨l, hll, hlp⟩ := pick_all (d := t.dflt) len each
          subst hll
          refine ⟨l, ?_, fun x hx => ?_⟩
          · show Cells _ [D.sl t l] ((cs.drop off).take 1)
            rw [take_one hz]
            have cell : ∀ i j, i < l.length → j < t.sz → ∃ v d, (snap w).cell (a.add (i * t.sz + j)) = some v ∧ (split t (l.getD i t.dflt))[j]? = some d ∧ DR (snap w) d v := by
              intro i j hi hj
              obtain ⟨-, us, hu, hc⟩ := hlp i hi
              have hjl : j < (split t (l.getD i t.dflt)).length := by rw [split_len]; exact hj
              obtain ⟨v, hv, hd⟩ := hc.at_ (List.getElem?_eq_getElem hjl)
              exact ⟨v, _, snap_cell (by rw [hu j hj]; exact hv), List.getElem?_eq_getElem hjl, hd⟩
            refine .cons (DR.sl (t := t) (l := l) (A := some a) (c := cap) (fun k j => ((snap w).cell (a.add (k * t.sz + j))).getD undef) hlc hcm (fun _ => ⟨a, rfl, fun k j hk hj => ?_⟩) (fun k j es d hes hd => ?_)) .nil
            · obtain ⟨v, -, h1, -⟩ := cell k j hk hj
              rw [h1]; rfl
            · have hk : k < l.length := by
                have := (List.getElem?_eq_some_iff.1 hes).1
                rwa [rows_len] at this
              rw [rows_at t hk] at hes
              cases hes
              have hj : j < t.sz := by
                have := (List.getElem?_eq_some_iff.1 hd).1
                rwa [split_len] at this
              obtain ⟨v, d', h1, h2, h3⟩ := cell k j hk hj
              rw [h2] at hd
              cases hd
              rw [h1]
              exact h3
          · obtain ⟨i, hi, rfl⟩ := List.getElem_of_mem hx
            have := (hlp i hi).1
            simpa [List.getD, List.getElem?_eq_getElem hi] using this
      · cases h2
  | pair a b iha ihb =>
    intro off fs cs h ht
    have key : ∀ (o : Nat) (c : List Value) (f0 f1 : Nat × TypeId) (r : List (Nat × TypeId)), layOk P a o [f0] = true → layOk P b (o + a.sz) (f1 :: r) = true →
        (∀ f ∈ f0 :: f1 :: r, ∃ n y, DataW.trod enc P w base spare held n f.2 ((c.drop f.1).take (P.cellsOf f.2)) = some y) → ∃ x : a.El × b.El, Cells (snap w) (split a x.1 ++ split b x.2) ((c.drop o).take (a.sz + b.sz)) ∧ (Rg a x.1 ∧ Rg b x.2) := by
      intro o c f0 f1 r k1 k2 kt
      obtain ⟨x1, hx1, hr1⟩ := iha o [f0] c k1 (fun f hf => by
        have hf' : f = f0 := by simpa using hf
        subst hf'
        exact kt f (by simp))
      obtain ⟨x2, hx2, hr2⟩ := ihb (o + a.sz) (f1 :: r) c k2 (fun f hf => kt f (List.mem_cons_of_mem _ hf))
      refine ⟨(x1, x2), ?_, hr1, hr2⟩
      rw [List.take_add, List.drop_drop]
      exact hx1.append hx2
    match fs, h with
    | [f], h =>
      simp only [layOk, Bool.and_eq_true, beq_iff_eq] at h
      obtain ⟨⟨h1, h2⟩, h3⟩ := h
      obtain ⟨n, y, hy⟩ := ht f (by simp)
      split at h2
      · rename_i gs hk
        obtain ⟨xs, m, -, -, hlen, hxl, hf⟩ := DataW.trod_struct hk hy
        split at h2
        · rename_i f0 f1 r hfs
          rw [Bool.and_eq_true] at h2
          rw [h1, h3] at hf
          obtain ⟨x, hx, hr⟩ := key 0 ((cs.drop off).take (a.sz + b.sz)) f0 f1 r h2.1 (by rw [Nat.zero_add]; exact h2.2) (fun f' hf' => by
            rw [← hfs] at hf'
            obtain ⟨g, hg, rfl⟩ := List.mem_map.1 hf'
            obtain ⟨i, hi, hgi⟩ := List.getElem_of_mem hg
            have hi' : i < gs.size := by simpa using hi
            have e1 : gs[i]? = some g := by rw [Array.getElem?_eq_getElem hi']; simpa using hgi
            have := hf i g e1
            exact ⟨m, xs[i]'(by omega), by rw [this, List.getElem?_eq_getElem (by omega)]⟩)
          rw [List.drop_zero, List.take_take, Nat.min_self] at hx
          exact ⟨x, hx, hr⟩
        · cases h2
      · cases h2
    | f0 :: f1 :: r, h =>
      simp only [layOk, Bool.and_eq_true] at h
      exact key off cs f0 f1 r h.1 h.2 ht
end
end Go.Proofs.YtdngaaploooceaaGreatDoor.Sy

/- The joins, second part: what a law's proof asks behind the call. -/
set_option maxRecDepth 100000
namespace Go.Proofs.YtdngaaploooceaaGreatDoor.Sy
open Go Go.RowKit Kit Go.ChangeShapes Go.WideShapes Go.ChangeAt
section
variable {H : Type} {enc : TypeId × Value → H} {P : Program}
/-- of what was there nothing has turned: the row's answer -/
theorem post_below {f : Func} {s : ChangeSpec} {apart fresh handsOn again : Bool} {W W' : World} {args : Array Value} {v : Value} {ds gs : List (DataW H)} {before pa pv : List MemPlace}
    (hW : DataW.Whole enc P f.params.toList s.vars apart W args.toList ds gs before)
    (hres : ∀ (b : Nat) (sp : Nat → Bool) (hd : Bool), DataW.TrodAll enc P W' b sp hd f.resultTypes.toList (v.resultList f.resultTypes.size) (s.fn H (ds ++ gs)).results [])
    (hargs : ∀ sp : Nat → Bool, (∀ p ∈ before, sp p.block = true) → DataW.TrodAll enc P W' 0 sp true f.params.toList args.toList (s.fn H (ds ++ gs)).args pa)
    (hvars : ∀ sp : Nat → Bool, (∀ p ∈ before, sp p.block = true) → DataW.TrodVars enc P W' sp s.vars (s.fn H (ds ++ gs)).vars pv)
    (hps : before = pa ++ pv) (hb : Below W.heap.size W W')
    (hok : ∀ (j : Nat) (t : TypeId) (r : Value), f.resultTypes[j]? = some t → (v.resultList f.resultTypes.size)[j]? = some r → Value.okWide P W' .any 0 t r) :
    s.post enc P f apart fresh handsOn again W args v W' := by
  have hlt := hW.lt
  have hold : ∀ p ∈ before, (fun b => decide (b < W.heap.size)) p.block = true := fun p hp => by simpa using hlt p hp
  refine ⟨ds, gs, before, [], pa, pv, hW, hres _ _ _, hargs _ hold, hvars _ hold, World.keptBut_mono (fun p hp => ⟨hp, ?_⟩) (hb.frame (· ∈ before)), fun _ => ?_⟩
  · rw [hps, List.mem_append] at hp
    exact Or.inr hp
  · obtain ⟨_, _, _, _, _, hz, hn⟩ := hW
    refine ⟨hok, _, _, ([] ++ pa) ++ pv, ⟨[] ++ pa, pv, trodAll_append (hargs _ (fun _ _ => rfl)) (hres _ _ _), hvars _ (fun _ _ => rfl), rfl, ?_, ?_⟩, ?_⟩
    · intro b off hp
      have hp' : MemPlace.cell b off ∈ before := by rw [hps]; simpa using hp
      rw [hb.frozen (hlt _ hp')]
      exact hz b off hp'
    · intro ha
      have := hn ha
      rw [hps] at this
      simpa using this
    · intro p hp _
      rw [hps]
      simpa using hp
end
def base (W : World) : Base := { W with L := fun _ => False, gh := fun _ => none }
theorem rel0 (W : World) : Rel (base W) (snap W) (snap W) (fun _ => none) St.nil #[] W where
  below := ⟨rfl, rfl, rfl, Nat.le_refl _, fun _ _ _ => rfl⟩
  snap := fun _ _ h => h
  mono := fun _ _ h => h
  newM := fun _ _ h => .inl h
  apart := fun _ _ _ h => by cases h
  inj := fun _ _ _ _ _ h => by cases h
  size := Nat.zero_le _
  small := Nat.zero_le _
  env := fun _ _ h => by cases h
  objs := fun _ _ h => by cases h
theorem below0 {W w : World} {M M' : Snap} {β : Plc} {σ : St} {tm : Array Value} (h : Rel (base W) M M' β σ tm w) : Below W.heap.size W w :=
  ⟨h.below.os, h.below.tape, h.below.output, h.below.size, fun k hk => h.below.block k hk (fun h => h)⟩
end Go.Proofs.YtdngaaploooceaaGreatDoor.Sy

/- The joins: ImageReads. -/
set_option maxRecDepth 100000
namespace Go.Proofs.YtdngaaploooceaaGreatDoor.Sy
open Go Go.RowKit Kit Go.ChangeShapes Go.WideShapes Go.ChangeAt
theorem rg_u8s {l : List Int} (h : Rg tB l) : u8s l = true := List.all_eq_true.2 fun x hx => by
  have := h x hx
  simp only [Rg, Lit.wf, Bool.and_eq_true, decide_eq_true_eq] at this
  exact u8_iff.2 this
theorem rg_img {m : Img} (h : Rg tImg m) : imgU m = true := by
  obtain ⟨-, -, ⟨h1, h2, -⟩, -⟩ := h
  simp only [imgU, Bool.and_eq_true]
  exact ⟨List.all_eq_true.2 fun b hb => rg_u8s (h1 b hb), List.all_eq_true.2 fun b hb => rg_u8s (h2 b hb)⟩
/-- an argument that is a row -/
theorem row_arg {H : Type} {enc : TypeId × Value → H} {W : World} {b0 : Nat} {v : Value} {d : DataW H} {ps : List MemPlace} (hv : Value.okWide Tryz.prog W .any b0 39 v) (h : DataW.Trod enc Tryz.prog W 0 (fun _ => true) true 39 v d ps) :
    ∃ (m : Img), SVR (snap W) (fun _ => none) ((aAgg tImg).sv m) v ∧ imgU m = true := by
  obtain ⟨fuel, hf⟩ := h
  have hc : ∃ cs : Array Value, v = .agg cs ∧ cs.size = 13 := by
    unfold Value.okWide at hv
    rw [Tryz.underlying39] at hv
    obtain ⟨cs, e, hs, -⟩ := hv
    exact ⟨cs, e, hs.trans (by kernel_rfl)⟩
  obtain ⟨cs, rfl, hs⟩ := hc
  obtain ⟨m, hm, hr⟩ := open_lay (enc := enc) (P := Tryz.prog) (w := W) (base := 0) (spare := fun _ => true) (held := true) tImg 0 [(0, 39)] cs.toList (by kernel_rfl) (fun f hf' => by
    have e : f = (0, 39) := by simpa using hf'
    subst e
    refine ⟨fuel, (d, ps), ?_⟩
    rw [show (Tryz.prog.cellsOf (0, 39).2) = 13 from by kernel_rfl, List.drop_zero, List.take_of_length_le (by simp; omega)]
    exact hf)
  rw [List.drop_zero, List.take_of_length_le (by show cs.toList.length ≤ 13; simp; omega)] at hm
  exact ⟨m, ⟨cs, rfl, .ofCells hm⟩, rg_img hr⟩
theorem laidOut : laidOutB Tryz.prog = true := by kernel_rfl
theorem stays {H : Type} {enc : TypeId × Value → H} {t : TypeId} (hr : Tryz.prog.readableRec t = true) (hrow : t < Tryz.prog.types.size) {W W' : World} {v : Value} {d : DataW H} {ps : List MemPlace} (hb : Below W.heap.size W W') (hlt : ∀ p ∈ ps, p.block < W.heap.size)
    (h : DataW.Trod enc Tryz.prog W 0 (fun _ => true) true t v d ps) {sp : Nat → Bool} (hs : ∀ p ∈ ps, sp p.block = true) : DataW.Trod enc Tryz.prog W' 0 sp true t v d ps :=
  WideElems.Trod_stays laidOut hr hrow h (fun p hp => hb.same (hlt p hp)) hs
theorem reads_calls {W : World} {vs : List Value} {m : Img} {u k : Int} (hm : imgU m = true) (hu : 0 ≤ u ∧ u ≤ 65535) (hs : SVRs (snap W) (fun _ => none) [(aAgg tImg).sv m, (aVal (.int .u16)).sv u, (aVal (.int .u8)).sv k] vs) :
    Calls Tryz.prog 4 vs.toArray W fun e w' => e = .returned (.bool true) ∧ Below W.heap.size W w' := by
  obtain ⟨⟨pL, pN⟩, ⟨cT, cA, c1, c2, c3⟩, ⟨iF, iA, iB⟩, ⟨tL, tE, tC⟩⟩ := m
  refine (reads_ok.2 (base W) (snap W) (fun _ => none) St.nil _ vs (rel0 W) hs (fun r => r.1 = .e (.c (.kb true)) ∨ r.1 = rB true) ?_).mono ?_
  · show Tr.sat _ (Tr.bind (.need _ (.ret _)) _)
    exact ⟨fun _ => .inr rfl, fun h => by rw [decide_eq_true ⟨hm, hu.1, hu.2⟩] at h; cases h⟩
  · rintro e w' ⟨x, τ', v, M', β', hK, rfl, hx, hrel⟩
    refine ⟨?_, below0 hrel⟩
    rcases hK with hK | hK
    · have hK : x = .e (.c (.kb true)) := hK
      subst hK
      have : v = .bool true := hx
      rw [this]
    · have hK : x = rB true := hK
      subst hK
      have hx : DR M' (.v (.bool true)) v := hx
      cases hx with
      | v h => rfl
end Go.Proofs.YtdngaaploooceaaGreatDoor.Sy

/- The claim: ImageTurns: of every row the law returns true. -/
set_option maxRecDepth 100000
namespace Go.Proofs.YtdngaaploooceaaGreatDoor.Sy
open Go Go.RowKit Kit Go.ChangeShapes Go.WideShapes Go.ChangeAt
theorem own : ownKnob Tryz.prog.godebug = none := by kernel_rfl
theorem rg_u16 {n : Int} (h : Rg (.int .u16) n) : 0 ≤ n ∧ n ≤ 65535 := by
  simp only [Rg, Lit.wf, Bool.and_eq_true, decide_eq_true_eq] at h
  exact h
theorem rg_imgR {m : Img} (h : Rg tImg m) : imgR m = true := by
  have h0 := rg_img h
  obtain ⟨-, -, -, h1, -, h2⟩ := h
  unfold imgR trcR
  rw [h0, Bool.true_and, Bool.and_eq_true, decide_eq_true_iff]
  exact ⟨List.all_eq_true.2 fun e he => decide_eq_true (rg_u16 (h1 e he).2), rg_u16 h2⟩
/-- an argument that is a row -/
theorem row_argR {H : Type} {enc : TypeId × Value → H} {W : World} {b0 : Nat} {v : Value} {d : DataW H} {ps : List MemPlace} (hv : Value.okWide Tryz.prog W .any b0 39 v) (h : DataW.Trod enc Tryz.prog W 0 (fun _ => true) true 39 v d ps) :
    ∃ (m : Img), SVR (snap W) (fun _ => none) ((aAgg tImg).sv m) v ∧ imgR m = true := by
  obtain ⟨fuel, hf⟩ := h
  have hc : ∃ cs : Array Value, v = .agg cs ∧ cs.size = 13 := by
    unfold Value.okWide at hv
    rw [Tryz.underlying39] at hv
    obtain ⟨cs, e, hs, -⟩ := hv
    exact ⟨cs, e, hs.trans (by kernel_rfl)⟩
  obtain ⟨cs, rfl, hs⟩ := hc
  obtain ⟨m, hm, hr⟩ := open_lay (enc := enc) (P := Tryz.prog) (w := W) (base := 0) (spare := fun _ => true) (held := true) tImg 0 [(0, 39)] cs.toList (by kernel_rfl) (fun f hf' => by
    have e : f = (0, 39) := by simpa using hf'
    subst e
    refine ⟨fuel, (d, ps), ?_⟩
    rw [show (Tryz.prog.cellsOf (0, 39).2) = 13 from by kernel_rfl, List.drop_zero, List.take_of_length_le (by simp; omega)]
    exact hf)
  rw [List.drop_zero, List.take_of_length_le (by show cs.toList.length ≤ 13; simp; omega)] at hm
  exact ⟨m, ⟨cs, rfl, .ofCells hm⟩, rg_imgR hr⟩
theorem turns_calls {W : World} {vs : List Value} {a : Img} (ha : imgR a = true) (hs : SVRs (snap W) (fun _ => none) [(aAgg tImg).sv a] vs) :
    Calls Tryz.prog 3 vs.toArray W fun e w' => e = .returned (.bool true) ∧ Below W.heap.size W w' := by
  obtain ⟨⟨pL, pN⟩, ⟨cT, cA, c1, c2, c3⟩, ⟨iF, iA, iB⟩, ⟨tL, tE, tC⟩⟩ := a
  refine (turns_ok.2 (base W) (snap W) (fun _ => none) St.nil _ vs (rel0 W) hs (fun r => r.1 = .e (.c (.kb true)) ∨ r.1 = rB true) ?_).mono ?_
  · show Tr.sat _ (Tr.bind (.need _ (.ret _)) _)
    exact ⟨fun _ => .inr rfl, fun h => by
      have : imgR ((pL, pN), (cT, cA, c1, c2, c3), (iF, iA, iB), (tL, tE, tC)) = true := ha
      rw [this] at h; cases h⟩
  · rintro e w' ⟨x, τ', v, M', β', hK, rfl, hx, hrel⟩
    refine ⟨?_, below0 hrel⟩
    rcases hK with hK | hK
    · have hK : x = .e (.c (.kb true)) := hK
      subst hK
      have : v = .bool true := hx
      rw [this]
    · have hK : x = rB true := hK
      subst hK
      have hx : DR M' (.v (.bool true)) v := hx
      cases hx with
      | v h => rfl
theorem turns_contract (H : Type) (enc : TypeId × Value → H) (W : World) (b0 : Nat) (args : Array Value) (ds gs : List (DataW H)) (before : List MemPlace)
    (hval : ∀ (j : Nat) t v, Tryz.f3.params[j]? = some t → args[j]? = some v → Value.okWide Tryz.prog W .any b0 t v)
    (hW : DataW.Whole enc Tryz.prog Tryz.f3.params.toList Rows.imageTurnsSpec.vars false W args.toList ds gs before) :
    Calls Tryz.prog 3 args W fun e W' => ∃ v, e = .returned v ∧ Rows.imageTurnsSpec.post enc Tryz.prog Tryz.f3 false true false false W args v W' := by
  have hW' := hW
  have hlt := hW.lt
  obtain ⟨p, q, hA0, hV, rfl, hfz, hnd⟩ := hW
  have hA : DataW.TrodAll enc Tryz.prog W 0 (fun _ => true) true Tryz.f3.params.toList args.toList ds p := hA0
  rw [Tryz.params3] at hA hval
  obtain ⟨v0, vs0, d0, ds0, p0, q0, hargs, rfl, rfl, h0, r0⟩ := trodAll_cons hA
  obtain ⟨rfl, rfl, rfl⟩ := trodAll_nil r0
  obtain rfl : args = #[v0] := by cases args; simp_all
  obtain ⟨rfl, rfl⟩ := trodVars_none hV
  obtain ⟨m, hm, hmu⟩ := row_argR (hval 0 39 v0 rfl rfl) h0
  clear hA0 hA
  simp only [List.append_nil] at hW' hlt
  refine (turns_calls (W := W) (vs := [v0]) (a := m) hmu (.cons hm .nil)).mono fun e W' ⟨he, hb⟩ => ?_
  subst he
  exact ⟨_, rfl, post_below (pa := p0 ++ []) (pv := []) hW' (fun _ _ _ => trodAll_cons_mk (shut_bool Tryz.underlying4 _) trodAll_mk0)
    (fun sp hsp => trodAll_cons_mk (stays (by kernel_rfl) (of_decide_eq_true (by kernel_rfl)) hb (fun x hx => hlt x (by simpa using hx)) h0 (fun x hx => hsp x (by simpa using hx))) trodAll_mk0) (fun _ _ => rfl) (by simp)
    hb (ok_one (by kernel_rfl) rfl (okWide_bool_mk Tryz.underlying4 _))⟩
/-! ### the witness: every listed table lies as the program's text lays it -/
def flatD : DataW Unit → List Value
  | .lit (.int k n) => [.int k n]
  | .agg l => flatDs l
  | _ => []
where flatDs : List (DataW Unit) → List Value
  | [] => []
  | d :: r => flatD d ++ flatDs r
def layOne (vs : List Value) : Obj → Obj
  | .cells _ t fr => .cells vs.toArray t fr
  | o => o
def layTab (P : Program) (h : Array Obj) (x : String × DataW Unit) : Array Obj :=
  match P.globalNamed x.1 with
  | some g => h.modify g (layOne (flatD x.2))
  | none => h
noncomputable def laidWorld (l : List (String × DataW Unit)) (os : Os) : World :=
  { World.holding Tryz.prog os ⟨#[], #[], []⟩ with heap := l.foldl (layTab Tryz.prog) (World.holding Tryz.prog os ⟨#[], #[], []⟩).heap }
def row0 : Value := .agg #[.slice none 0 0, .slice none 0 0, .slice none 0 0, .slice none 0 0, .int .i64 0, .int .i64 0, .int .i64 0, .slice none 0 0, .slice none 0 0, .slice none 0 0, .slice none 0 0, .int .i64 0, .int .u16 0]
theorem turns_met (os : Os) : laidMet Tryz.prog Rows.imageTurnsRow.laid ((laidWorld Rows.imageTurnsRow.laid os).forCall (fun _ _ => 0) ⟨#[], #[row0], []⟩).memory :=
  laidMet_of_run3 8 (by kernel_rfl) (by kernel_rfl) (by kernel_rfl)
def dRow0 {H : Type} : DataW H := .agg [.agg [.nil, .nil], .agg [.nil, .nil, .lit (.int .i64 0), .lit (.int .i64 0), .lit (.int .i64 0)], .agg [.nil, .nil, .nil], .agg [.nil, .lit (.int .i64 0), .lit (.int .u16 0)]]
theorem turns_reads (os : Os) {H : Type} (enc : TypeId × Value → H) : ∃ ds places, DataW.whole enc Tryz.prog ((laidWorld Rows.imageTurnsRow.laid os).forCall (fun _ _ => 0) ⟨#[], #[row0], []⟩).memory Tryz.f3.params.toList Rows.imageTurnsSpec.vars false #[row0].toList 8 = some (ds, [], places) :=
  ⟨[dRow0], [], by kernel_rfl⟩
theorem turns_lifted (os : Os) (started : os.Started) (H : Type) (enc : TypeId × Value → H) (F : Stop.Interp) :
    ReturnsInHanded {} Tryz.checked os 3 .any ((OpenSpec.ofChange Rows.imageTurnsSpec).preRow enc Tryz.prog Tryz.f3 Rows.imageTurnsRow.domain false Rows.imageTurnsRow.laid) (((OpenSpec.ofChange Rows.imageTurnsSpec).at F).post enc Tryz.prog Tryz.f3 false true false false) := by
  obtain ⟨ds, places, hx⟩ := turns_reads os enc
  refine returnsInHanded_of_row (C := Tryz.checked) (s := OpenSpec.ofChange Rows.imageTurnsSpec) own started (by kernel_rfl) Tryz.func3
    (witness_row_at (enc := enc) (C := Tryz.checked) false (laidWorld Rows.imageTurnsRow.laid os) #[row0] rfl (by kernel_rfl) (by kernel_rfl) (by kernel_rfl)
      (OpenSpec.preRow_of_cond 8 hx (by kernel_rfl) (fun k hk => by cases hk) (by kernel_rfl) (turns_met os))) ?_
  intro W b0 args ds gs before hval hW _ _ _ hL _ _
  exact turns_contract H enc W b0 args ds gs before hval hW
theorem turns_said : Rows.ImageTurnsSaid :=
  OpenClaim.holds_of_cond 3 Tryz.f3 rfl rfl rfl rfl rfl rfl rfl ⟨rfl, rfl, rfl, rfl, rfl⟩ rfl rfl rfl rfl rfl (by kernel_rfl) Tryz.func3 (by kernel_rfl)
    (of_decide_eq_true (by kernel_rfl)) (by unfold Func.isWrapper; first | (rw [if_pos (by decide +kernel)]; kernel_rfl) | (rw [if_neg (by decide +kernel)]; exact ⟨rfl, rfl⟩))
    (fun os started H enc _ F => by rw [OpenClaim.pre_eq_preRow]; exact turns_lifted os started H enc F)
theorem turns_plain (f : FuncId) (fn : Func) (hf : Tryz.pinned.checked.prog.funcNamed "crossroads/crossroadslaw23.ImageTurns" = some f) (hfn : Tryz.pinned.checked.prog.funcs[f]? = some fn) :
    false = Tryz.pinned.checked.prog.looks [] ∧ ∀ (j : Nat) t, fn.params[j]? = some t → Tryz.pinned.checked.prog.wantsStandIn t = false := by
  obtain rfl : f = 3 := Option.some.inj ((show Tryz.prog.funcNamed "crossroads/crossroadslaw23.ImageTurns" = some 3 by kernel_rfl).symm.trans hf) |>.symm
  obtain rfl : fn = Tryz.f3 := (Option.some.inj (Tryz.func3.symm.trans hfn)).symm
  refine ⟨by kernel_rfl, fun j t ht => ?_⟩
  rw [Tryz.params3] at ht
  have hm := Array.mem_of_getElem? ht
  have h3 : t = 39 := by simpa using hm
  subst h3
  exact (show Tryz.prog.wantsStandIn 39 = false by kernel_rfl)
theorem imageTurns_card : Rows.ImageTurnsCardSaid :=
  Claim7.holds_tied_plain_at .later [] _ _ _ _ turns_said (fun _ h => by cases h) (by kernel_rfl) (fun _ h => by cases h) imageTurns_row_tie rfl ⟨rfl, rfl⟩ (by kernel_rfl) rfl turns_plain (by kernel_rfl)
#print axioms imageTurns_card
end Go.Proofs.YtdngaaploooceaaGreatDoor.Sy
