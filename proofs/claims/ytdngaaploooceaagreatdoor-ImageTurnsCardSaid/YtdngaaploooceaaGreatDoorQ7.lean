/- Contracts: the document's classes, and whether they have an input. -/
import Derived.Test.YtdngaaploooceaaGreatDoorQ6
set_option maxRecDepth 100000
namespace Go.Proofs.YtdngaaploooceaaGreatDoor.Sy
open Go.RowKit Kit Go.Proofs
noncomputable def fn10 := mkFn Tryz.f10
noncomputable def C10 : Cx := ⟨T, FL, [(26, rnewCtr), (27, nfCtr), (28, capsCtr)], [], [GK]⟩
theorem C10_ok : CxOk Tryz.prog C10 := ⟨T_ok, FL_ok, .cons rnew_ok (.cons nfiles_ok (.cons rcaps_ok (.nil _))), .nil _⟩
def dirCap (x : Ent) : Bool := x.2.1 && x.2.2 != 0
def q10a : Frm := ⟨101, [(1, .ptr tCls), (5, .dat tI)], []⟩
def R10a : q10a.V → Tr (Ex × St) := fun (((c : Cls), (k : Int), _), _) =>
  .need (decide (0 ≤ k ∧ k ≤ c.1.length ∧ c.1.length ≤ 1000000)) (.ite ((c.1.drop k.toNat).any dirCap) (.ret (.rt, ⟨101, [(2, .e (.c (.kb false)))], []⟩)) (.ret (.ex 0, ⟨101, [(1, .e (.c (.dp (split tCls c))))], []⟩)))
def q10b : Frm := ⟨101, [(6, .dat (.sl tI)), (7, .dat tI)], []⟩
def R10b : q10b.V → Tr (Ex × St) := fun (((l : List Int), (k : Int), _), _) =>
  .need (decide (0 ≤ k ∧ k ≤ l.length ∧ l.length ≤ 10000000)) (.ite ((l.drop k.toNat).all capOk) (.ret (.ex 2, ⟨101, [], []⟩)) (.ret (.rt, ⟨101, [(2, .e (.c (.kb false)))], []⟩)))
noncomputable def lp10 : LP := [(0, sumP q10a R10a), (2, sumP q10b R10b)]
set_option maxHeartbeats 2000000 in
theorem lp10_ok : LpsOk 0 C10 [] lp10 fn10.loops := by
  refine .all (by kernel_rfl) ?_
  simp only [lp10, List.forall_mem_cons, List.not_mem_nil, false_imp_iff, implies_true, and_true]
  constructor
  · refine .pat q10a R10a (fun v => (v.1.1.1.length - v.1.2.1).toNat) ?_
    rintro ⟨⟨⟨(t : List Ent), (ar : List Int), (c1 : Int), (c2 : Int), (c3 : Int)⟩, (k : Int), ⟨⟩⟩, ⟨⟩⟩ ih
    refine Gives.run (t' := .ite (decide (k < (((List.length t) : Nat) : Int))) (.need (inR k (List.length t)) (.ite (((List.getD t (Int.toNat k) (ByteArray.empty, (false, (0 : Int))))).2).1 (.need (inR k (List.length t)) (.ite ((((List.getD t (Int.toNat k) (ByteArray.empty, (false, (0 : Int))))).2).2 != (0 : Int)) (.ret (.rt, ⟨101, [(2, .e (.c (.kb false)))], []⟩)) (.need (decide (((-(9223372036854775808 : Int) : Int) ≤ (k + (1 : Int) : Int)) ∧ ((k + (1 : Int) : Int) ≤ (9223372036854775807 : Int)))) (.ret (.nx, ⟨101, [(1, .e (.c (.dp [.sl tEnt t, .sl tI ar, .v (.int .i64 c1), .v (.int .i64 c2), .v (.int .i64 c3)]))), (5, rI (k + (1 : Int) : Int))], []⟩))))) (.need (decide (((-(9223372036854775808 : Int) : Int) ≤ (k + (1 : Int) : Int)) ∧ ((k + (1 : Int) : Int) ≤ (9223372036854775807 : Int)))) (.ret (.nx, ⟨101, [(1, .e (.c (.dp [.sl tEnt t, .sl tI ar, .v (.int .i64 c1), .v (.int .i64 c2), .v (.int .i64 c3)]))), (5, rI (k + (1 : Int) : Int))], []⟩))))) (.ret (.ex 0, ⟨101, [(1, .e (.c (.dp [.sl tEnt t, .sl tI ar, .v (.int .i64 c1), .v (.int .i64 c2), .v (.int .i64 c3)])))], []⟩))) (by kernel_rfl) ?_
    refine .rnd fun ⟨h1, h2, h3⟩ => ?_
    have h2 : k ≤ t.length := h2
    have h3 : t.length ≤ 1000000 := h3
    show Gives _ (.ite ((t.drop k.toNat).any dirCap) _ _)
    refine .lif (fun hk => ?_) (fun hk => ?_)
    · have e : (k + 1).toNat = k.toNat + 1 := by omega
      rw [drop_at t k.toNat (ByteArray.empty, false, 0) (by omega)]
      have hr : inR k t.length = true := inR_of h1 (by omega)
      refine .lneed hr ?_
      generalize t.getD k.toNat (ByteArray.empty, false, 0) = x
      obtain ⟨p, d, c⟩ := x
      refine .lite (fun hd => ?_) (fun hd => ?_)
      · have hd : d = true := hd
        refine .lneed hr (.lite (fun hc => ?_) (fun hc => ?_))
        · exact .rtt (any_t (by unfold dirCap; rw [hd]; exact hc)) (.refl _)
        · refine .rb (any_f (by unfold dirCap; rw [hd]; exact hc)) (.lnd (by omega) ?_)
          refine Gives.next (σ' := q10a.st (((t, ar, c1, c2, c3), k + 1, ()), ())) (by kernel_rfl) ((ih (((t, ar, c1, c2, c3), k + 1, ()), ()) (by simp only; omega)).trans ?_)
          refine .nd ⟨by omega, by show k + 1 ≤ t.length; omega, h3⟩ ?_
          rw [e]; exact .refl _
      · have hd : d = false := hd
        refine .rb (any_f (by unfold dirCap; rw [hd]; rfl)) (.lnd (by omega) ?_)
        refine Gives.next (σ' := q10a.st (((t, ar, c1, c2, c3), k + 1, ()), ())) (by kernel_rfl) ((ih (((t, ar, c1, c2, c3), k + 1, ()), ()) (by simp only; omega)).trans ?_)
        refine .nd ⟨by omega, by show k + 1 ≤ t.length; omega, h3⟩ ?_
        rw [e]; exact .refl _
    · rw [List.drop_eq_nil_of_le (by omega)]; exact .rff rfl (.refl _)
  · refine .pat q10b R10b (fun v => (v.1.1.length - v.1.2.1).toNat) ?_
    rintro ⟨⟨(l : List Int), (k : Int), ⟨⟩⟩, ⟨⟩⟩ ih
    refine Gives.run (t' := .ite (decide (k < (((List.length l) : Nat) : Int))) (.need (inR k (List.length l)) (.ite (decide ((List.getD l (Int.toNat k) (0 : Int)) < (0 : Int))) (.ret (.rt, ⟨101, [(2, .e (.c (.kb false)))], []⟩)) (.need (inR k (List.length l)) (.ite (decide ((3 : Int) < (List.getD l (Int.toNat k) (0 : Int)))) (.ret (.rt, ⟨101, [(2, .e (.c (.kb false)))], []⟩)) (.need (decide (((-(9223372036854775808 : Int) : Int) ≤ (k + (1 : Int) : Int)) ∧ ((k + (1 : Int) : Int) ≤ (9223372036854775807 : Int)))) (.ret (.nx, ⟨101, [(6, rL tI l), (7, rI (k + (1 : Int) : Int))], []⟩))))))) (.ret (.ex 2, ⟨101, [], []⟩))) (by kernel_rfl) ?_
    refine .rnd fun ⟨h1, h2, h3⟩ => ?_
    have h2 : k ≤ l.length := h2
    have h3 : l.length ≤ 10000000 := h3
    show Gives _ (.ite ((l.drop k.toNat).all capOk) _ _)
    refine .lif (fun hk => ?_) (fun hk => ?_)
    · have e : (k + 1).toNat = k.toNat + 1 := by omega
      rw [drop_at l k.toNat 0 (by omega)]
      have hr : inR k l.length = true := inR_of h1 (by omega)
      refine .lneed hr ?_
      generalize l.getD k.toNat 0 = x
      refine .lif (fun hx => ?_) (fun hx => ?_)
      · exact .rff (all_f (by unfold capOk; rw [decide_eq_false (by omega)]; rfl)) (.refl _)
      refine .lneed hr (.lif (fun hy => ?_) (fun hy => ?_))
      · exact .rff (all_f (by unfold capOk; rw [decide_eq_false (show ¬ x ≤ 3 by omega), Bool.and_false])) (.refl _)
      refine .rb (all_t (by unfold capOk; rw [decide_eq_true (by omega), decide_eq_true (by omega)]; rfl)) (.lnd (by omega) ?_)
      refine Gives.next (σ' := q10b.st ((l, k + 1, ()), ())) (by kernel_rfl) ((ih ((l, k + 1, ()), ()) (by simp only; omega)).trans ?_)
      refine .nd ⟨by omega, by omega, h3⟩ ?_
      rw [e]; exact .refl _
    · rw [List.drop_eq_nil_of_le (by omega)]; exact .rtt rfl (.refl _)
/-- the document's classes -/
def cMayR (c : Cls) : Bool :=
  treeOk c.1 && (decide ((capsF c.1).length ≤ 4) && (decide (c.2.1.length ≤ 2) && (decide (0 ≤ c.2.2.1) && (decide (c.2.2.1 ≤ 6) && (decide (0 ≤ c.2.2.2.1) && (decide (c.2.2.2.1 ≤ c.2.2.1) && (decide (0 ≤ c.2.2.2.2) && (decide (c.2.2.2.2 ≤ 400) && (!c.1.any dirCap && (capsC c).all capOk)))))))))
theorem caps_all (t : List Ent) : (!t.any dirCap && (capsF t).all capOk) = t.all entOk := by
  induction t with
  | nil => rfl
  | cons x r ih =>
    rw [List.any_cons, List.all_cons, ← ih, capsF]
    obtain ⟨p, d, c⟩ := x
    cases d with
    | true =>
      show (!((c != 0) || r.any dirCap) && (capsF r).all capOk) = ((decide (0 ≤ c) && decide (c ≤ 3) && !(c != 0)) && _)
      by_cases hc : c = 0
      · subst hc; simp
      · have : (c != 0) = true := by simpa using hc
        rw [this]; simp
    | false =>
      show (!(false || r.any dirCap) && (capOk c && (capsF r).all capOk)) = ((decide (0 ≤ c) && decide (c ≤ 3) && !false) && _)
      unfold capOk
      cases decide (0 ≤ c) <;> cases decide (c ≤ 3) <;> cases r.any dirCap <;> simp
theorem cMayR_eq (c : Cls) : cMayR c = cMay c := by
  obtain ⟨t, ar, c1, c2, c3⟩ := c
  have hc := capsF_files t
  have ha := caps_all t
  have e : (capsC (t, ar, c1, c2, c3)).all capOk = ((capsF t).all capOk && ar.all capOk) := List.all_append
  unfold cMayR cMay
  rw [e, ← ha, ← hc]
  dsimp only
  cases treeOk t <;> cases decide ((capsF t).length ≤ 4) <;> cases decide (ar.length ≤ 2) <;> cases decide (0 ≤ c1) <;> cases decide (c1 ≤ 6) <;> cases decide (0 ≤ c2) <;> cases decide (c2 ≤ c1) <;> cases decide (0 ≤ c3) <;> cases decide (c3 ≤ 400) <;> cases t.any dirCap <;> cases (capsF t).all capOk <;> cases ar.all capOk <;> rfl
def rcMayCtr : Ctr := ctr (one (aAgg tCls)) fun a => .need (decide (a.1.2.1.length ≤ 1000000)) (ans (rB (cMay a.1)))
set_option maxHeartbeats 2000000 in
theorem rcMay_ok : CtrOk Tryz.prog 10 rcMayCtr := by
  refine .mk C10_ok mixed (q := fn10) (.of Tryz.func10 (by kernel_rfl)) lp10_ok (by decide) ?_
  rintro ⟨⟨(t : List Ent), (ar : List Int), (c1 : Int), (c2 : Int), (c3 : Int)⟩, ⟨⟩⟩ hb
  refine Gives.of_eq (t' := .ite ((treeErr t) != (0 : Int)) (.ret (rB false, ⟨0, [], []⟩)) (.need true (.need (decide (((List.length t) ≤ 1000000) ∧ ((List.length ar) ≤ 1000000))) (.ite (decide ((4 : Int) < (((List.length (capsF t)) : Nat) : Int))) (.ret (rB false, ⟨0, [], []⟩)) (.ite (decide ((2 : Int) < (((List.length ar) : Nat) : Int))) (.ret (rB false, ⟨0, [], []⟩)) (.ite (decide (c1 < (0 : Int))) (.ret (rB false, ⟨0, [], []⟩)) (.ite (decide ((6 : Int) < c1)) (.ret (rB false, ⟨0, [], []⟩)) (.ite (decide (c2 < (0 : Int))) (.ret (rB false, ⟨0, [], []⟩)) (.ite (decide (c1 < c2)) (.ret (rB false, ⟨0, [], []⟩)) (.ite (decide (c3 < (0 : Int))) (.ret (rB false, ⟨0, [], []⟩)) (.ite (decide ((400 : Int) < c3)) (.ret (rB false, ⟨0, [], []⟩)) (.need (decide (((0 : Int) ≤ (0 : Int)) ∧ (((0 : Int) ≤ (((List.length t) : Nat) : Int)) ∧ ((List.length t) ≤ 1000000)))) (.ite (List.any (List.drop 0 t) dirCap) (.ret (rB false, ⟨0, [], []⟩)) (.need true (.need (decide (((List.length t) ≤ 1000000) ∧ ((List.length ar) ≤ 1000000))) (.need (decide (((0 : Int) ≤ (0 : Int)) ∧ (((0 : Int) ≤ (((List.length (capsC (t, (ar, (c1, (c2, c3)))))) : Nat) : Int)) ∧ ((List.length (capsC (t, (ar, (c1, (c2, c3)))))) ≤ 10000000)))) (.ite (List.all (List.drop 0 (capsC (t, (ar, (c1, (c2, c3)))))) capOk) (.ret (rB true, ⟨0, [], []⟩)) (.ret (rB false, ⟨0, [], []⟩))))))))))))))))))) (by kernel_rfl) ?_
  show Gives _ (.need _ (.ret (rB (cMay (t, ar, c1, c2, c3)), (⟨0, [], []⟩ : St))))
  refine .rnd fun har => ?_
  have har : ar.length ≤ 1000000 := har
  rw [← cMayR_eq]
  unfold cMayR treeErr
  simp only [List.drop_zero]
  cases ht : treeOk t with
  | false => exact .tt rfl (.refl _)
  | true =>
    have ht8 : t.length ≤ 8 := by simp only [treeOk, Bool.and_eq_true, decide_eq_true_eq] at ht; exact ht.1
    have hcl := capsF_len t
    have hc : (capsC (t, ar, c1, c2, c3)).length = (capsF t).length + ar.length := by simp [capsC]
    refine .ff rfl (.need rfl (.nd ⟨by omega, har⟩ (.if_ (fun h => ?_) (fun h => ?_))))
    · rw [decide_eq_false (show ¬ (capsF t).length ≤ 4 by omega)]; exact .refl _
    rw [decide_eq_true (show (capsF t).length ≤ 4 by omega)]
    refine .if_ (fun h => ?_) (fun h => ?_)
    · rw [decide_eq_false (show ¬ ar.length ≤ 2 by omega)]; exact .refl _
    rw [decide_eq_true (show ar.length ≤ 2 by omega)]
    refine .if_ (fun h => ?_) (fun h => ?_)
    · rw [decide_eq_false (show ¬ 0 ≤ c1 by omega)]; exact .refl _
    rw [decide_eq_true (show 0 ≤ c1 by omega)]
    refine .if_ (fun h => ?_) (fun h => ?_)
    · rw [decide_eq_false (show ¬ c1 ≤ 6 by omega)]; exact .refl _
    rw [decide_eq_true (show c1 ≤ 6 by omega)]
    refine .if_ (fun h => ?_) (fun h => ?_)
    · rw [decide_eq_false (show ¬ 0 ≤ c2 by omega)]; exact .refl _
    rw [decide_eq_true (show 0 ≤ c2 by omega)]
    refine .if_ (fun h => ?_) (fun h => ?_)
    · rw [decide_eq_false (show ¬ c2 ≤ c1 by omega)]; exact .refl _
    rw [decide_eq_true (show c2 ≤ c1 by omega)]
    refine .if_ (fun h => ?_) (fun h => ?_)
    · rw [decide_eq_false (show ¬ 0 ≤ c3 by omega)]; exact .refl _
    rw [decide_eq_true (show 0 ≤ c3 by omega)]
    refine .if_ (fun h => ?_) (fun h => ?_)
    · rw [decide_eq_false (show ¬ c3 ≤ 400 by omega)]; exact .refl _
    rw [decide_eq_true (show c3 ≤ 400 by omega)]
    refine .nd ⟨by omega, by omega, by omega⟩ (.ite (fun h => ?_) (fun h => ?_))
    · rw [h]; exact .refl _
    rw [h]
    refine .need rfl (.nd ⟨by omega, har⟩ (.nd ⟨by omega, by omega, by omega⟩ (.ite (fun h => ?_) (fun h => ?_))))
    · rw [h]; exact .refl _
    · rw [h]; exact .refl _
noncomputable def fn11 := mkFn Tryz.f11
noncomputable def C11 : Cx := ⟨T, FL, [(10, rcMayCtr), (27, nfCtr), (28, capsCtr)], [], [GK]⟩
theorem C11_ok : CxOk Tryz.prog C11 := ⟨T_ok, FL_ok, .cons rcMay_ok (.cons nfiles_ok (.cons rcaps_ok (.nil _))), .nil _⟩
#print axioms C11_ok
end Go.Proofs.YtdngaaploooceaaGreatDoor.Sy

/- Contracts: whether the document's class has an input. -/
set_option maxRecDepth 100000
namespace Go.Proofs.YtdngaaploooceaaGreatDoor.Sy
open Go.RowKit Kit Go.Proofs
def q11a : Frm := ⟨95, [(2, .ptr tCls), (3, .ptr tInp), (5, .dat (.sl tI)), (6, .dat tI)], []⟩
def R11a : q11a.V → Tr (Ex × St) := fun (((c : Cls), (i : Inp), (l : List Int), (k : Int), _), _) =>
  .need (decide (0 ≤ k ∧ k ≤ i.1.length ∧ i.1.length ≤ l.length ∧ l.length ≤ 10000000)) (.ite (fitL (l.drop k.toNat) (i.1.drop k.toNat)) (.ret (.ex 0, ⟨95, [(2, .e (.c (.dp (split tCls c)))), (3, .e (.c (.dp (split tInp i))))], []⟩)) (.ret (.rt, ⟨95, [(4, .e (.c (.kb false)))], []⟩)))
def q11b : Frm := ⟨95, [(2, .ptr tCls), (3, .ptr tInp), (7, .dat tI)], []⟩
def R11b : q11b.V → Tr (Ex × St) := fun (((c : Cls), (i : Inp), (k : Int), _), _) =>
  .need (decide (0 ≤ k ∧ k ≤ i.2.1.length ∧ i.2.1.length = c.2.1.length ∧ c.2.1.length ≤ 10000000)) (.ite (fitL (c.2.1.drop k.toNat) (i.2.1.drop k.toNat)) (.ret (.ex 2, ⟨95, [(2, .e (.c (.dp (split tCls c)))), (3, .e (.c (.dp (split tInp i))))], []⟩)) (.ret (.rt, ⟨95, [(4, .e (.c (.kb false)))], []⟩)))
def q11c : Frm := ⟨95, [(2, .ptr tCls), (3, .ptr tInp), (8, .dat tI), (9, .dat tI)], []⟩
def R11c : q11c.V → Tr (Ex × St) := fun (((c : Cls), (i : Inp), (n : Int), (k : Int), _), _) =>
  .need (decide (0 ≤ k ∧ k ≤ i.2.2.length ∧ i.2.2.length ≤ 10000000 ∧ 0 ≤ n ∧ n ≤ k)) (.ret (.ex 4, ⟨95, [(2, .e (.c (.dp (split tCls c)))), (8, rI (n + trues (i.2.2.drop k.toNat)))], []⟩))
noncomputable def lp11 : LP := [(0, sumP q11a R11a), (2, sumP q11b R11b), (4, sumP q11c R11c)]
set_option maxHeartbeats 4000000 in
theorem lp11_ok : LpsOk 0 C11 [] lp11 fn11.loops := by
  refine .all (by kernel_rfl) ?_
  simp only [lp11, List.forall_mem_cons, List.not_mem_nil, false_imp_iff, implies_true, and_true]
  refine ⟨?_, ?_, ?_⟩
  · refine .pat q11a R11a (fun v => (v.1.2.1.1.length - v.1.2.2.2.1).toNat) ?_
    rintro ⟨⟨⟨(t : List Ent), (ar : List Int), (c1 : Int), (c2 : Int), (c3 : Int)⟩, ⟨(fs : List (List Int)), (fa : List (List Int)), (fb : List Bool)⟩, (l : List Int), (k : Int), ⟨⟩⟩, ⟨⟩⟩ ih
    refine Gives.run (t' := .ite (decide (k < (((List.length fs) : Nat) : Int))) (.need (inR k (List.length fs)) (.need (inR k (List.length l)) (.ite (decide ((List.getD l (Int.toNat k) (0 : Int)) < (((List.length (List.getD fs (Int.toNat k) ([] : List Int))) : Nat) : Int))) (.ret (.rt, ⟨95, [(4, .e (.c (.kb false)))], []⟩)) (.need (decide (((-(9223372036854775808 : Int) : Int) ≤ (k + (1 : Int) : Int)) ∧ ((k + (1 : Int) : Int) ≤ (9223372036854775807 : Int)))) (.ret (.nx, ⟨95, [(2, .e (.c (.dp [.sl tEnt t, .sl tI ar, .v (.int .i64 c1), .v (.int .i64 c2), .v (.int .i64 c3)]))), (3, .e (.c (.dp [.sl tB fs, .sl tB fa, .sl Ty.bool fb]))), (5, rL tI l), (6, rI (k + (1 : Int) : Int))], []⟩)))))) (.ret (.ex 0, ⟨95, [(2, .e (.c (.dp [.sl tEnt t, .sl tI ar, .v (.int .i64 c1), .v (.int .i64 c2), .v (.int .i64 c3)]))), (3, .e (.c (.dp [.sl tB fs, .sl tB fa, .sl Ty.bool fb])))], []⟩))) (by kernel_rfl) ?_
    refine .rnd fun ⟨h1, h2, h3, h4⟩ => ?_
    have h2 : k ≤ fs.length := h2
    have h3 : fs.length ≤ l.length := h3
    have h4 : l.length ≤ 10000000 := h4
    show Gives _ (.ite (fitL (l.drop k.toNat) (fs.drop k.toNat)) _ _)
    refine .lif (fun hk => ?_) (fun hk => ?_)
    · have e : (k + 1).toNat = k.toNat + 1 := by omega
      rw [drop_at l k.toNat 0 (by omega), drop_at fs k.toNat [] (by omega)]
      have hr : inR k fs.length = true := inR_of h1 (by omega)
      have hr' : inR k l.length = true := inR_of h1 (by omega)
      rw [fitL]
      refine .lneed hr (.lneed hr' (.lif (fun hx => ?_) (fun hx => ?_)))
      · exact .rff (by rw [decide_eq_false (by omega)]; rfl) (.refl _)
      · refine .rb (by rw [decide_eq_true (by omega), Bool.true_and]) (.lnd (by omega) ?_)
        refine Gives.next (σ' := q11a.st (((t, ar, c1, c2, c3), (fs, fa, fb), l, k + 1, ()), ())) (by kernel_rfl) ((ih (((t, ar, c1, c2, c3), (fs, fa, fb), l, k + 1, ()), ()) (by simp only; omega)).trans ?_)
        refine .nd ⟨by omega, by show k + 1 ≤ (fs.length : Int); omega, h3, h4⟩ ?_
        rw [e]; exact .refl _
    · rw [show fs.drop k.toNat = [] from List.drop_eq_nil_of_le (by omega)]
      have : ∀ l : List Int, fitL l [] = true := fun l => by cases l <;> rfl
      rw [this]; exact .rtt rfl (.refl _)
  · refine .pat q11b R11b (fun v => (v.1.2.1.2.1.length - v.1.2.2.1).toNat) ?_
    rintro ⟨⟨⟨(t : List Ent), (ar : List Int), (c1 : Int), (c2 : Int), (c3 : Int)⟩, ⟨(fs : List (List Int)), (fa : List (List Int)), (fb : List Bool)⟩, (k : Int), ⟨⟩⟩, ⟨⟩⟩ ih
    refine Gives.run (t' := .ite (decide (k < (((List.length fa) : Nat) : Int))) (.need (inR k (List.length fa)) (.need (inR k (List.length ar)) (.ite (decide ((List.getD ar (Int.toNat k) (0 : Int)) < (((List.length (List.getD fa (Int.toNat k) ([] : List Int))) : Nat) : Int))) (.ret (.rt, ⟨95, [(4, .e (.c (.kb false)))], []⟩)) (.need (decide (((-(9223372036854775808 : Int) : Int) ≤ (k + (1 : Int) : Int)) ∧ ((k + (1 : Int) : Int) ≤ (9223372036854775807 : Int)))) (.ret (.nx, ⟨95, [(2, .e (.c (.dp [.sl tEnt t, .sl tI ar, .v (.int .i64 c1), .v (.int .i64 c2), .v (.int .i64 c3)]))), (3, .e (.c (.dp [.sl tB fs, .sl tB fa, .sl Ty.bool fb]))), (7, rI (k + (1 : Int) : Int))], []⟩)))))) (.ret (.ex 2, ⟨95, [(2, .e (.c (.dp [.sl tEnt t, .sl tI ar, .v (.int .i64 c1), .v (.int .i64 c2), .v (.int .i64 c3)]))), (3, .e (.c (.dp [.sl tB fs, .sl tB fa, .sl Ty.bool fb])))], []⟩))) (by kernel_rfl) ?_
    refine .rnd fun ⟨h1, h2, h3, h4⟩ => ?_
    have h2 : k ≤ fa.length := h2
    have h3 : fa.length = ar.length := h3
    have h4 : ar.length ≤ 10000000 := h4
    show Gives _ (.ite (fitL (ar.drop k.toNat) (fa.drop k.toNat)) _ _)
    refine .lif (fun hk => ?_) (fun hk => ?_)
    · have e : (k + 1).toNat = k.toNat + 1 := by omega
      rw [drop_at ar k.toNat 0 (by omega), drop_at fa k.toNat [] (by omega)]
      have hr : inR k fa.length = true := inR_of h1 (by omega)
      have hr' : inR k ar.length = true := inR_of h1 (by omega)
      rw [fitL]
      refine .lneed hr (.lneed hr' (.lif (fun hx => ?_) (fun hx => ?_)))
      · exact .rff (by rw [decide_eq_false (by omega)]; rfl) (.refl _)
      · refine .rb (by rw [decide_eq_true (by omega), Bool.true_and]) (.lnd (by omega) ?_)
        refine Gives.next (σ' := q11b.st (((t, ar, c1, c2, c3), (fs, fa, fb), k + 1, ()), ())) (by kernel_rfl) ((ih (((t, ar, c1, c2, c3), (fs, fa, fb), k + 1, ()), ()) (by simp only; omega)).trans ?_)
        refine .nd ⟨by omega, by show k + 1 ≤ (fa.length : Int); omega, h3, h4⟩ ?_
        rw [e]; exact .refl _
    · rw [show fa.drop k.toNat = [] from List.drop_eq_nil_of_le (by omega)]
      have : ∀ l : List Int, fitL l [] = true := fun l => by cases l <;> rfl
      rw [this]; exact .rtt rfl (.refl _)
  · refine .pat q11c R11c (fun v => (v.1.2.1.2.2.length - v.1.2.2.2.1).toNat) ?_
    rintro ⟨⟨⟨(t : List Ent), (ar : List Int), (c1 : Int), (c2 : Int), (c3 : Int)⟩, ⟨(fs : List (List Int)), (fa : List (List Int)), (fb : List Bool)⟩, (n : Int), (k : Int), ⟨⟩⟩, ⟨⟩⟩ ih
    refine Gives.run (t' := .ite (decide (k < (((List.length fb) : Nat) : Int))) (.need (inR k (List.length fb)) (.ite (List.getD fb (Int.toNat k) false) (.need (decide (((-(9223372036854775808 : Int) : Int) ≤ (n + (1 : Int) : Int)) ∧ ((n + (1 : Int) : Int) ≤ (9223372036854775807 : Int)))) (.need (decide (((-(9223372036854775808 : Int) : Int) ≤ (k + (1 : Int) : Int)) ∧ ((k + (1 : Int) : Int) ≤ (9223372036854775807 : Int)))) (.ret (.nx, ⟨95, [(2, .e (.c (.dp [.sl tEnt t, .sl tI ar, .v (.int .i64 c1), .v (.int .i64 c2), .v (.int .i64 c3)]))), (3, .e (.c (.dp [.sl tB fs, .sl tB fa, .sl Ty.bool fb]))), (8, rI (n + (1 : Int) : Int)), (9, rI (k + (1 : Int) : Int))], []⟩)))) (.need (decide (((-(9223372036854775808 : Int) : Int) ≤ (k + (1 : Int) : Int)) ∧ ((k + (1 : Int) : Int) ≤ (9223372036854775807 : Int)))) (.ret (.nx, ⟨95, [(2, .e (.c (.dp [.sl tEnt t, .sl tI ar, .v (.int .i64 c1), .v (.int .i64 c2), .v (.int .i64 c3)]))), (3, .e (.c (.dp [.sl tB fs, .sl tB fa, .sl Ty.bool fb]))), (8, rI n), (9, rI (k + (1 : Int) : Int))], []⟩))))) (.ret (.ex 4, ⟨95, [(2, .e (.c (.dp [.sl tEnt t, .sl tI ar, .v (.int .i64 c1), .v (.int .i64 c2), .v (.int .i64 c3)]))), (8, rI n)], []⟩))) (by kernel_rfl) ?_
    refine .rnd fun ⟨h1, h2, h3, h4, h5⟩ => ?_
    have h2 : k ≤ fb.length := h2
    have h3 : fb.length ≤ 10000000 := h3
    show Gives _ (.ret (Ex.ex 4, (⟨95, [(2, .e (.c (.dp (split tCls (t, ar, c1, c2, c3))))), (8, rI (n + trues (fb.drop k.toNat)))], []⟩ : St)))
    refine .lif (fun hk => ?_) (fun hk => ?_)
    · have e : (k + 1).toNat = k.toNat + 1 := by omega
      rw [drop_at fb k.toNat false (by omega)]
      have hr : inR k fb.length = true := inR_of h1 (by omega)
      refine .lneed hr ?_
      generalize fb.getD k.toNat false = x
      refine .lite (fun hx => ?_) (fun hx => ?_)
      · subst hx
        refine .lnd (by omega) (.lnd (by omega) ?_)
        refine Gives.next (σ' := q11c.st (((t, ar, c1, c2, c3), (fs, fa, fb), n + 1, k + 1, ()), ())) (by kernel_rfl) ((ih (((t, ar, c1, c2, c3), (fs, fa, fb), n + 1, k + 1, ()), ()) (by simp only; omega)).trans ?_)
        refine .nd ⟨by omega, by show k + 1 ≤ (fb.length : Int); omega, h3, by omega, by omega⟩ ?_
        rw [e]; simp only [trues, if_true, ← Int.add_assoc]; exact .refl _
      · subst hx
        refine .lnd (by omega) ?_
        refine Gives.next (σ' := q11c.st (((t, ar, c1, c2, c3), (fs, fa, fb), n, k + 1, ()), ())) (by kernel_rfl) ((ih (((t, ar, c1, c2, c3), (fs, fa, fb), n, k + 1, ()), ()) (by simp only; omega)).trans ?_)
        refine .nd ⟨by omega, by show k + 1 ≤ (fb.length : Int); omega, h3, by omega, by omega⟩ ?_
        rw [e]; simp only [trues, Bool.false_eq_true, if_false, Int.zero_add]; exact .refl _
    · rw [List.drop_eq_nil_of_le (by omega)]
      simp only [trues, Int.add_zero]
      exact .refl _
theorem fitL_one : ∀ (a b : List Int) (f : List (List Int)), f.length = a.length → fitL (a ++ b) f = fitL a f
  | [], b, f, h => by
    have : f = [] := List.length_eq_zero_iff.1 h
    subst this
    cases b <;> rfl
  | x :: a, b, [], h => by simp at h
  | x :: a, b, y :: f, h => by
    rw [List.cons_append, fitL, fitL, fitL_one a b f (by simpa using h)]
theorem fitL_two : ∀ (a b : List Int) (f g : List (List Int)), f.length = a.length → fitL (a ++ b) (f ++ g) = (fitL a f && fitL b g)
  | [], b, f, g, h => by
    have : f = [] := List.length_eq_zero_iff.1 h
    subst this
    rfl
  | x :: a, b, [], g, h => by simp at h
  | x :: a, b, y :: f, g, h => by
    rw [List.cons_append, List.cons_append, fitL, fitL, fitL_two a b f g (by simpa using h), Bool.and_assoc]
set_option maxHeartbeats 2000000 in
theorem rcHas_ok : CtrOk Tryz.prog 11 (ctr (two (aAgg tCls) (aAgg tInp)) fun a => .need (decide (a.1.2.1.length ≤ 1000000 ∧ a.2.1.2.2.length ≤ 1000000)) (ans (rB (cHas a.1 a.2.1)))) := by
  refine .mk C11_ok mixed (q := fn11) (.of Tryz.func11 (by kernel_rfl)) lp11_ok (by decide) ?_
  rintro ⟨⟨(t : List Ent), (ar : List Int), (c1 : Int), (c2 : Int), (c3 : Int)⟩, ⟨(fs : List (List Int)), (fa : List (List Int)), (fb : List Bool)⟩, ⟨⟩⟩ hb
  refine Gives.of_eq (t' := .need true (.need (decide ((List.length ar) ≤ 1000000)) (.ite (!(cMay (t, (ar, (c1, (c2, c3)))))) (.ret (rB false, ⟨0, [], []⟩)) (.need true (.need (decide (((List.length t) ≤ 1000000) ∧ ((List.length ar) ≤ 1000000))) (.ite ((((List.length fs) : Nat) : Int) != (((List.length (capsF t)) : Nat) : Int)) (.ret (rB false, ⟨0, [], []⟩)) (.ite ((((List.length fa) : Nat) : Int) != (((List.length ar) : Nat) : Int)) (.ret (rB false, ⟨0, [], []⟩)) (.ite ((((List.length fb) : Nat) : Int) != c1) (.ret (rB false, ⟨0, [], []⟩)) (.need true (.need (decide (((List.length t) ≤ 1000000) ∧ ((List.length ar) ≤ 1000000))) (.need (decide (((0 : Int) ≤ (0 : Int)) ∧ (((0 : Int) ≤ (((List.length fs) : Nat) : Int)) ∧ (((List.length fs) ≤ (List.length (capsC (t, (ar, (c1, (c2, c3))))))) ∧ ((List.length (capsC (t, (ar, (c1, (c2, c3)))))) ≤ 10000000))))) (.ite (fitL (List.drop 0 (capsC (t, (ar, (c1, (c2, c3)))))) (List.drop 0 fs)) (.need (decide (((0 : Int) ≤ (0 : Int)) ∧ (((0 : Int) ≤ (((List.length fa) : Nat) : Int)) ∧ (((List.length fa) = (List.length ar)) ∧ ((List.length ar) ≤ 10000000))))) (.ite (fitL (List.drop 0 ar) (List.drop 0 fa)) (.need (decide (((0 : Int) ≤ (0 : Int)) ∧ (((0 : Int) ≤ (((List.length fb) : Nat) : Int)) ∧ (((List.length fb) ≤ 10000000) ∧ (((0 : Int) ≤ (0 : Int)) ∧ ((0 : Int) ≤ (0 : Int))))))) (.ret (rB (decide (((0 : Int) + (trues (List.drop 0 fb)) : Int) ≤ c2)), ⟨0, [], []⟩))) (.ret (rB false, ⟨0, [], []⟩)))) (.ret (rB false, ⟨0, [], []⟩)))))))))))))) (by kernel_rfl) ?_
  show Gives _ (.need _ (.ret (rB (cHas (t, ar, c1, c2, c3) (fs, fa, fb)), (⟨0, [], []⟩ : St))))
  refine .rnd fun ⟨har, hfb⟩ => ?_
  have har : ar.length ≤ 1000000 := har
  have hfb : fb.length ≤ 1000000 := hfb
  simp only [List.drop_zero, Int.zero_add]
  have hcf := capsF_files t
  have hc : (capsC (t, ar, c1, c2, c3)).length = (capsF t).length + ar.length := by simp [capsC]
  refine .need rfl (.nd har (.ite (fun h1 => ?_) (fun h1 => ?_)))
  · unfold cHas; rw [show cMay (t, ar, c1, c2, c3) = false by rw [← Bool.not_eq_true']; exact h1]; exact .refl _
  have h1 : cMay (t, ar, c1, c2, c3) = true := by rw [← Bool.not_eq_false']; exact h1
  obtain ⟨g1, g2, g3, g4, g5, g6, g7, g8⟩ := cMay_f h1
  have ht8 := (treeOk_f g1).1
  dsimp only at g2 g3 g6 g7 g8 ht8
  refine .need rfl (.nd ⟨by omega, har⟩ (.ite (fun h2 => ?_) (fun h2 => ?_)))
  · have h2 : ¬ fs.length = (capsF t).length := by have := bne_iff_ne.1 h2; omega
    unfold cHas
    rw [decide_eq_false (show ¬ fs.length = (filesK 0 t).length by omega)]; simp only [Bool.and_false, Bool.false_and]; exact .refl _
  have h2 : fs.length = (capsF t).length := by have := bne_eq_false_iff_eq.1 h2; omega
  refine .ite (fun h3 => ?_) (fun h3 => ?_)
  · have h3 : ¬ fa.length = ar.length := by have := bne_iff_ne.1 h3; omega
    unfold cHas
    rw [decide_eq_false (show ¬ fa.length = ar.length from h3)]; simp only [Bool.and_false, Bool.false_and]; exact .refl _
  have h3 : fa.length = ar.length := by have := bne_eq_false_iff_eq.1 h3; omega
  have hall : cHas (t, ar, c1, c2, c3) (fs, fa, fb) = (decide ((fb.length : Int) = c1) && (fitL (capsC (t, ar, c1, c2, c3)) fs && (fitL ar fa && decide (trues fb ≤ c2)))) := by
    unfold cHas fMay
    dsimp only
    rw [show capsC (t, ar, c1, c2, c3) = capsF t ++ ar from rfl, h1, decide_eq_true (show fs.length = (filesK 0 t).length by omega), decide_eq_true h3, fitL_two (capsF t) ar fs fa h2, fitL_one (capsF t) ar fs h2]
    by_cases hb6 : (fb.length : Int) = c1
    · rw [decide_eq_true hb6, decide_eq_true (show c1 ≤ 6 by omega)]
      cases fitL (capsF t) fs <;> cases fitL ar fa <;> cases decide (trues fb ≤ c2) <;> rfl
    · rw [decide_eq_false hb6]; rfl
  rw [hall]
  refine .ite (fun h4 => ?_) (fun h4 => ?_)
  · rw [decide_eq_false (by have := bne_iff_ne.1 h4; exact this)]; exact .refl _
  rw [decide_eq_true (bne_eq_false_iff_eq.1 h4)]
  refine .need rfl (.nd ⟨by omega, har⟩ (.nd ⟨by omega, by omega, by omega, by omega⟩ (.ite (fun h5 => ?_) (fun h5 => ?_))))
  · rw [h5]
    refine .nd ⟨by omega, by omega, by omega, by omega⟩ (.ite (fun h6 => ?_) (fun h6 => ?_))
    · rw [h6]
      exact .nd ⟨by omega, by omega, by omega, by omega, by omega⟩ (.refl _)
    · rw [h6]; exact .refl _
  · rw [h5]; exact .refl _
end Go.Proofs.YtdngaaploooceaaGreatDoor.Sy

/- Plain laws: an image whose parts may be has an archive. -/
set_option maxRecDepth 100000
namespace Go.Proofs.YtdngaaploooceaaGreatDoor.Sy
open Go.RowKit Kit Go.Proofs
theorem blkF_le {f : File} {n : Int} (h : (f.2.2.length : Int) ≤ n) (hn : n ≤ 65536) : 0 ≤ blkF f ∧ blkF f * 512 ≤ n + 1023 := by
  have h1 := blocksF_le (n := (f.2.2.length : Int)) (by omega)
  have h2 := blocksF_le (n := (65536 : Int)) (by omega)
  unfold blkF imin
  split <;> omega
def sumB : List File → Int
  | [] => 0
  | f :: r => blkF f + sumB r
theorem sumB_app : ∀ a b : List File, sumB (a ++ b) = sumB a + sumB b
  | [], b => by simp [sumB]
  | f :: r, b => by rw [List.cons_append, sumB, sumB, sumB_app r b]; omega
theorem blkF_nonneg (f : File) : 0 ≤ blkF f := by
  unfold blkF
  have : 0 ≤ imin (f.2.2.length : Int) 65536 := by unfold imin; split <;> omega
  have := blocksF_le this; omega
theorem sumB_nonneg : ∀ l : List File, 0 ≤ sumB l
  | [] => Int.le_refl _
  | f :: r => by have := sumB_nonneg r; have := blkF_nonneg f; rw [sumB]; omega
theorem fullBad_sum : ∀ (l : List File) (n : Int), n + sumB l ≤ 128 → fullBad n l = false
  | [], _, _ => rfl
  | f :: r, n, h => by
    rw [sumB] at h
    have := sumB_nonneg r
    rw [fullBad, decide_eq_false (by omega), Bool.false_or]
    exact fullBad_sum r _ (by omega)
theorem sumB_le : ∀ (l : List File), (∀ f ∈ l, f.2.2.length ≤ 512) → sumB l ≤ 2 * l.length
  | [], _ => by simp [sumB]
  | f :: r, h => by
    have h1 := sumB_le r fun g hg => h g (List.mem_cons_of_mem _ hg)
    have h2 := blkF_le (f := f) (n := 512) (by have := h f (List.mem_cons_self ..); omega) (by omega)
    rw [sumB, List.length_cons]
    push_cast
    omega
/-- no byte of it is 0 -/
def noZ (s : ByteArray) : Prop := ∀ c ∈ strB s, c ≠ 0
theorem idxS_noZ {s : ByteArray} (h : noZ s) : idxS s 0 < 0 := by
  have hge := Lib.indexByte_ge s.data.toList 0
  by_cases hm : Lib.indexByte s.data.toList 0 = -1
  · show Lib.indexByte s.data.toList 0 < 0
    omega
  · exfalso
    obtain ⟨o, ho⟩ : ∃ o : Nat, Lib.indexByte s.data.toList 0 = o := ⟨(Lib.indexByte s.data.toList 0).toNat, by omega⟩
    have g := (Lib.indexByte_some ho).1
    refine h 0 ?_ rfl
    unfold strB
    exact List.mem_map.2 ⟨0, List.mem_of_getElem? g, rfl⟩
theorem strB_app (a b : ByteArray) : strB (a ++ b) = strB a ++ strB b := by
  unfold strB
  rw [ByteArray.data_append, Array.toList_append, List.map_append]
theorem noZ_app {a b : ByteArray} (ha : noZ a) (hb : noZ b) : noZ (a ++ b) := fun c hc => by
  rw [strB_app] at hc
  rcases List.mem_append.1 hc with h | h
  · exact ha c h
  · exact hb c h
theorem noZ_all {s : ByteArray} (h : (strB s).all (· != 0) = true) : noZ s := fun c hc => by
  have := List.all_eq_true.1 h c hc
  simpa using this
theorem noZ_name {p : ByteArray} (h : nameF p = true) : noZ p := fun c hc e => by
  subst e
  rw [← nameR_eq] at h
  unfold nameR at h
  simp only [Bool.and_eq_true] at h
  exact absurd (List.all_eq_true.1 h.2.2.1 _ hc) (by decide)
theorem nameBad_ok {f : File} (h0 : f.1 ≠ ByteArray.empty) (h1 : f.1.size ≤ 99) (h2 : noZ f.1) : nameBad f = false := by
  unfold nameBad
  rw [decide_eq_false h0, decide_eq_false (by omega), decide_eq_false (by have := idxS_noZ h2; omega)]; rfl
theorem app_ne {a b : ByteArray} (h : 0 < a.size) : a ++ b ≠ ByteArray.empty := fun e => by
  have : (a ++ b).size = 0 := by rw [e]; rfl
  rw [ByteArray.size_append] at this
  omega
theorem treeFs_ok : ∀ (t : List Ent) (fs : List (List Int)), (∀ x ∈ t, nameF x.1 = true) → (∀ b ∈ fs, b.length ≤ 512) → ∀ f ∈ treeFs t fs, nameBad f = false ∧ dirBad f = false ∧ f.2.2.length ≤ 512
  | [], _, _, _, f, hf => by cases hf
  | x :: r, fs, hn, hl, f, hf => by
    have h5 : (bs "tree/").size = 5 := by decide +kernel
    have hz : noZ (bs "tree/") := noZ_all (by decide +kernel)
    have hx := hn x (List.mem_cons_self ..)
    have hs := nameF_size hx
    have hb : ∀ d c, nameBad (bs "tree/" ++ x.1, d, c) = false := fun d c => nameBad_ok (app_ne (by omega)) (by dsimp only; rw [ByteArray.size_append]; omega) (noZ_app hz (noZ_name hx))
    rw [treeFs_cons] at hf
    split at hf
    · rcases List.mem_cons.1 hf with rfl | hf
      · exact ⟨hb _ _, rfl, Nat.zero_le _⟩
      · exact treeFs_ok r fs (fun y hy => hn y (List.mem_cons_of_mem _ hy)) hl f hf
    · rcases List.mem_cons.1 hf with rfl | hf
      · refine ⟨hb _ _, rfl, ?_⟩
        cases fs with
        | nil => exact Nat.zero_le _
        | cons b bs' => exact hl b (List.mem_cons_self ..)
      · exact treeFs_ok r fs.tail (fun y hy => hn y (List.mem_cons_of_mem _ hy)) (fun b hb => hl b (List.mem_of_mem_tail hb)) f hf
theorem argFs_ok : ∀ (l : List (List Int)) (k : Int), 0 ≤ k → k + l.length ≤ 10 → (∀ b ∈ l, b.length ≤ 512) → ∀ f ∈ argFs k l, nameBad f = false ∧ dirBad f = false ∧ f.2.2.length ≤ 512
  | [], _, _, _, _, f, hf => by cases hf
  | x :: r, k, h0, h1, hl, f, hf => by
    rw [List.length_cons] at h1
    have hz : noZ (bs "args/") := noZ_all (by decide +kernel)
    have hd : ∀ j : Nat, j < 10 → ((strB (digit j)).all (· != 0) && decide ((digit j).size ≤ 10)) = true := by
      intro j hj
      have : (List.range 10).all (fun j => (strB (digit (j : Int))).all (· != 0) && decide ((digit (j : Int)).size ≤ 10)) = true := by decide +kernel
      exact List.all_eq_true.1 this j (List.mem_range.2 hj)
    have hk := hd k.toNat (by omega)
    rw [show ((k.toNat : Nat) : Int) = k by omega, Bool.and_eq_true, decide_eq_true_iff] at hk
    have h5 : (bs "args/").size = 5 := by decide +kernel
    rcases List.mem_cons.1 hf with rfl | hf
    · exact ⟨nameBad_ok (app_ne (by omega)) (by dsimp only; rw [ByteArray.size_append]; omega) (noZ_app hz (noZ_all hk.1)), rfl, hl x (List.mem_cons_self ..)⟩
    · exact argFs_ok r (k + 1) (by omega) (by push_cast at h1; omega) (fun b hb => hl b (List.mem_cons_of_mem _ hb)) f hf
theorem fitL_le : ∀ (c : List Int) (f : List (List Int)) (m : Int), c.length = f.length → (∀ x ∈ c, x ≤ m) → fitL c f = true → ∀ b ∈ f, (b.length : Int) ≤ m
  | [], [], _, _, _, _, b, hb => by cases hb
  | [], _ :: _, _, h, _, _, _, _ => by simp at h
  | _ :: _, [], _, _, _, _, b, hb => by cases hb
  | x :: c, y :: f, m, h, hc, hf, b, hb => by
    rw [fitL, Bool.and_eq_true, decide_eq_true_iff] at hf
    rcases List.mem_cons.1 hb with rfl | hb
    · have := hc x (List.mem_cons_self ..); omega
    · exact fitL_le c f m (by simpa using h) (fun z hz => hc z (List.mem_cons_of_mem _ hz)) hf.2 b hb
theorem capsF_le : ∀ (t : List Ent), t.all entOk = true → ∀ x ∈ capsF t, x ≤ 3
  | [], _, x, hx => by cases hx
  | y :: t, h, x, hx => by
    rw [List.all_cons, Bool.and_eq_true] at h
    rw [capsF] at hx
    split at hx
    · exact capsF_le t h.2 x hx
    · rcases List.mem_cons.1 hx with rfl | hx
      · have := h.1
        simp only [entOk, Bool.and_eq_true, decide_eq_true_eq] at this
        exact this.1.2
      · exact capsF_le t h.2 x hx
theorem tMay_of {l : List File} (h1 : ∀ f ∈ l, nameBad f = false ∧ dirBad f = false) (h2 : 2 + sumB l ≤ 128) : tMay l = 0 := by
  have a1 : l.any nameBad = false := List.any_eq_false.2 fun f hf => by rw [(h1 f hf).1]; exact Bool.false_ne_true
  have a2 : l.any dirBad = false := List.any_eq_false.2 fun f hf => by rw [(h1 f hf).2]; exact Bool.false_ne_true
  unfold tMay
  rw [if_neg (by rw [a1]; exact Bool.false_ne_true), if_neg (by rw [a2]; exact Bool.false_ne_true), if_neg (by rw [fullBad_sum l 2 h2]; exact Bool.false_ne_true)]
theorem pBytes_len {p : Prog} (h : pMay p = 0) : (pBytes p).length ≤ 2400 := by
  obtain ⟨L, N⟩ := p
  obtain ⟨h1, h2, h3, h4⟩ := pMay_zero (L := L) (N := N) h
  have hf : (N.flatMap nameB).length ≤ 256 * N.length := flat_len nameB 256 N fun s hs => by
    have := of_decide_eq_true (List.all_eq_true.1 h3 s hs)
    simp only [nameB, List.length_cons, strB_length]; omega
  have hg : (L.flatMap instB).length ≤ 3 * L.length := flat_len instB 3 L fun s hs => by simp [instB]
  unfold pBytes
  dsimp only
  simp only [List.length_append, List.length_cons, List.length_nil]
  omega
theorem tMay_img {m : Img} (h1 : pMay m.1 = 0) (h2 : cHas m.2.1 m.2.2.1 = true) (h3 : traceBad m.2.2.2 = false) : tMay (imgFs m) = 0 := by
  obtain ⟨p, c, ⟨ff, fa, fb⟩, t⟩ := m
  dsimp only at h1 h2 h3
  obtain ⟨g1, g2, g3, g4, g5⟩ := cHas_f h2
  obtain ⟨e1, e2, e3, e4, e5, e6, e7, e8⟩ := cMay_f g1
  obtain ⟨t1, t2⟩ := treeOk_f e1
  dsimp only at g2 g3 g4 g5
  have hcf := capsF_files c.1
  have hcap : (capsC c).length = (ff ++ fa).length := by
    show (capsF c.1 ++ c.2.1).length = _
    rw [List.length_append, List.length_append]; omega
  have hle : ∀ b ∈ ff ++ fa, (b.length : Int) ≤ 3 := fitL_le (capsC c) (ff ++ fa) 3 hcap (fun x hx => by
    rcases List.mem_append.1 hx with hx | hx
    · exact capsF_le c.1 e4 x hx
    · have := List.all_eq_true.1 e5 x hx
      simp only [capOk, Bool.and_eq_true, decide_eq_true_eq] at this
      exact this.2) g5
  have hfb : fb.length ≤ 6 := by simp only [fMay, Bool.and_eq_true, decide_eq_true_eq] at g4; omega
  have htl : t.1.length ≤ 1024 := by
    simp only [traceBad, Bool.or_eq_false_iff, decide_eq_false_iff_not] at h3; omega
  have hT := treeFs_ok c.1 ff t2 fun b hb => by have := hle b (List.mem_append_left _ hb); omega
  have hA := argFs_ok fa 0 (by omega) (by omega) fun b hb => by have := hle b (List.mem_append_right _ hb); omega
  have lT := treeFs_len c.1 ff
  have lA := argFs_len fa 0
  have hp := pBytes_len h1
  have hk : (kindF c).length ≤ 14 := by
    unfold kindF twoF
    simp only [List.length_append, List.length_cons, List.length_nil, List.length_map, hcap]
    omega
  have htr : (traceF t).length ≤ 3075 := by
    have hf : (t.1.flatMap evB).length ≤ 3 * t.1.length := flat_len evB 3 t.1 fun s hs => by simp [evB, twoF]
    unfold traceF twoF
    simp only [List.length_append, List.length_cons, List.length_nil]
    omega
  have nm : ∀ (s : String) (c : List Int), (bs s ≠ ByteArray.empty ∧ (bs s).size ≤ 99 ∧ (strB (bs s)).all (· != 0) = true) → nameBad (bs s, false, c) = false ∧ dirBad (bs s, false, c) = false := fun s c h => ⟨nameBad_ok h.1 h.2.1 (noZ_all h.2.2), rfl⟩
  unfold imgFs filesF
  refine tMay_of (fun f hf => ?_) ?_
  · rcases List.mem_append.1 hf with hf | hf
    · rcases List.mem_cons.1 hf with rfl | hf
      · exact nm "prog" _ (by decide +kernel)
      · rcases List.mem_append.1 hf with hf | hf
        · exact ⟨(hT f hf).1, (hT f hf).2.1⟩
        · exact ⟨(hA f hf).1, (hA f hf).2.1⟩
    · simp only [List.mem_cons, List.not_mem_nil, or_false] at hf
      rcases hf with rfl | rfl | rfl
      · exact nm "fails" _ (by decide +kernel)
      · exact nm "class" _ (by decide +kernel)
      · exact nm "trace" _ (by decide +kernel)
  · have s1 := sumB_le (treeFs c.1 ff) fun f hf => (hT f hf).2.2
    have s2 := sumB_le (argFs 0 fa) fun f hf => (hA f hf).2.2
    have b1 := blkF_le (f := (bs "prog", false, pBytes p)) (n := 2400) (by dsimp only; omega) (by omega)
    have b2 := blkF_le (f := (bs "fails", false, fb.map truth)) (n := 512) (by dsimp only; rw [List.length_map]; omega) (by omega)
    have b3 := blkF_le (f := (bs "class", false, kindF c)) (n := 512) (by dsimp only; omega) (by omega)
    have b4 := blkF_le (f := (bs "trace", false, traceF t)) (n := 3075) (by dsimp only; omega) (by omega)
    dsimp only
    rw [sumB_app, sumB, sumB_app, sumB, sumB, sumB, sumB]
    omega
end Go.Proofs.YtdngaaploooceaaGreatDoor.Sy

/- Contracts: ImageTurns. -/
set_option maxRecDepth 100000
namespace Go.Proofs.YtdngaaploooceaaGreatDoor.Sy
open Go.RowKit Kit Go.Proofs
noncomputable def fn3 := mkFn Tryz.f3
def rbytesCtr : Ctr := ctr (one (aAgg tProg)) fun a => .need (decide (a.1.2.length ≤ 1000000)) (.ite (pMay a.1 != 0) (.ret (.tup [.c .nil, eI (pMay a.1)], [])) (.ret (.tup [eL tU (pBytes a.1), eI 0], [])))
noncomputable def C3T : Cx := ⟨T, FL, [(6, ctr Args.nil fun _ => ans (rB true)), (7, ctr (one (aAgg tImg)) fun a => ans (rB (smallR a.1))), (8, writeCtr), (12, readCtr),
  (9, rbytesCtr), (10, rcMayCtr), (11, ctr (two (aAgg tCls) (aAgg tInp)) fun a => .need (decide (a.1.2.1.length ≤ 1000000 ∧ a.2.1.2.2.length ≤ 1000000)) (ans (rB (cHas a.1 a.2.1)))),
  (13, ctr (two (aAgg tProg) (aAgg tProg)) fun a => ans (rB (decide (a.1 = a.2.1)))), (14, ctr (two (aAgg tCls) (aAgg tCls)) fun a => ans (rB (decide (a.1 = a.2.1)))),
  (15, ctr (two (aAgg tInp) (aAgg tInp)) fun a => .need (inpU a.1 && inpU a.2.1) (ans (rB (decide (a.1 = a.2.1))))), (16, ctr (two (aAgg tTr) (aAgg tTr)) fun a => ans (rB (decide (a.1 = a.2.1))))], [], [GK, FZ + 12]⟩
theorem C3T_ok : CxOk Tryz.prog C3T := ⟨T_ok, FL_ok, .cons awake_ok (.cons smallR_ok (.cons write_ok (.cons read_ok (.cons rbytes_ok (.cons rcMay_ok (.cons rcHas_ok (.cons same10_ok (.cons sameC_ok (.cons sameIn_ok (.cons sameTr_ok (.nil _))))))))))), .nil _⟩
set_option maxHeartbeats 4000000 in
theorem turns_ok : CtrOk Tryz.prog 3 (ctr (one (aAgg tImg)) fun a => .need (imgR a.1) (ans (rB true))) := by
  refine .mk C3T_ok mixed (q := fn3) (.of Tryz.func3 (by kernel_rfl)) (N := 0) (nr := []) .none (by decide) ?_
  rintro ⟨(m : Img), ⟨⟩⟩ hb
  refine Gives.of_eq (t' := .ite false (.ret (rB false, ⟨0, [], []⟩)) (.need true (.ite (!(smallR m)) (.ret (rB true, ⟨0, [], []⟩)) (.need true (.need true (.need true (.need true (.ite ((writeE m) != (0 : Int)) (.need true (.need (decide ((List.length ((m).1).2) ≤ 1000000)) (.ite ((pMay (m).1) != (0 : Int)) (.ite ((pMay (m).1) != (0 : Int)) (.ite ((writeE m) == (pMay (m).1)) (.ret (rB ((0 : Int) == (0 : Int)), ⟨0, [], []⟩)) (.ret (rB false, ⟨0, [], []⟩))) (.need true (.need (decide ((List.length ((((m).2).1).2).1) ≤ 1000000)) (.ite (!(cMay ((m).2).1)) (.ite ((writeE m) == (11 : Int)) (.ret (rB ((0 : Int) == (0 : Int)), ⟨0, [], []⟩)) (.ret (rB false, ⟨0, [], []⟩))) (.need true (.need true (.need (decide (((List.length ((((m).2).1).2).1) ≤ 1000000) ∧ ((List.length (((((m).2).2).1).2).2) ≤ 1000000))) (.ite (!(cHas ((m).2).1 (((m).2).2).1)) (.ite ((writeE m) == (12 : Int)) (.ret (rB ((0 : Int) == (0 : Int)), ⟨0, [], []⟩)) (.ret (rB false, ⟨0, [], []⟩))) (.ite (decide ((1024 : Int) < (((List.length ((((m).2).2).2).1) : Nat) : Int))) (.ite ((writeE m) == (4 : Int)) (.ret (rB ((0 : Int) == (0 : Int)), ⟨0, [], []⟩)) (.ret (rB false, ⟨0, [], []⟩))) (.ite (decide ((((((m).2).2).2).2).1 < (1 : Int))) (.ite ((writeE m) == (4 : Int)) (.ret (rB ((0 : Int) == (0 : Int)), ⟨0, [], []⟩)) (.ret (rB false, ⟨0, [], []⟩))) (.ite (decide ((5 : Int) < (((((m).2).2).2).2).1)) (.ite ((writeE m) == (4 : Int)) (.ret (rB ((0 : Int) == (0 : Int)), ⟨0, [], []⟩)) (.ret (rB false, ⟨0, [], []⟩))) (.need true (.ite ((writeE m) == (0 : Int)) (.ite false (.need true (.need true (.ite (decide ((((readI ([] : List Int))).2).1 = (m).1)) (.need true (.need true (.ite (decide (((((readI ([] : List Int))).2).2).1 = ((m).2).1)) (.need true (.need true (.need ((inpU (((((readI ([] : List Int))).2).2).2).1) && (inpU (((m).2).2).1)) (.ite (decide ((((((readI ([] : List Int))).2).2).2).1 = (((m).2).2).1)) (.need true (.need true (.ret (rB (decide ((((((readI ([] : List Int))).2).2).2).2 = (((m).2).2).2)), ⟨0, [], []⟩)))) (.ret (rB false, ⟨0, [], []⟩)))))) (.ret (rB false, ⟨0, [], []⟩))))) (.ret (rB false, ⟨0, [], []⟩))))) (.ret (rB false, ⟨0, [], []⟩))) (.ret (rB false, ⟨0, [], []⟩))))))))))))))) (.ite false (.ite ((writeE m) == (0 : Int)) (.ret (rB ((0 : Int) == (0 : Int)), ⟨0, [], []⟩)) (.ret (rB false, ⟨0, [], []⟩))) (.need true (.need (decide ((List.length ((((m).2).1).2).1) ≤ 1000000)) (.ite (!(cMay ((m).2).1)) (.ite ((writeE m) == (11 : Int)) (.ret (rB ((0 : Int) == (0 : Int)), ⟨0, [], []⟩)) (.ret (rB false, ⟨0, [], []⟩))) (.need true (.need true (.need (decide (((List.length ((((m).2).1).2).1) ≤ 1000000) ∧ ((List.length (((((m).2).2).1).2).2) ≤ 1000000))) (.ite (!(cHas ((m).2).1 (((m).2).2).1)) (.ite ((writeE m) == (12 : Int)) (.ret (rB ((0 : Int) == (0 : Int)), ⟨0, [], []⟩)) (.ret (rB false, ⟨0, [], []⟩))) (.ite (decide ((1024 : Int) < (((List.length ((((m).2).2).2).1) : Nat) : Int))) (.ite ((writeE m) == (4 : Int)) (.ret (rB ((0 : Int) == (0 : Int)), ⟨0, [], []⟩)) (.ret (rB false, ⟨0, [], []⟩))) (.ite (decide ((((((m).2).2).2).2).1 < (1 : Int))) (.ite ((writeE m) == (4 : Int)) (.ret (rB ((0 : Int) == (0 : Int)), ⟨0, [], []⟩)) (.ret (rB false, ⟨0, [], []⟩))) (.ite (decide ((5 : Int) < (((((m).2).2).2).2).1)) (.ite ((writeE m) == (4 : Int)) (.ret (rB ((0 : Int) == (0 : Int)), ⟨0, [], []⟩)) (.ret (rB false, ⟨0, [], []⟩))) (.need true (.ite ((writeE m) == (0 : Int)) (.ite false (.need true (.need true (.ite (decide ((((readI ([] : List Int))).2).1 = (m).1)) (.need true (.need true (.ite (decide (((((readI ([] : List Int))).2).2).1 = ((m).2).1)) (.need true (.need true (.need ((inpU (((((readI ([] : List Int))).2).2).2).1) && (inpU (((m).2).2).1)) (.ite (decide ((((((readI ([] : List Int))).2).2).2).1 = (((m).2).2).1)) (.need true (.need true (.ret (rB (decide ((((((readI ([] : List Int))).2).2).2).2 = (((m).2).2).2)), ⟨0, [], []⟩)))) (.ret (rB false, ⟨0, [], []⟩)))))) (.ret (rB false, ⟨0, [], []⟩))))) (.ret (rB false, ⟨0, [], []⟩))))) (.ret (rB false, ⟨0, [], []⟩))) (.ret (rB false, ⟨0, [], []⟩)))))))))))))))))) (.need true (.need (decide ((List.length ((m).1).2) ≤ 1000000)) (.ite ((pMay (m).1) != (0 : Int)) (.ite ((pMay (m).1) != (0 : Int)) (.ite ((0 : Int) == (pMay (m).1)) (.ret (rB ((((List.length (writeB m)) : Nat) : Int) == (0 : Int)), ⟨0, [], []⟩)) (.ret (rB false, ⟨0, [], []⟩))) (.need true (.need (decide ((List.length ((((m).2).1).2).1) ≤ 1000000)) (.ite (!(cMay ((m).2).1)) (.ite false (.ret (rB ((((List.length (writeB m)) : Nat) : Int) == (0 : Int)), ⟨0, [], []⟩)) (.ret (rB false, ⟨0, [], []⟩))) (.need true (.need true (.need (decide (((List.length ((((m).2).1).2).1) ≤ 1000000) ∧ ((List.length (((((m).2).2).1).2).2) ≤ 1000000))) (.ite (!(cHas ((m).2).1 (((m).2).2).1)) (.ite false (.ret (rB ((((List.length (writeB m)) : Nat) : Int) == (0 : Int)), ⟨0, [], []⟩)) (.ret (rB false, ⟨0, [], []⟩))) (.ite (decide ((1024 : Int) < (((List.length ((((m).2).2).2).1) : Nat) : Int))) (.ite false (.ret (rB ((((List.length (writeB m)) : Nat) : Int) == (0 : Int)), ⟨0, [], []⟩)) (.ret (rB false, ⟨0, [], []⟩))) (.ite (decide ((((((m).2).2).2).2).1 < (1 : Int))) (.ite false (.ret (rB ((((List.length (writeB m)) : Nat) : Int) == (0 : Int)), ⟨0, [], []⟩)) (.ret (rB false, ⟨0, [], []⟩))) (.ite (decide ((5 : Int) < (((((m).2).2).2).2).1)) (.ite false (.ret (rB ((((List.length (writeB m)) : Nat) : Int) == (0 : Int)), ⟨0, [], []⟩)) (.ret (rB false, ⟨0, [], []⟩))) (.need (decide (((u8s (writeB m)) = true) ∧ ((List.length (writeB m)) ≤ 1000000000))) (.ite true (.ite (((readI (writeB m))).1 == (0 : Int)) (.need true (.need true (.ite (decide ((((readI (writeB m))).2).1 = (m).1)) (.need true (.need true (.ite (decide (((((readI (writeB m))).2).2).1 = ((m).2).1)) (.need true (.need true (.need ((inpU (((((readI (writeB m))).2).2).2).1) && (inpU (((m).2).2).1)) (.ite (decide ((((((readI (writeB m))).2).2).2).1 = (((m).2).2).1)) (.need true (.need true (.ret (rB (decide ((((((readI (writeB m))).2).2).2).2 = (((m).2).2).2)), ⟨0, [], []⟩)))) (.ret (rB false, ⟨0, [], []⟩)))))) (.ret (rB false, ⟨0, [], []⟩))))) (.ret (rB false, ⟨0, [], []⟩))))) (.ret (rB false, ⟨0, [], []⟩))) (.ret (rB false, ⟨0, [], []⟩))))))))))))))) (.ite false (.ite true (.ret (rB ((((List.length (writeB m)) : Nat) : Int) == (0 : Int)), ⟨0, [], []⟩)) (.ret (rB false, ⟨0, [], []⟩))) (.need true (.need (decide ((List.length ((((m).2).1).2).1) ≤ 1000000)) (.ite (!(cMay ((m).2).1)) (.ite false (.ret (rB ((((List.length (writeB m)) : Nat) : Int) == (0 : Int)), ⟨0, [], []⟩)) (.ret (rB false, ⟨0, [], []⟩))) (.need true (.need true (.need (decide (((List.length ((((m).2).1).2).1) ≤ 1000000) ∧ ((List.length (((((m).2).2).1).2).2) ≤ 1000000))) (.ite (!(cHas ((m).2).1 (((m).2).2).1)) (.ite false (.ret (rB ((((List.length (writeB m)) : Nat) : Int) == (0 : Int)), ⟨0, [], []⟩)) (.ret (rB false, ⟨0, [], []⟩))) (.ite (decide ((1024 : Int) < (((List.length ((((m).2).2).2).1) : Nat) : Int))) (.ite false (.ret (rB ((((List.length (writeB m)) : Nat) : Int) == (0 : Int)), ⟨0, [], []⟩)) (.ret (rB false, ⟨0, [], []⟩))) (.ite (decide ((((((m).2).2).2).2).1 < (1 : Int))) (.ite false (.ret (rB ((((List.length (writeB m)) : Nat) : Int) == (0 : Int)), ⟨0, [], []⟩)) (.ret (rB false, ⟨0, [], []⟩))) (.ite (decide ((5 : Int) < (((((m).2).2).2).2).1)) (.ite false (.ret (rB ((((List.length (writeB m)) : Nat) : Int) == (0 : Int)), ⟨0, [], []⟩)) (.ret (rB false, ⟨0, [], []⟩))) (.need (decide (((u8s (writeB m)) = true) ∧ ((List.length (writeB m)) ≤ 1000000000))) (.ite true (.ite (((readI (writeB m))).1 == (0 : Int)) (.need true (.need true (.ite (decide ((((readI (writeB m))).2).1 = (m).1)) (.need true (.need true (.ite (decide (((((readI (writeB m))).2).2).1 = ((m).2).1)) (.need true (.need true (.need ((inpU (((((readI (writeB m))).2).2).2).1) && (inpU (((m).2).2).1)) (.ite (decide ((((((readI (writeB m))).2).2).2).1 = (((m).2).2).1)) (.need true (.need true (.ret (rB (decide ((((((readI (writeB m))).2).2).2).2 = (((m).2).2).2)), ⟨0, [], []⟩)))) (.ret (rB false, ⟨0, [], []⟩)))))) (.ret (rB false, ⟨0, [], []⟩))))) (.ret (rB false, ⟨0, [], []⟩))))) (.ret (rB false, ⟨0, [], []⟩))) (.ret (rB false, ⟨0, [], []⟩)))))))))))))))))))))))))) (by kernel_rfl) ?_
  show Gives _ (.need (imgR m) (.ret (rB true, St.nil)))
  refine .rneed fun hu => ?_
  simp only [imgR, Bool.and_eq_true] at hu
  obtain ⟨ua, ra⟩ := hu
  refine .ff rfl (.need rfl (.ite (fun h => .refl _) (fun h => ?_)))
  have hs : smallR m = true := by rw [← Bool.not_eq_false']; exact h
  clear h
  have hN : m.1.2.length ≤ 1000000 := by
    unfold smallR small10 at hs; simp only [Bool.and_eq_true, decide_eq_true_eq] at hs; omega
  have hA : m.2.1.2.1.length ≤ 1000000 := by
    unfold smallR small17 at hs; simp only [Bool.and_eq_true, decide_eq_true_eq] at hs; omega
  have hF : m.2.2.1.2.2.length ≤ 1000000 := by
    unfold smallR small16 at hs; simp only [Bool.and_eq_true, decide_eq_true_eq, Bool.not_eq_true', decide_eq_false_iff_not] at hs; omega
  clear hs
  refine .need rfl (.need rfl (.need rfl (.need rfl (.ite (fun h => ?_) (fun h => ?_)))))
  · have hne : writeE m ≠ 0 := bne_iff_ne.1 h
    clear h
    refine .need rfl (.nd hN (.ite (fun h => ?_) (fun h => ?_)))
    · have he : writeE m = pMay m.1 := by unfold writeE; rw [if_pos (bne_iff_ne.1 h)]
      exact .tt h (.tt (by rw [he]; exact beq_self_eq_true _) (.refl _))
    have h1 : pMay m.1 = 0 := bne_eq_false_iff_eq.1 h
    clear h
    refine .ff rfl (.need rfl (.nd hA (.ite (fun h => ?_) (fun h => ?_))))
    · have h : cMay m.2.1 = false := by rw [← Bool.not_eq_true']; exact h
      have he : writeE m = 11 := by unfold writeE; rw [if_neg (by simpa using h1), if_pos h]
      exact .tt (by rw [he]; rfl) (.refl _)
    have h2 : cMay m.2.1 = true := by rw [← Bool.not_eq_false']; exact h
    clear h
    refine .need rfl (.need rfl (.nd ⟨hA, hF⟩ (.ite (fun h => ?_) (fun h => ?_))))
    · have h : cHas m.2.1 m.2.2.1 = false := by rw [← Bool.not_eq_true']; exact h
      have he : writeE m = 12 := by unfold writeE; rw [if_neg (by simpa using h1), if_neg (by rw [h2]; simp), if_pos h]
      exact .tt (by rw [he]; rfl) (.refl _)
    have h3 : cHas m.2.1 m.2.2.1 = true := by rw [← Bool.not_eq_false']; exact h
    clear h
    have bad : traceBad m.2.2.2 = true → writeE m = 4 := fun hb => by
      unfold writeE; rw [if_neg (by simpa using h1), if_neg (by rw [h2]; simp), if_neg (by rw [h3]; simp), if_pos hb]
    refine .if_ (fun h => ?_) (fun h => ?_)
    · have he := bad (by unfold traceBad; rw [decide_eq_true (show 1024 < m.2.2.2.1.length by omega)]; rfl)
      exact .tt (by rw [he]; rfl) (.refl _)
    refine .if_ (fun h' => ?_) (fun h' => ?_)
    · have he := bad (by unfold traceBad; rw [decide_eq_true h']; simp)
      exact .tt (by rw [he]; rfl) (.refl _)
    refine .if_ (fun h'' => ?_) (fun h'' => ?_)
    · have he := bad (by unfold traceBad; rw [decide_eq_true h'']; simp)
      exact .tt (by rw [he]; rfl) (.refl _)
    exfalso
    have h4 : traceBad m.2.2.2 = false := by unfold traceBad; rw [decide_eq_false (show ¬ 1024 < m.2.2.2.1.length by omega), decide_eq_false h', decide_eq_false h'']; rfl
    refine hne ?_
    unfold writeE
    rw [if_neg (by simpa using h1), if_neg (by rw [h2]; simp), if_neg (by rw [h3]; simp), if_neg (by rw [h4]; simp)]
    exact tMay_img h1 h3 h4
  · have hw : writeE m = 0 := bne_eq_false_iff_eq.1 h
    clear h
    obtain ⟨h1, h2, h3, h4, -⟩ := writeE_f hw
    have hu8 := writeB_u8 ua
    have hl := writeB_len hw
    have hr := readI_round hw ra
    have hin : (inpU m.2.2.1 && inpU m.2.2.1) = true := by
      rw [Bool.and_eq_true]; exact ⟨ua, ua⟩
    simp only [traceBad, Bool.or_eq_false_iff, decide_eq_false_iff_not] at h4
    obtain ⟨⟨h5, h6⟩, h7⟩ := h4
    generalize writeB m = B at hu8 hl hr ⊢
    rw [hr]
    have hp0 : (pMay m.1 != 0) = false := by rw [h1]; rfl
    refine .need rfl (.nd hN (.ff hp0 (.ff rfl (.need rfl (.nd hA (.ff (by rw [h2]; rfl) (.need rfl (.need rfl (.nd ⟨hA, hF⟩ (.ff (by rw [h3]; rfl) (.ff (decide_eq_false (by omega)) (.ff (decide_eq_false h6) (.ff (decide_eq_false h7) ?_)))))))))))))
    refine .nd ⟨hu8, by omega⟩ (.tt rfl (.tt rfl (.need rfl (.need rfl (.tt (decide_eq_true rfl) (.need rfl (.need rfl (.tt (decide_eq_true rfl) (.need rfl (.need rfl (.need hin (.tt (decide_eq_true rfl) (.need rfl (.need rfl ?_))))))))))))))
    rw [decide_eq_true rfl]
    exact .refl _
end Go.Proofs.YtdngaaploooceaaGreatDoor.Sy
