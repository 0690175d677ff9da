/- Contracts: classes, and whether they have an input. -/
import Derived.Test.YtjebfbkigkjboaaGreatDoorR4
set_option maxRecDepth 100000
namespace Go.Proofs.YtjebfbkigkjboaaGreatDoor.Sy
open Go.RowKit Kit Go.Proofs
abbrev Cls : Type := List Ent × List Int × Int × Int × Int
abbrev tInp : Ty := .pair (.sl tB) (.pair (.sl tB) (.sl .bool))
abbrev Inp : Type := List (List Int) × List (List Int) × List Bool
def filesCtr : Ctr := ctr (one (aAgg tCls)) fun a => .need (decide (a.1.1.length ≤ 1000000)) (ans (rL tI (filesK 0 a.1.1)))

/-! ### class.Caps -/
/-- the caps of the files -/
def capsF : List Ent → List Int
  | [] => []
  | x :: r => if x.2.1 then capsF r else x.2.2 :: capsF r
noncomputable def fn40 := mkFn Tryz.f24
def C40 : Cx := ⟨T, [], [(21, filesCtr)], [], [FA]⟩
theorem C40_ok : CxOk Tryz.prog C40 := ⟨T_ok, .nil _, .cons files_ok (.nil _), .nil _⟩
def nr40 : List NR := [⟨3, tI, 3⟩]
def q40 : Frm := ⟨27, [(1, .ptr tCls), (3, .row 3), (7, .dat (.sl tI)), (8, .dat tI), (9, .dat tI)], [(3, .row tI 3)]⟩
def capsAt (t : List Ent) (l : List Int) : List Int := l.map fun i => (t.getD i.toNat (ByteArray.empty, false, 0)).2.2
def idxIn (n : Nat) (L : List Int) : Bool := L.all fun i => decide (0 ≤ i ∧ i < n)
def R40 : q40.V → Tr (Ex × St) := fun (((c : Cls), _, (L : List Int), (n : Int), (k : Int), _), (acc : List Int), _) =>
  .need (decide (n = L.length ∧ n ≤ 1000000 ∧ 0 ≤ k ∧ k ≤ n ∧ acc.length ≤ k ∧ idxIn c.1.length L = true)) (.ret (.ex 0, ⟨27, [(1, .e (.c (.dp (split tCls c)))), (3, .e (.c (.row 3)))], [(3, .row tI 3 (acc ++ capsAt c.1 (L.drop k.toNat)))]⟩))
def lp40 : LP := [(0, sumP q40 R40)]
theorem lp40_ok : LpsOk 0 C40 nr40 lp40 fn40.loops := by
  refine .all (by kernel_rfl) ?_
  simp only [lp40, List.forall_mem_cons, List.not_mem_nil, false_imp_iff, implies_true, and_true]
  refine .pat q40 R40 (fun v => (v.1.2.2.2.1 - v.1.2.2.2.2.1).toNat) ?_
  rintro ⟨⟨⟨(t : List Ent), (ar : List Int), (c1 : Int), (c2 : Int), (c3 : Int)⟩, ⟨⟩, (L : List Int), (n : Int), (k : Int), ⟨⟩⟩, ⟨(acc : List Int), ⟨⟩⟩⟩ ih
  refine Gives.run (t' := .ite (decide (k < n)) (.need (inR k (List.length L)) (.need (inR (List.getD L (Int.toNat k) (0 : Int)) (List.length t)) (.need true (.need (decide ((((List.length acc) + (List.length [(((List.getD t (Int.toNat (List.getD L (Int.toNat k) (0 : Int))) (ByteArray.empty, (false, (0 : Int))))).2).2]) : Nat) * (Lay.bytes L3) : Nat) ≤ 140737488355328)) (.need (decide (((-(9223372036854775808 : Int) : Int) ≤ (k + (1 : Int) : Int)) ∧ ((k + (1 : Int) : Int) ≤ (9223372036854775807 : Int)))) (.ret (.nx, ⟨27, [(1, .e (.c (.dp [.sl tEnt t, .sl tI ar, .v (.int .i64 c1), .v (.int .i64 c2), .v (.int .i64 c3)]))), (3, .e (.c (.row 21))), (7, rL tI L), (8, rI n), (9, rI (k + (1 : Int) : Int))], [(21, .row tI 3 (acc ++ [(((List.getD t (Int.toNat (List.getD L (Int.toNat k) (0 : Int))) (ByteArray.empty, (false, (0 : Int))))).2).2]))]⟩))))))) (.ret (.ex 0, ⟨27, [(1, .e (.c (.dp [.sl tEnt t, .sl tI ar, .v (.int .i64 c1), .v (.int .i64 c2), .v (.int .i64 c3)]))), (3, .e (.c (.row 3)))], [(3, .row tI 3 acc)]⟩))) (by kernel_rfl) ?_
  refine .rnd fun ⟨h1, h2, h3, h4, h5, h6⟩ => ?_
  have h6 : idxIn t.length L = true := h6
  refine .lif (fun hk => ?_) (fun hk => ?_)
  · have e : (k + 1).toNat = k.toNat + 1 := by omega
    have hi := List.all_eq_true.1 h6 _ (List.getElem_mem (show k.toNat < L.length by omega))
    have hg : L.getD k.toNat 0 = L[k.toNat]'(by omega) := by simp [List.getD_eq_getElem?_getD, List.getElem?_eq_getElem (show k.toNat < L.length by omega)]
    rw [← hg] at hi
    rw [drop_at L k.toNat 0 (by omega)]
    refine .lneed (inR_of h3 (by omega)) ?_
    generalize L.getD k.toNat 0 = x at hi ⊢
    have hi := of_decide_eq_true hi
    refine .lneed (inR_of hi.1 (by have := hi.2; omega)) (.lneed rfl (.lnd (by show (acc.length + 1) * 8 ≤ _; omega) (.lnd (by omega) ?_)))
    refine Gives.next (σ' := q40.st (((t, ar, c1, c2, c3), (), L, n, k + 1, ()), (acc ++ [(t.getD x.toNat (ByteArray.empty, false, 0)).2.2], ()))) (by kernel_rfl) ((ih (((t, ar, c1, c2, c3), (), L, n, k + 1, ()), (acc ++ [(t.getD x.toNat (ByteArray.empty, false, 0)).2.2], ())) (by simp only; omega)).trans ?_)
    refine .nd ⟨h1, h2, by omega, by omega, by rw [List.length_append]; simp; omega, h6⟩ ?_
    rw [e, List.append_assoc]; exact .refl _
  · rw [List.drop_eq_nil_of_le (by omega)]
    simp only [capsAt, List.map_nil, List.append_nil]
    exact .refl _
theorem filesK_at : ∀ (t : List Ent) (k : Int), 0 ≤ k → ∀ i ∈ filesK k t, k ≤ i ∧ i < k + t.length
  | [], _, _, i, h => by cases h
  | x :: r, k, hk, i, h => by
    rw [filesK] at h
    have ih := filesK_at r (k + 1) (by omega) i
    simp only [List.length_cons]
    split at h
    · have := ih h; omega
    · rcases List.mem_cons.1 h with h | h
      · omega
      · have := ih h; omega
theorem filesK_len : ∀ (t : List Ent) (k : Int), (filesK k t).length ≤ t.length
  | [], _ => Nat.le_refl _
  | x :: r, k => by
    rw [filesK]
    have ih := filesK_len r (k + 1)
    split <;> simp only [List.length_cons] <;> omega
theorem capsAt_files (p : List Ent) : ∀ (t : List Ent), capsAt (p ++ t) (filesK p.length t) = capsF t
  | [] => rfl
  | x :: r => by
    have ih := capsAt_files (p ++ [x]) r
    rw [List.append_assoc, List.singleton_append, List.length_append] at ih
    simp only [List.length_cons, List.length_nil] at ih
    rw [filesK, capsF]
    split
    · exact ih
    · simp only [capsAt, List.map_cons]
      congr 1
      simp [List.getD_eq_getElem?_getD]
def capsC (c : Cls) : List Int := capsF c.1 ++ c.2.1
def capsCtr : Ctr := ctr (one (aAgg tCls)) fun a => .need (decide (a.1.1.length ≤ 1000000 ∧ a.1.2.1.length ≤ 1000000)) (ans (rL tI (capsC a.1)))
theorem caps_ok : CtrOk Tryz.prog 24 capsCtr := by
  refine .mk C40_ok mixed (q := fn40) (.of Tryz.func24 (by kernel_rfl)) lp40_ok (by decide) ?_
  rintro ⟨⟨(t : List Ent), (ar : List Int), (c1 : Int), (c2 : Int), (c3 : Int)⟩, ⟨⟩⟩ -
  refine Gives.of_eq (t' := .need true (.need (decide ((List.length t) ≤ 1000000)) (.need (decide (((((List.length (filesK (0 : Int) t)) : Nat) : Int) = (((List.length (filesK (0 : Int) t)) : Nat) : Int)) ∧ (((((List.length (filesK (0 : Int) t)) : Nat) : Int) ≤ (1000000 : Int)) ∧ (((0 : Int) ≤ (0 : Int)) ∧ (((0 : Int) ≤ (((List.length (filesK (0 : Int) t)) : Nat) : Int)) ∧ (((((List.length ([] : List Int)) : Nat) : Int) ≤ (0 : Int)) ∧ ((idxIn (List.length t) (filesK (0 : Int) t)) = true))))))) (.need true (.need (decide ((((List.length (([] : List Int) ++ (capsAt t (List.drop 0 (filesK (0 : Int) t))))) + (List.length ar) : Nat) * (Lay.bytes L3) : Nat) ≤ 140737488355328)) (.ret (rL tI ((([] : List Int) ++ (capsAt t (List.drop 0 (filesK (0 : Int) t)))) ++ ar), ⟨0, [], []⟩))))))) (by kernel_rfl) ?_
  show Gives _ (.need _ (.ret (rL tI (capsF t ++ ar), (⟨0, [], []⟩ : St))))
  refine .rnd fun ⟨h1, h2⟩ => ?_
  have h1 : t.length ≤ 1000000 := h1
  have h2 : ar.length ≤ 1000000 := h2
  have hf := filesK_len t 0
  have ha : capsAt t (filesK 0 t) = capsF t := capsAt_files [] t
  have hl : (capsF t).length ≤ t.length := by rw [← ha]; simpa [capsAt] using hf
  have hi : idxIn t.length (filesK 0 t) = true := List.all_eq_true.2 fun i hi => decide_eq_true (by have := filesK_at t 0 (by omega) i hi; omega)
  refine .need rfl (.nd h1 (.nd ⟨rfl, by omega, by omega, by omega, by simp, hi⟩ (.need rfl ?_)))
  rw [List.drop_zero, List.nil_append, ha]
  exact .nd (by show ((capsF t).length + ar.length) * 8 ≤ _; omega) (.refl _)

/-! ### class.May -/
def entOk (x : Ent) : Bool := decide (0 ≤ x.2.2) && decide (x.2.2 ≤ 3) && !(x.2.1 && x.2.2 != 0)
def capOk (n : Int) : Bool := decide (0 ≤ n) && decide (n ≤ 3)
def cMay (c : Cls) : Bool :=
  treeOk c.1 && decide ((filesK 0 c.1).length ≤ 4) && decide (c.2.1.length ≤ 2) && c.1.all entOk && c.2.1.all capOk &&
    (decide (0 ≤ c.2.2.1) && decide (c.2.2.1 ≤ 6)) && (decide (0 ≤ c.2.2.2.1) && decide (c.2.2.2.1 ≤ c.2.2.1)) && (decide (0 ≤ c.2.2.2.2) && decide (c.2.2.2.2 ≤ 400))
noncomputable def fn21 := mkFn Tryz.f9
def fitsCtr : Ctr := ctr (two aI aI) fun a => ans (rB (decide (0 ≤ a.1) && decide (a.1 ≤ a.2.1)))
noncomputable def C21 : Cx := ⟨T, FL, [(21, filesCtr), (20, newCtr), (22, fitsCtr)], [], []⟩
theorem C21_ok : CxOk Tryz.prog C21 := ⟨T_ok, FL_ok, .cons files_ok (.cons new_ok (.cons fits_ok (.nil _))), .nil _⟩
def q21a : Frm := ⟨76, [(1, .ptr tCls), (30, .dat (.sl tEnt)), (31, .dat tI), (32, .dat tI)], []⟩
def R21a : q21a.V → Tr (Ex × St) := fun (((c : Cls), (L : List Ent), (n : Int), (k : Int), _), _) =>
  .need (decide (n = L.length ∧ n ≤ 9223372036854775807 ∧ 0 ≤ k ∧ k ≤ n)) (.ite ((L.drop k.toNat).all entOk) (.ret (.ex 0, ⟨76, [(1, .e (.c (.dp (split tCls c))))], []⟩)) (.ret (.rt, ⟨76, [(2, .e (.c (.kb false)))], []⟩)))
def q21b : Frm := ⟨76, [(1, .ptr tCls), (51, .dat (.sl tI)), (52, .dat tI), (53, .dat tI)], []⟩
def R21b : q21b.V → Tr (Ex × St) := fun (((c : Cls), (L : List Int), (n : Int), (k : Int), _), _) =>
  .need (decide (n = L.length ∧ n ≤ 9223372036854775807 ∧ 0 ≤ k ∧ k ≤ n)) (.ite ((L.drop k.toNat).all capOk) (.ret (.ex 2, ⟨76, [(1, .e (.c (.dp (split tCls c))))], []⟩)) (.ret (.rt, ⟨76, [(2, .e (.c (.kb false)))], []⟩)))
noncomputable def lp21 : LP := [(0, sumP q21a R21a), (2, sumP q21b R21b)]
theorem lp21_ok : LpsOk 0 C21 [] lp21 fn21.loops := by
  refine .all (by kernel_rfl) ?_
  simp only [lp21, List.forall_mem_cons, List.not_mem_nil, false_imp_iff, implies_true, and_true]
  constructor
  · refine .pat q21a R21a (fun v => (v.1.2.2.1 - v.1.2.2.2.1).toNat) ?_
    rintro ⟨⟨⟨(t : List Ent), (ar : List Int), (c1 : Int), (c2 : Int), (c3 : Int)⟩, (L : List Ent), (n : Int), (k : Int), ⟨⟩⟩, ⟨⟩⟩ ih
    refine Gives.run (t' := .ite (decide (k < n)) (.need (inR k (List.length L)) (.need true (.ite (!((decide ((0 : Int) ≤ (((List.getD L (Int.toNat k) (ByteArray.empty, (false, (0 : Int))))).2).2)) && (decide ((((List.getD L (Int.toNat k) (ByteArray.empty, (false, (0 : Int))))).2).2 ≤ (3 : Int))))) (.ret (.rt, ⟨76, [(2, .e (.c (.kb false)))], []⟩)) (.ite (((List.getD L (Int.toNat k) (ByteArray.empty, (false, (0 : Int))))).2).1 (.ite ((((List.getD L (Int.toNat k) (ByteArray.empty, (false, (0 : Int))))).2).2 != (0 : Int)) (.ret (.rt, ⟨76, [(2, .e (.c (.kb false)))], []⟩)) (.need (decide (((-(9223372036854775808 : Int) : Int) ≤ (k + (1 : Int) : Int)) ∧ ((k + (1 : Int) : Int) ≤ (9223372036854775807 : Int)))) (.ret (.nx, ⟨76, [(1, .e (.c (.dp [.sl tEnt t, .sl tI ar, .v (.int .i64 c1), .v (.int .i64 c2), .v (.int .i64 c3)]))), (30, rL tEnt L), (31, rI n), (32, rI (k + (1 : Int) : Int))], [(6, .cells 84 [.d (.v (.string ((List.getD L (Int.toNat k) (ByteArray.empty, (false, (0 : Int))))).1)), .d (.v (.bool (((List.getD L (Int.toNat k) (ByteArray.empty, (false, (0 : Int))))).2).1)), .d (.v (.int .i64 (((List.getD L (Int.toNat k) (ByteArray.empty, (false, (0 : Int))))).2).2))])]⟩)))) (.need (decide (((-(9223372036854775808 : Int) : Int) ≤ (k + (1 : Int) : Int)) ∧ ((k + (1 : Int) : Int) ≤ (9223372036854775807 : Int)))) (.ret (.nx, ⟨76, [(1, .e (.c (.dp [.sl tEnt t, .sl tI ar, .v (.int .i64 c1), .v (.int .i64 c2), .v (.int .i64 c3)]))), (30, rL tEnt L), (31, rI n), (32, rI (k + (1 : Int) : Int))], [(6, .cells 84 [.d (.v (.string ((List.getD L (Int.toNat k) (ByteArray.empty, (false, (0 : Int))))).1)), .d (.v (.bool (((List.getD L (Int.toNat k) (ByteArray.empty, (false, (0 : Int))))).2).1)), .d (.v (.int .i64 (((List.getD L (Int.toNat k) (ByteArray.empty, (false, (0 : Int))))).2).2))])]⟩))))))) (.ret (.ex 0, ⟨76, [(1, .e (.c (.dp [.sl tEnt t, .sl tI ar, .v (.int .i64 c1), .v (.int .i64 c2), .v (.int .i64 c3)])))], []⟩))) (by kernel_rfl) ?_
    refine .rnd fun ⟨h1, h2, h3, h4⟩ => ?_
    refine .lif (fun hk => ?_) (fun hk => ?_)
    · have e : (k + 1).toNat = k.toNat + 1 := by omega
      rw [drop_at L k.toNat (ByteArray.empty, false, 0) (by omega)]
      refine .lneed (inR_of h3 (by omega)) (.lneed rfl ?_)
      generalize L.getD k.toNat (ByteArray.empty, false, 0) = x
      obtain ⟨p, d, c⟩ := x
      have last : ∀ σ, (fn21.at 0).h [] σ = q21a.st (((t, ar, c1, c2, c3), L, n, k + 1, ()), ()) → entOk (p, d, c) = true → Gives ((Tr.need (decide (((-9223372036854775808 : Int) ≤ k + 1) ∧ (k + 1 ≤ (9223372036854775807 : Int)))) (.ret (Ex.nx, σ))).bind (again (n - k).toNat ((fn21.at 0).f 0 C21 [] lp21) ((fn21.at 0).h [])))
          (.ite (((p, d, c) :: L.drop (k.toNat + 1)).all entOk) (.ret (.ex 0, ⟨76, [(1, .e (.c (.dp (split tCls (t, ar, c1, c2, c3)))))], []⟩)) (.ret (.rt, ⟨76, [(2, .e (.c (.kb false)))], []⟩))) := fun σ hσ hx => by
        refine .lnd (by omega) (Gives.next hσ ((ih (((t, ar, c1, c2, c3), L, n, k + 1, ()), ()) (by simp only; omega)).trans ?_))
        refine .nd ⟨h1, h2, by omega, by omega⟩ ?_
        rw [e]; exact .rb (all_t hx) (.refl _)
      refine .lite (fun hx => ?_) (fun hx => ?_)
      · have hx : (decide (0 ≤ c) && decide (c ≤ 3)) = false := by rw [← Bool.not_eq_true']; exact hx
        exact .rff (all_f (by unfold entOk; rw [hx]; rfl)) (.refl _)
      have hxx : (decide (0 ≤ c) && decide (c ≤ 3)) = true := by rw [← Bool.not_eq_false']; exact hx
      refine .lite (fun hd => ?_) (fun hd => ?_)
      · have hd : d = true := hd
        subst hd
        refine .lite (fun hc => ?_) (fun hc => ?_)
        · exact .rff (all_f (by unfold entOk; rw [hxx, show (c != 0) = true from hc]; rfl)) (.refl _)
        · exact last _ (by kernel_rfl) (by unfold entOk; rw [hxx, show (c != 0) = false from hc]; rfl)
      · have hd : d = false := hd
        subst hd
        exact last _ (by kernel_rfl) (by unfold entOk; rw [hxx]; rfl)
    · rw [List.drop_eq_nil_of_le (by omega)]
      exact .rtt rfl (.refl _)
  · refine .pat q21b R21b (fun v => (v.1.2.2.1 - v.1.2.2.2.1).toNat) ?_
    rintro ⟨⟨⟨(t : List Ent), (ar : List Int), (c1 : Int), (c2 : Int), (c3 : Int)⟩, (L : List Int), (n : Int), (k : Int), ⟨⟩⟩, ⟨⟩⟩ ih
    refine Gives.run (t' := .ite (decide (k < n)) (.need (inR k (List.length L)) (.ite (!((decide ((0 : Int) ≤ (List.getD L (Int.toNat k) (0 : Int)))) && (decide ((List.getD L (Int.toNat k) (0 : Int)) ≤ (3 : Int))))) (.ret (.rt, ⟨76, [(2, .e (.c (.kb false)))], []⟩)) (.need (decide (((-(9223372036854775808 : Int) : Int) ≤ (k + (1 : Int) : Int)) ∧ ((k + (1 : Int) : Int) ≤ (9223372036854775807 : Int)))) (.ret (.nx, ⟨76, [(1, .e (.c (.dp [.sl tEnt t, .sl tI ar, .v (.int .i64 c1), .v (.int .i64 c2), .v (.int .i64 c3)]))), (51, rL tI L), (52, rI n), (53, rI (k + (1 : Int) : Int))], []⟩))))) (.ret (.ex 2, ⟨76, [(1, .e (.c (.dp [.sl tEnt t, .sl tI ar, .v (.int .i64 c1), .v (.int .i64 c2), .v (.int .i64 c3)])))], []⟩))) (by kernel_rfl) ?_
    refine .rnd fun ⟨h1, h2, h3, h4⟩ => ?_
    refine .lif (fun hk => ?_) (fun hk => ?_)
    · have e : (k + 1).toNat = k.toNat + 1 := by omega
      rw [drop_at L k.toNat 0 (by omega)]
      refine .lneed (inR_of h3 (by omega)) ?_
      generalize L.getD k.toNat 0 = x
      refine .lite (fun hx => ?_) (fun hx => ?_)
      · exact .rff (all_f (by rw [← Bool.not_eq_true']; exact hx)) (.refl _)
      · refine .rb (all_t (by rw [← Bool.not_eq_false']; exact hx)) (.lnd (by omega) ?_)
        refine Gives.next (σ' := q21b.st (((t, ar, c1, c2, c3), L, n, k + 1, ()), ())) (by kernel_rfl) ((ih (((t, ar, c1, c2, c3), L, n, k + 1, ()), ()) (by simp only; omega)).trans ?_)
        refine .nd ⟨h1, h2, by omega, by omega⟩ ?_
        rw [e]; exact .refl _
    · rw [List.drop_eq_nil_of_le (by omega)]
      exact .rtt rfl (.refl _)
def cMayCtr : Ctr := ctr (one (aAgg tCls)) fun a => ans (rB (cMay a.1))
theorem cMay_ok : CtrOk Tryz.prog 9 cMayCtr := by
  refine .mk C21_ok mixed (q := fn21) (.of Tryz.func9 (by kernel_rfl)) lp21_ok (by decide) ?_
  rintro ⟨⟨(t : List Ent), (ar : List Int), (c1 : Int), (c2 : Int), (c3 : Int)⟩, ⟨⟩⟩ hb
  refine Gives.of_eq (t' := .ite ((treeErr t) != (0 : Int)) (.ret (rB false, ⟨0, [], []⟩)) (.need true (.need (decide ((List.length t) ≤ 1000000)) (.ite (decide ((4 : Int) < (((List.length (filesK (0 : Int) t)) : Nat) : Int))) (.ret (rB false, ⟨0, [], []⟩)) (.ite (decide ((2 : Int) < (((List.length ar) : Nat) : Int))) (.ret (rB false, ⟨0, [], []⟩)) (.need (decide (((((List.length t) : Nat) : Int) = (((List.length t) : Nat) : Int)) ∧ (((((List.length t) : Nat) : Int) ≤ (9223372036854775807 : Int)) ∧ (((0 : Int) ≤ (0 : Int)) ∧ ((0 : Int) ≤ (((List.length t) : Nat) : Int)))))) (.ite (List.all (List.drop 0 t) entOk) (.need (decide (((((List.length ar) : Nat) : Int) = (((List.length ar) : Nat) : Int)) ∧ (((((List.length ar) : Nat) : Int) ≤ (9223372036854775807 : Int)) ∧ (((0 : Int) ≤ (0 : Int)) ∧ ((0 : Int) ≤ (((List.length ar) : Nat) : Int)))))) (.ite (List.all (List.drop 0 ar) capOk) (.ite ((decide ((0 : Int) ≤ c1)) && (decide (c1 ≤ (6 : Int)))) (.ite ((decide ((0 : Int) ≤ c2)) && (decide (c2 ≤ c1))) (.ret (rB ((decide ((0 : Int) ≤ c3)) && (decide (c3 ≤ (400 : Int)))), ⟨0, [], []⟩)) (.ret (rB false, ⟨0, [], []⟩))) (.ret (rB false, ⟨0, [], []⟩))) (.ret (rB false, ⟨0, [], []⟩)))) (.ret (rB false, ⟨0, [], []⟩))))))))) (by kernel_rfl) ?_
  have hba : ar.length ≤ 9223372036854775807 := hb.1.2.1.1
  show Gives _ (.ret (rB (cMay (t, ar, c1, c2, c3)), (⟨0, [], []⟩ : St)))
  unfold cMay treeErr
  simp only [List.drop_zero]
  cases ht : treeOk t with
  | false => exact .tt rfl (.refl _)
  | true =>
    have ht8 : t.length ≤ 8 := by simp only [treeOk, Bool.and_eq_true, decide_eq_true_eq] at ht; exact ht.1
    have hf := filesK_len t 0
    refine .ff rfl (.need rfl (.nd (by omega) (.if_ (fun h => ?_) (fun h => ?_))))
    · rw [decide_eq_false (show ¬ (filesK 0 t).length ≤ 4 by omega)]; exact .refl _
    rw [decide_eq_true (show (filesK 0 t).length ≤ 4 by omega)]
    refine .if_ (fun h => ?_) (fun h => ?_)
    · rw [decide_eq_false (show ¬ ar.length ≤ 2 by omega)]; exact .refl _
    rw [decide_eq_true (show ar.length ≤ 2 by omega)]
    refine .nd ⟨trivial, by omega, by omega, by omega⟩ (.ite (fun h => ?_) (fun h => ?_))
    · rw [h]
      refine .nd ⟨trivial, by omega, by omega, by omega⟩ (.ite (fun h => ?_) (fun h => ?_))
      · rw [h]
        refine .ite (fun h => ?_) (fun h => ?_)
        · rw [h]
          refine .ite (fun h => ?_) (fun h => ?_)
          · rw [h]; exact .refl _
          · rw [h]; exact .refl _
        · rw [h]; exact .refl _
      · rw [h]; exact .refl _
    · rw [h]; exact .refl _

/-! ### class.Has -/
def fitL : List Int → List (List Int) → Bool
  | c :: cs, t :: ts => decide ((t.length : Int) ≤ c) && fitL cs ts
  | _, _ => true
def fMay (l : List Bool) (calls most : Int) : Bool := decide (((l.length : Nat) : Int) = calls) && decide (calls ≤ 6) && decide (trues l ≤ most)
def cHas (c : Cls) (i : Inp) : Bool :=
  cMay c && decide (i.1.length = (filesK 0 c.1).length) && decide (i.2.1.length = c.2.1.length) && fMay i.2.2 c.2.2.1 c.2.2.2.1 && fitL (capsC c) (i.1 ++ i.2.1)
noncomputable def fn22 := mkFn Tryz.f10
def fMayCtr : Ctr := ctr (three (aVal (.sl .bool)) aI aI) fun a => ans (rB (fMay a.1 a.2.1 a.2.2.1))
noncomputable def C22 : Cx := ⟨T, FL, [(21, filesCtr), (9, cMayCtr), (24, capsCtr), (23, fMayCtr)], [], []⟩
theorem C22_ok : CxOk Tryz.prog C22 := ⟨T_ok, FL_ok, .cons files_ok (.cons cMay_ok (.cons caps_ok (.cons fmay_ok (.nil _)))), .nil _⟩
def q22 : Frm := ⟨79, [(3, .ptr tInp), (5, .dat tI), (41, .dat (.sl tI)), (42, .dat tI), (43, .dat tI)], []⟩
def R22 : q22.V → Tr (Ex × St) := fun (((i : Inp), (m : Int), (L : List Int), (n : Int), (k : Int), _), _) =>
  .need (decide (n = L.length ∧ n ≤ 1000000 ∧ 0 ≤ k ∧ k ≤ n ∧ m = i.1.length ∧ (L.length : Int) = i.1.length + i.2.1.length)) (.ite (fitL (L.drop k.toNat) ((i.1 ++ i.2.1).drop k.toNat)) (.ret (.ex 0, ⟨79, [], []⟩)) (.ret (.rt, ⟨79, [(4, .e (.c (.kb false)))], []⟩)))
def lp22 : LP := [(0, sumP q22 R22)]
theorem lp22_ok : LpsOk 0 C22 [] lp22 fn22.loops := by
  refine .all (by kernel_rfl) ?_
  simp only [lp22, List.forall_mem_cons, List.not_mem_nil, false_imp_iff, implies_true, and_true]
  refine .pat q22 R22 (fun v => (v.1.2.2.2.1 - v.1.2.2.2.2.1).toNat) ?_
  rintro ⟨⟨⟨(fs : List (List Int)), (ar : List (List Int)), (fl : List Bool)⟩, (m : Int), (L : List Int), (n : Int), (k : Int), ⟨⟩⟩, ⟨⟩⟩ ih
  refine Gives.run (t' := .ite (decide (k < n)) (.need (inR k (List.length L)) (.ite (decide (k < m)) (.need (inR k (List.length fs)) (.ite (decide ((List.getD L (Int.toNat k) (0 : Int)) < (((List.length (List.getD fs (Int.toNat k) ([] : List Int))) : Nat) : Int))) (.ret (.rt, ⟨79, [(4, .e (.c (.kb false)))], []⟩)) (.ite (decide (m ≤ k)) (.need (decide (((-(9223372036854775808 : Int) : Int) ≤ (k - m : Int)) ∧ ((k - m : Int) ≤ (9223372036854775807 : Int)))) (.need (inR (k - m : Int) (List.length ar)) (.ite (decide ((List.getD L (Int.toNat k) (0 : Int)) < (((List.length (List.getD ar (Int.toNat (k - m : Int)) ([] : List Int))) : Nat) : Int))) (.ret (.rt, ⟨79, [(4, .e (.c (.kb false)))], []⟩)) (.need (decide (((-(9223372036854775808 : Int) : Int) ≤ (k + (1 : Int) : Int)) ∧ ((k + (1 : Int) : Int) ≤ (9223372036854775807 : Int)))) (.ret (.nx, ⟨79, [(3, .e (.c (.dp [.sl tB fs, .sl tB ar, .sl Ty.bool fl]))), (5, rI m), (41, rL tI L), (42, rI n), (43, rI (k + (1 : Int) : Int))], []⟩)))))) (.need (decide (((-(9223372036854775808 : Int) : Int) ≤ (k + (1 : Int) : Int)) ∧ ((k + (1 : Int) : Int) ≤ (9223372036854775807 : Int)))) (.ret (.nx, ⟨79, [(3, .e (.c (.dp [.sl tB fs, .sl tB ar, .sl Ty.bool fl]))), (5, rI m), (41, rL tI L), (42, rI n), (43, rI (k + (1 : Int) : Int))], []⟩)))))) (.ite (decide (m ≤ k)) (.need (decide (((-(9223372036854775808 : Int) : Int) ≤ (k - m : Int)) ∧ ((k - m : Int) ≤ (9223372036854775807 : Int)))) (.need (inR (k - m : Int) (List.length ar)) (.ite (decide ((List.getD L (Int.toNat k) (0 : Int)) < (((List.length (List.getD ar (Int.toNat (k - m : Int)) ([] : List Int))) : Nat) : Int))) (.ret (.rt, ⟨79, [(4, .e (.c (.kb false)))], []⟩)) (.need (decide (((-(9223372036854775808 : Int) : Int) ≤ (k + (1 : Int) : Int)) ∧ ((k + (1 : Int) : Int) ≤ (9223372036854775807 : Int)))) (.ret (.nx, ⟨79, [(3, .e (.c (.dp [.sl tB fs, .sl tB ar, .sl Ty.bool fl]))), (5, rI m), (41, rL tI L), (42, rI n), (43, rI (k + (1 : Int) : Int))], []⟩)))))) (.need (decide (((-(9223372036854775808 : Int) : Int) ≤ (k + (1 : Int) : Int)) ∧ ((k + (1 : Int) : Int) ≤ (9223372036854775807 : Int)))) (.ret (.nx, ⟨79, [(3, .e (.c (.dp [.sl tB fs, .sl tB ar, .sl Ty.bool fl]))), (5, rI m), (41, rL tI L), (42, rI n), (43, rI (k + (1 : Int) : Int))], []⟩)))))) (.ret (.ex 0, ⟨79, [], []⟩))) (by kernel_rfl) ?_
  refine .rnd fun ⟨h1, h2, h3, h4, h5, h6⟩ => ?_
  have h5 : m = fs.length := h5
  have h6 : (L.length : Int) = fs.length + ar.length := h6
  show Gives _ (.ite (fitL (L.drop k.toNat) ((fs ++ ar).drop k.toNat)) _ _)
  refine .lif (fun hk => ?_) (fun hk => ?_)
  · have e : (k + 1).toNat = k.toNat + 1 := by omega
    rw [drop_at L k.toNat 0 (by omega), drop_at (fs ++ ar) k.toNat [] (by rw [List.length_append]; omega)]
    refine .lneed (inR_of h3 (by omega)) ?_
    have hgo : Gives ((Tr.need (decide (((-9223372036854775808 : Int) ≤ k + 1) ∧ (k + 1 ≤ (9223372036854775807 : Int)))) (.ret (Ex.nx, q22.st (((fs, ar, fl), m, L, n, k + 1, ()), ())))).bind (again (n - k).toNat ((fn22.at 0).f 0 C22 [] lp22) ((fn22.at 0).h [])))
        (.ite (fitL (L.drop (k.toNat + 1)) ((fs ++ ar).drop (k.toNat + 1))) (.ret (.ex 0, ⟨79, [], []⟩)) (.ret (.rt, ⟨79, [(4, .e (.c (.kb false)))], []⟩))) := by
      refine .lnd (by omega) (Gives.next (σ' := q22.st (((fs, ar, fl), m, L, n, k + 1, ()), ())) (by kernel_rfl) ((ih (((fs, ar, fl), m, L, n, k + 1, ()), ()) (by simp only; omega)).trans ?_))
      refine .nd ⟨h1, h2, by omega, by omega, h5, h6⟩ ?_
      rw [e]; exact .refl _
    have hgd : (fs ++ ar).getD k.toNat [] = if k < m then fs.getD k.toNat [] else ar.getD (k - m).toNat [] := by
      simp only [List.getD_eq_getElem?_getD]
      split
      · rw [List.getElem?_append_left (by omega)]
      · rw [List.getElem?_append_right (by omega), show k.toNat - fs.length = (k - m).toNat by omega]
    rw [fitL, hgd]
    refine .lif (fun hm => ?_) (fun hm => ?_)
    · rw [if_pos hm]
      refine .lneed (inR_of h3 (by omega)) (.lif (fun hx => ?_) (fun hx => ?_))
      · exact .rff (by rw [decide_eq_false (by omega)]; rfl) (.refl _)
      · refine .rb (by rw [decide_eq_true (by omega), Bool.true_and]) (.lif (fun hx => absurd hm (by omega)) (fun _ => hgo))
    · rw [if_neg hm]
      refine .lif (fun _ => ?_) (fun hx => absurd hm (by omega))
      refine .lnd (by omega) (.lneed (inR_of (by omega) (by omega)) (.lif (fun hx => ?_) (fun hx => ?_)))
      · exact .rff (by rw [decide_eq_false (by omega)]; rfl) (.refl _)
      · exact .rb (by rw [decide_eq_true (by omega), Bool.true_and]) hgo
  · rw [List.drop_eq_nil_of_le (by omega)]
    exact .rtt rfl (.refl _)
def cHasCtr : Ctr := ctr (two (aAgg tCls) (aAgg tInp)) fun a => .need (decide (a.1.1.length ≤ 1000000)) (ans (rB (cHas a.1 a.2.1)))
theorem cHas_ok : CtrOk Tryz.prog 10 cHasCtr := by
  refine .mk C22_ok mixed (q := fn22) (.of Tryz.func10 (by kernel_rfl)) lp22_ok (by decide) ?_
  rintro ⟨⟨(t : List Ent), (ar : List Int), (c1 : Int), (c2 : Int), (c3 : Int)⟩, ⟨(fs : List (List Int)), (as' : List (List Int)), (fl : List Bool)⟩, ⟨⟩⟩ hb
  refine Gives.of_eq (t' := .need true (.need (decide ((List.length t) ≤ 1000000)) (.need true (.ite (!(cMay (t, (ar, (c1, (c2, c3)))))) (.ret (rB false, ⟨0, [], []⟩)) (.ite ((((List.length fs) : Nat) : Int) != (((List.length (filesK (0 : Int) t)) : Nat) : Int)) (.ret (rB false, ⟨0, [], []⟩)) (.ite ((((List.length as') : Nat) : Int) != (((List.length ar) : Nat) : Int)) (.ret (rB false, ⟨0, [], []⟩)) (.ite (!(fMay fl c1 c2)) (.ret (rB false, ⟨0, [], []⟩)) (.need true (.need (decide (((List.length t) ≤ 1000000) ∧ ((List.length ar) ≤ 1000000))) (.need (decide (((((List.length (capsC (t, (ar, (c1, (c2, c3)))))) : Nat) : Int) = (((List.length (capsC (t, (ar, (c1, (c2, c3)))))) : Nat) : Int)) ∧ (((((List.length (capsC (t, (ar, (c1, (c2, c3)))))) : Nat) : Int) ≤ (1000000 : Int)) ∧ (((0 : Int) ≤ (0 : Int)) ∧ (((0 : Int) ≤ (((List.length (capsC (t, (ar, (c1, (c2, c3)))))) : Nat) : Int)) ∧ (((((List.length (filesK (0 : Int) t)) : Nat) : Int) = (((List.length fs) : Nat) : Int)) ∧ ((((List.length (capsC (t, (ar, (c1, (c2, c3)))))) : Nat) : Int) = ((((List.length fs) : Nat) : Int) + (((List.length as') : Nat) : Int) : Int)))))))) (.ite (fitL (List.drop 0 (capsC (t, (ar, (c1, (c2, c3)))))) (List.drop 0 (fs ++ as'))) (.ret (rB true, ⟨0, [], []⟩)) (.ret (rB false, ⟨0, [], []⟩))))))))))))) (by kernel_rfl) ?_
  show Gives _ (.need _ (.ret (rB (cHas (t, ar, c1, c2, c3) (fs, as', fl)), (⟨0, [], []⟩ : St))))
  refine .rnd fun h => ?_
  have h : t.length ≤ 1000000 := h
  have hf := filesK_len t 0
  have ht8 : cMay (t, ar, c1, c2, c3) = true → (filesK 0 t).length ≤ 4 := fun hm => by simp only [cMay, Bool.and_eq_true, decide_eq_true_eq] at hm; exact hm.1.1.1.1.1.1.2
  have hcl : (capsF t).length = (filesK 0 t).length := by rw [← capsAt_files [] t]; simp [capsAt]
  unfold cHas
  simp only [List.drop_zero]
  refine .need rfl (.nd h (.need rfl (.ite (fun h1 => ?_) (fun h1 => ?_))))
  · rw [show cMay (t, ar, c1, c2, c3) = false by rw [← Bool.not_eq_true']; exact h1]; exact .refl _
  rw [show cMay (t, ar, c1, c2, c3) = true by rw [← Bool.not_eq_false']; exact h1]
  have har : ar.length ≤ 2 := by
    have : cMay (t, ar, c1, c2, c3) = true := by rw [← Bool.not_eq_false']; exact h1
    simp only [cMay, Bool.and_eq_true, decide_eq_true_eq] at this; exact this.1.1.1.1.1.2
  have ht8 := ht8 (by rw [← Bool.not_eq_false']; exact h1)
  refine .ite (fun h2 => ?_) (fun h2 => ?_)
  · have h2 : ¬ fs.length = (filesK 0 t).length := by have := (bne_iff_ne).1 h2; omega
    rw [decide_eq_false h2]; exact .refl _
  have h2 : fs.length = (filesK 0 t).length := by have := (bne_eq_false_iff_eq).1 h2; omega
  rw [decide_eq_true h2]
  refine .ite (fun h3 => ?_) (fun h3 => ?_)
  · have h3 : ¬ as'.length = ar.length := by have := (bne_iff_ne).1 h3; omega
    rw [decide_eq_false h3]; exact .refl _
  have h3 : as'.length = ar.length := by have := (bne_eq_false_iff_eq).1 h3; omega
  rw [decide_eq_true h3]
  refine .ite (fun h4 => ?_) (fun h4 => ?_)
  · rw [show fMay fl c1 c2 = false by rw [← Bool.not_eq_true']; exact h4]; exact .refl _
  rw [show fMay fl c1 c2 = true by rw [← Bool.not_eq_false']; exact h4]
  have hc : (capsC (t, ar, c1, c2, c3)).length = fs.length + as'.length := by simp only [capsC, List.length_append]; omega
  refine .need rfl (.nd ⟨h, by omega⟩ (.nd ⟨trivial, by omega, by omega, by omega, by omega, by omega⟩ (.ite (fun h5 => ?_) (fun h5 => ?_))))
  · rw [h5]; exact .refl _
  · rw [h5]; exact .refl _
end Go.Proofs.YtjebfbkigkjboaaGreatDoor.Sy

/- Contracts: programs, classes and traces as bytes; numbers as text. -/
set_option maxRecDepth 100000
namespace Go.Proofs.YtjebfbkigkjboaaGreatDoor.Sy
open Go.RowKit Kit Go.Proofs
abbrev Prog : Type := List (Int × Int) × List ByteArray
abbrev tEv : Ty := .pair .bool (.int .u16)
abbrev tTr : Ty := .pair (.sl tEv) (.pair tI (.int .u16))
abbrev Trc : Type := List (Bool × Int) × Int × Int
def w8 (n : Int) : Int := IntKind.u8.wrap n
/-- the byte above the lowest -/
def hi8 (n : Int) : Int := IntKind.u8.wrap (Int.fdiv n (2 ^ 8))

/-! ### prog.Bytes -/
def nameB (s : ByteArray) : List Int := w8 s.size :: strB s
def instB (i : Int × Int) : List Int := [w8 i.1, hi8 i.2, w8 i.2]
def pBytes (p : Prog) : List Int := ([88, 82, w8 p.2.length] ++ p.2.flatMap nameB ++ [w8 p.1.length]) ++ p.1.flatMap instB
noncomputable def fn20 := mkFn Tryz.f8
def pmayCtr : Ctr := ctr (one (aAgg tProg)) fun a => ans (rI (pMay a.1))
def C20 : Cx := ⟨T, FL, [(19, pmayCtr)], [], [19, FA]⟩
theorem C20_ok : CxOk Tryz.prog C20 := ⟨T_ok, FL_ok, .cons pmay_ok (.nil _), .nil _⟩
def nr20 : List NR := [⟨5, tU, 5⟩]
def q20a : Frm := ⟨65, [(1, .ptr tProg), (5, .row 5), (21, .dat (.sl .str)), (22, .dat tI), (23, .dat tI)], [(5, .row tU 5)]⟩
def R20a : q20a.V → Tr (Ex × St) := fun (((p : Prog), _, (L : List ByteArray), (n : Int), (k : Int), _), (acc : List Int), _) =>
  .need (decide (n = L.length ∧ n ≤ 8 ∧ 0 ≤ k ∧ k ≤ n ∧ acc.length ≤ 1000 * (k + 1)) && L.all fun s => decide (s.size ≤ 255)) (.ret (.ex 0, ⟨65, [(1, .e (.c (.dp (split tProg p)))), (5, .e (.c (.row 5)))], [(5, .row tU 5 (acc ++ (L.drop k.toNat).flatMap nameB))]⟩))
def q20b : Frm := ⟨65, [(5, .row 5), (44, .dat (.sl tInst)), (45, .dat tI), (46, .dat tI)], [(5, .row tU 5)]⟩
def R20b : q20b.V → Tr (Ex × St) := fun ((_, (L : List (Int × Int)), (n : Int), (k : Int), _), (acc : List Int), _) =>
  .need (decide (n = L.length ∧ n ≤ 1000 ∧ 0 ≤ k ∧ k ≤ n ∧ acc.length ≤ 100000 + 3 * k)) (.ret (.ex 2, ⟨65, [(5, .e (.c (.row 5)))], [(5, .row tU 5 (acc ++ (L.drop k.toNat).flatMap instB))]⟩))
def lp20 : LP := [(0, sumP q20a R20a), (2, sumP q20b R20b)]
theorem lp20_ok : LpsOk 0 C20 nr20 lp20 fn20.loops := by
  refine .all (by kernel_rfl) ?_
  simp only [lp20, List.forall_mem_cons, List.not_mem_nil, false_imp_iff, implies_true, and_true]
  constructor
  · refine .pat q20a R20a (fun v => (v.1.2.2.2.1 - v.1.2.2.2.2.1).toNat) ?_
    rintro ⟨⟨⟨(pL : List (Int × Int)), (pN : List ByteArray)⟩, ⟨⟩, (L : List ByteArray), (n : Int), (k : Int), ⟨⟩⟩, ⟨(acc : List Int), ⟨⟩⟩⟩ ih
    refine Gives.run (t' := .ite (decide (k < n)) (.need (inR k (List.length L)) (.need true (.need (decide ((((List.length acc) + (List.length [(IntKind.wrap IntKind.u8 (((ByteArray.size (List.getD L (Int.toNat k) ByteArray.empty)) : Nat) : Int))]) : Nat) * (Lay.bytes L5) : Nat) ≤ 140737488355328)) (.need true (.need (decide ((((List.length (acc ++ [(IntKind.wrap IntKind.u8 (((ByteArray.size (List.getD L (Int.toNat k) ByteArray.empty)) : Nat) : Int))])) + (List.length (strB (List.getD L (Int.toNat k) ByteArray.empty))) : Nat) * (Lay.bytes L5) : Nat) ≤ 140737488355328)) (.need (decide (((-(9223372036854775808 : Int) : Int) ≤ (k + (1 : Int) : Int)) ∧ ((k + (1 : Int) : Int) ≤ (9223372036854775807 : Int)))) (.ret (.nx, ⟨65, [(1, .e (.c (.dp [.sl tInst pL, .sl Ty.str pN]))), (5, .e (.c (.row 34))), (21, rL Ty.str L), (22, rI n), (23, rI (k + (1 : Int) : Int))], [(34, .row tU 5 ((acc ++ [(IntKind.wrap IntKind.u8 (((ByteArray.size (List.getD L (Int.toNat k) ByteArray.empty)) : Nat) : Int))]) ++ (strB (List.getD L (Int.toNat k) ByteArray.empty))))]⟩)))))))) (.ret (.ex 0, ⟨65, [(1, .e (.c (.dp [.sl tInst pL, .sl Ty.str pN]))), (5, .e (.c (.row 5)))], [(5, .row tU 5 acc)]⟩))) (by kernel_rfl) ?_
    refine .rneed fun h => ?_
    simp only [Bool.and_eq_true, decide_eq_true_eq] at h
    obtain ⟨⟨h1, h2, h3, h4, h5⟩, h6⟩ := h
    refine .lif (fun hk => ?_) (fun hk => ?_)
    · have e : (k + 1).toNat = k.toNat + 1 := by omega
      have hx := of_decide_eq_true (List.all_eq_true.1 h6 _ (List.getElem_mem (show k.toNat < L.length by omega)))
      rw [show L[k.toNat]'(by omega) = L.getD k.toNat ByteArray.empty by simp [List.getD_eq_getElem?_getD, List.getElem?_eq_getElem (show k.toNat < L.length by omega)]] at hx
      rw [drop_at L k.toNat ByteArray.empty (by omega)]
      refine .lneed (inR_of h3 (by omega)) ?_
      generalize L.getD k.toNat ByteArray.empty = x at hx ⊢
      have hl := strB_length x
      refine .lneed rfl (.lnd (by show (acc.length + 1) * 1 ≤ _; omega) (.lneed rfl (.lnd (by show ((acc ++ _).length + (strB x).length) * 1 ≤ _; rw [List.length_append, List.length_singleton]; omega) (.lnd (by omega) ?_))))
      refine Gives.next (σ' := q20a.st (((pL, pN), (), L, n, k + 1, ()), ((acc ++ [w8 x.size]) ++ strB x, ()))) (by kernel_rfl) ((ih (((pL, pN), (), L, n, k + 1, ()), ((acc ++ [w8 x.size]) ++ strB x, ())) (by simp only; omega)).trans ?_)
      refine .need (by simp only [Bool.and_eq_true, decide_eq_true_eq]; exact ⟨⟨h1, h2, by omega, by omega, by simp only [List.length_append, List.length_singleton]; omega⟩, h6⟩) ?_
      simp only [e, List.flatMap_cons, nameB, List.append_assoc, List.cons_append, List.nil_append]
      exact .refl _
    · rw [List.drop_eq_nil_of_le (by omega), List.flatMap_nil, List.append_nil]
      exact .refl _
  · refine .pat q20b R20b (fun v => (v.1.2.2.1 - v.1.2.2.2.1).toNat) ?_
    rintro ⟨⟨⟨⟩, (L : List (Int × Int)), (n : Int), (k : Int), ⟨⟩⟩, ⟨(acc : List Int), ⟨⟩⟩⟩ ih
    refine Gives.run (t' := .ite (decide (k < n)) (.need (inR k (List.length L)) (.need true (.need true (.need true (.need (decide ((((List.length acc) + (List.length [(IntKind.wrap IntKind.u8 ((List.getD L (Int.toNat k) ((0 : Int), (0 : Int)))).1), (IntKind.wrap IntKind.u8 (Int.fdiv ((List.getD L (Int.toNat k) ((0 : Int), (0 : Int)))).2 ((2 : Int) ^ (Min.min 8 (IntKind.bits IntKind.i64)) : Int))), (IntKind.wrap IntKind.u8 ((List.getD L (Int.toNat k) ((0 : Int), (0 : Int)))).2)]) : Nat) * (Lay.bytes L5) : Nat) ≤ 140737488355328)) (.need (decide (((-(9223372036854775808 : Int) : Int) ≤ (k + (1 : Int) : Int)) ∧ ((k + (1 : Int) : Int) ≤ (9223372036854775807 : Int)))) (.ret (.nx, ⟨65, [(5, .e (.c (.row 62))), (44, rL tInst L), (45, rI n), (46, rI (k + (1 : Int) : Int))], [(9, .cells 24 [.d (.v (.int .i64 ((List.getD L (Int.toNat k) ((0 : Int), (0 : Int)))).1)), .d (.v (.int .i64 ((List.getD L (Int.toNat k) ((0 : Int), (0 : Int)))).2))]), (62, .row tU 5 (acc ++ [(IntKind.wrap IntKind.u8 ((List.getD L (Int.toNat k) ((0 : Int), (0 : Int)))).1), (IntKind.wrap IntKind.u8 (Int.fdiv ((List.getD L (Int.toNat k) ((0 : Int), (0 : Int)))).2 ((2 : Int) ^ (Min.min 8 (IntKind.bits IntKind.i64)) : Int))), (IntKind.wrap IntKind.u8 ((List.getD L (Int.toNat k) ((0 : Int), (0 : Int)))).2)]))]⟩)))))))) (.ret (.ex 2, ⟨65, [(5, .e (.c (.row 5)))], [(5, .row tU 5 acc)]⟩))) (by kernel_rfl) ?_
    refine .rnd fun ⟨h1, h2, h3, h4, h5⟩ => ?_
    refine .lif (fun hk => ?_) (fun hk => ?_)
    · have e : (k + 1).toNat = k.toNat + 1 := by omega
      rw [drop_at L k.toNat (0, 0) (by omega)]
      refine .lneed (inR_of h3 (by omega)) ?_
      generalize L.getD k.toNat (0, 0) = x
      refine .lneed rfl (.lneed rfl (.lneed rfl (.lnd (by show (acc.length + 3) * 1 ≤ _; omega) (.lnd (by omega) ?_))))
      refine Gives.next (σ' := q20b.st (((), L, n, k + 1, ()), (acc ++ instB x, ()))) (by kernel_rfl) ((ih (((), L, n, k + 1, ()), (acc ++ instB x, ())) (by simp only; omega)).trans ?_)
      refine .nd ⟨h1, h2, by omega, by omega, by rw [List.length_append]; simp [instB]; omega⟩ ?_
      rw [e, List.flatMap_cons, List.append_assoc]
      exact .refl _
    · rw [List.drop_eq_nil_of_le (by omega), List.flatMap_nil, List.append_nil]
      exact .refl _
theorem flat_len {α : Type} (f : α → List Int) (m : Nat) : ∀ l : List α, (∀ x ∈ l, (f x).length ≤ m) → (l.flatMap f).length ≤ m * l.length
  | [], _ => by simp
  | x :: r, h => by
    have h1 := h x (List.mem_cons_self ..)
    have h2 := flat_len f m r fun y hy => h y (List.mem_cons_of_mem _ hy)
    rw [List.flatMap_cons, List.length_append, List.length_cons, Nat.mul_succ]
    omega
theorem pMay_zero {L : List (Int × Int)} {N : List ByteArray} (h : pMay2 L N = 0) : L.length ≤ 96 ∧ N.length ≤ 8 ∧ N.all (fun s => decide (s.size ≤ 255)) = true ∧ L.all iMay = true := by
  unfold pMay2 at h
  split at h
  · cases h
  rename_i h1
  split at h
  · cases h
  rename_i h2
  split at h
  · cases h
  rename_i h3
  refine ⟨by omega, by omega, List.all_eq_true.2 fun s hs => ?_, List.all_eq_true.2 fun s hs => ?_⟩
  · cases e : decide (s.size ≤ 255) with
    | true => rfl
    | false => exact absurd (List.any_eq_true.2 ⟨s, hs, by simpa using e⟩) h2
  · cases e : iMay s with
    | true => rfl
    | false => exact absurd (List.any_eq_true.2 ⟨s, hs, by simp [e]⟩) h3
def pBytesE (p : Prog) : List Int := if pMay p = 0 then pBytes p else []
def pBytesCtr : Ctr := ctr (one (aAgg tProg)) fun a => .ret (.tup [eL tU (pBytesE a.1), eI (pMay a.1)], [])
theorem Less.tup1 {x y : EV} {l : List EV} {τ : St} (h : ∀ M β v, EVR M β x v → EVR M β y v) : Less (.tup (x :: l), τ) (.tup (y :: l), τ) :=
  ⟨fun M β v hv => by
    obtain ⟨vs, e, hs⟩ := hv
    refine ⟨vs, e, ?_⟩
    generalize vs.toList = us at hs ⊢
    cases hs with
    | cons h1 h2 => exact .cons (h M β _ h1) h2, rfl, rfl, fun _ _ h => h⟩
theorem pBytes_ok : CtrOk Tryz.prog 8 pBytesCtr := by
  refine CtrOk.lessC (F := fun a => .ite (pMay a.1 != 0) (.ret (.tup [.c .nil, eI (pMay a.1)], [])) (.ret (.tup [eL tU (pBytes a.1), eI 0], []))) ?_ ?_
  · refine .mk C20_ok mixed (q := fn20) (.of Tryz.func8 (by kernel_rfl)) lp20_ok (by decide) ?_
    rintro ⟨⟨(L : List (Int × Int)), (N : List ByteArray)⟩, ⟨⟩⟩ -
    refine Gives.of_eq (t' := .need true (.ite ((pMay (L, N)) != (0 : Int)) (.ret (.tup [.c (.nil), .c (.d (.v (.int .i64 (pMay (L, N)))))], ⟨0, [], []⟩)) (.need ((decide (((((List.length N) : Nat) : Int) = (((List.length N) : Nat) : Int)) ∧ (((((List.length N) : Nat) : Int) ≤ (8 : Int)) ∧ (((0 : Int) ≤ (0 : Int)) ∧ (((0 : Int) ≤ (((List.length N) : Nat) : Int)) ∧ ((((List.length [(88 : Int), (82 : Int), (IntKind.wrap IntKind.u8 (((List.length N) : Nat) : Int))]) : Nat) : Int) ≤ ((1000 : Int) * ((0 : Int) + (1 : Int) : Int) : Int))))))) && (List.all N (fun s => (decide ((ByteArray.size s) ≤ 255))))) (.need true (.need (decide ((((List.length ([(88 : Int), (82 : Int), (IntKind.wrap IntKind.u8 (((List.length N) : Nat) : Int))] ++ (List.flatMap nameB (List.drop 0 N)))) + (List.length [(IntKind.wrap IntKind.u8 (((List.length L) : Nat) : Int))]) : Nat) * (Lay.bytes L5) : Nat) ≤ 140737488355328)) (.need (decide (((((List.length L) : Nat) : Int) = (((List.length L) : Nat) : Int)) ∧ (((((List.length L) : Nat) : Int) ≤ (1000 : Int)) ∧ (((0 : Int) ≤ (0 : Int)) ∧ (((0 : Int) ≤ (((List.length L) : Nat) : Int)) ∧ ((((List.length (([(88 : Int), (82 : Int), (IntKind.wrap IntKind.u8 (((List.length N) : Nat) : Int))] ++ (List.flatMap nameB (List.drop 0 N))) ++ [(IntKind.wrap IntKind.u8 (((List.length L) : Nat) : Int))])) : Nat) : Int) ≤ ((100000 : Int) + ((3 : Int) * (0 : Int) : Int) : Int))))))) (.ret (.tup [.c (.d (.sl tU ((([(88 : Int), (82 : Int), (IntKind.wrap IntKind.u8 (((List.length N) : Nat) : Int))] ++ (List.flatMap nameB (List.drop 0 N))) ++ [(IntKind.wrap IntKind.u8 (((List.length L) : Nat) : Int))]) ++ (List.flatMap instB (List.drop 0 L))))), .c (.d (.v (.int .i64 (0 : Int))))], ⟨0, [], []⟩)))))))) (by kernel_rfl) ?_
    show Gives _ (.ite (pMay (L, N) != 0) _ (.ret (SV.tup [eL tU (pBytes (L, N)), eI 0], (⟨0, [], []⟩ : St))))
    refine .need rfl (.ites (fun _ => .refl _) (fun h => ?_))
    have h : pMay2 L N = 0 := by have h' : pMay (L, N) = 0 := by simpa using h
                                 exact h'
    obtain ⟨h1, h2, h3, h4⟩ := pMay_zero h
    have hf : (N.flatMap nameB).length ≤ 256 * N.length := flat_len nameB 256 N fun s hs => by
      have := of_decide_eq_true (List.all_eq_true.1 h3 s hs)
      simp only [nameB, List.length_cons, strB_length]; omega
    have hg : (L.flatMap instB).length ≤ 3 * L.length := flat_len instB 3 L fun s hs => by simp [instB]
    rw [List.drop_zero, List.drop_zero]
    have e1 : ([88, 82, w8 N.length] ++ N.flatMap nameB).length ≤ 3 + 256 * N.length := by rw [List.length_append]; simp only [List.length_cons, List.length_nil]; omega
    refine .need (by simp only [Bool.and_eq_true, decide_eq_true_eq]; exact ⟨⟨trivial, by omega, by omega, by omega, by simp⟩, h3⟩) (.need rfl (.nd (by show (([88, 82, w8 N.length] ++ N.flatMap nameB).length + 1) * 1 ≤ _; omega) (.nd ⟨rfl, by omega, by omega, by omega, ?_⟩ (.refl _))))
    rw [List.length_append]
    show (((([88, 82, w8 N.length] ++ N.flatMap nameB).length + 1 : Nat)) : Int) ≤ _
    omega
  · rintro ⟨⟨(L : List (Int × Int)), (N : List ByteArray)⟩, ⟨⟩⟩
    show LessT _ (.ret (SV.tup [eL tU (pBytesE (L, N)), eI (pMay (L, N))], ⟨0, [], []⟩))
    refine .ite (fun h => ?_) (fun h => ?_)
    · rw [show pBytesE (L, N) = [] by unfold pBytesE; rw [if_neg (by simpa using h)]]
      exact .ret (Less.tup1 fun _ _ _ => EVR.nilL)
    · have h : pMay (L, N) = 0 := by simpa using h
      rw [show pBytesE (L, N) = pBytes (L, N) by unfold pBytesE; rw [if_pos h], h]
      exact .ret (.refl _)

/-! ### image.two, number -/
noncomputable def fn65 := mkFn Tryz.f53
def twoF (n : Int) : List Int := [hi8 n, w8 n]
def twoCtr : Ctr := ctr (one aI) fun a => ans (rL tU (twoF a.1))
theorem two_ok : CtrOk Tryz.prog 53 twoCtr := by
  refine .mk C0_ok mixed (q := fn65) (.of Tryz.func53 (by kernel_rfl)) (N := 0) (nr := []) .none (by decide) ?_
  rintro ⟨(n : Int), ⟨⟩⟩ -
  refine Gives.of_eq (t' := .need true (.ret (rL (Ty.int IntKind.u8) [(IntKind.wrap IntKind.u8 (Int.fdiv n ((2 : Int) ^ (Min.min 8 (IntKind.bits IntKind.i64)) : Int))), (IntKind.wrap IntKind.u8 n)], ⟨0, [], []⟩))) (by kernel_rfl) ?_
  exact .need rfl (.refl _)
/-- the number of two bytes -/
def num2 (a b : Int) : Int := IntKind.wrap .i64 ((BitVec.toNat (BitVec.ofInt 64 (IntKind.wrap .i64 (IntKind.wrap .i64 a * 2 ^ 8)) ||| BitVec.ofInt 64 (IntKind.wrap .i64 b)) : Nat) : Int)
noncomputable def fn74 := mkFn Tryz.f99
def numCtr : Ctr := ctr (one (aVal tB)) fun a => .need (decide (2 ≤ a.1.length)) (ans (rI (num2 (a.1.getD 0 0) (a.1.getD 1 0))))
theorem num_ok : CtrOk Tryz.prog 99 numCtr := by
  refine .mk C0_ok mixed (q := fn74) (.of Tryz.func99 (by kernel_rfl)) (N := 0) (nr := []) .none (by decide) ?_
  rintro ⟨(l : List Int), ⟨⟩⟩ -
  refine Gives.of_eq (t' := .need (inR (0 : Int) (List.length l)) (.need true (.need (inR (1 : Int) (List.length l)) (.ret (rI (IntKind.wrap IntKind.i64 (((BitVec.toNat (HOr.hOr (BitVec.ofInt (IntKind.bits IntKind.i64) (IntKind.wrap IntKind.i64 ((IntKind.wrap IntKind.i64 (List.getD l 0 (0 : Int))) * ((2 : Int) ^ (Min.min 8 (IntKind.bits IntKind.i64)) : Int) : Int))) (BitVec.ofInt (IntKind.bits IntKind.i64) (IntKind.wrap IntKind.i64 (List.getD l 1 (0 : Int)))))) : Nat) : Int)), ⟨0, [], []⟩))))) (by kernel_rfl) ?_
  show Gives _ (.need _ (.ret (rI (num2 (l.getD 0 0) (l.getD 1 0)), (⟨0, [], []⟩ : St))))
  refine .rnd fun h => ?_
  have h : 2 ≤ l.length := h
  exact .need (inR_of (by omega) (by omega)) (.need rfl (.need (inR_of (by omega) (by omega)) (.refl _)))

/-! ### image.trace -/
def evB (e : Bool × Int) : List Int := [truth e.1] ++ twoF (IntKind.wrap .i64 e.2)
def traceF (t : Trc) : List Int := (t.1.flatMap evB ++ [w8 t.2.1]) ++ twoF (IntKind.wrap .i64 t.2.2)
noncomputable def fn47 := mkFn Tryz.f31
def truthCtr : Ctr := ctr (one aB) fun a => ans (rU (truth a.1))
def C47 : Cx := ⟨T, FL, [(29, truthCtr), (53, twoCtr)], [], [FA, FC + 5]⟩
theorem C47_ok : CxOk Tryz.prog C47 := ⟨T_ok, FL_ok, .cons truth_ok (.cons two_ok (.nil _)), .nil _⟩
def nr47 : List NR := [⟨3, tU, 5⟩]
def q47 : Frm := ⟨36, [(1, .ptr tTr), (3, .row 3), (7, .dat (.sl tEv)), (8, .dat tI), (9, .dat tI)], [(3, .row tU 5)]⟩
def R47 : q47.V → Tr (Ex × St) := fun (((t : Trc), _, (L : List (Bool × Int)), (n : Int), (k : Int), _), (acc : List Int), _) =>
  .need (decide (n = L.length ∧ n ≤ 1000000 ∧ 0 ≤ k ∧ k ≤ n ∧ acc.length ≤ 3 * k)) (.ret (.ex 0, ⟨36, [(1, .e (.c (.dp (split tTr t)))), (3, .e (.c (.row 3)))], [(3, .row tU 5 (acc ++ (L.drop k.toNat).flatMap evB))]⟩))
def lp47 : LP := [(0, sumP q47 R47)]
theorem lp47_ok : LpsOk 0 C47 nr47 lp47 fn47.loops := by
  refine .all (by kernel_rfl) ?_
  simp only [lp47, List.forall_mem_cons, List.not_mem_nil, false_imp_iff, implies_true, and_true]
  refine .pat q47 R47 (fun v => (v.1.2.2.2.1 - v.1.2.2.2.2.1).toNat) ?_
  rintro ⟨⟨⟨(tl : List (Bool × Int)), (te : Int), (tc : Int)⟩, ⟨⟩, (L : List (Bool × Int)), (n : Int), (k : Int), ⟨⟩⟩, ⟨(acc : List Int), ⟨⟩⟩⟩ ih
  refine Gives.run (t' := .ite (decide (k < n)) (.need (inR k (List.length L)) (.need true (.need true (.need (decide ((((List.length acc) + (List.length [(truth ((List.getD L (Int.toNat k) (false, (0 : Int)))).1)]) : Nat) * (Lay.bytes L5) : Nat) ≤ 140737488355328)) (.need true (.need (decide ((((List.length (acc ++ [(truth ((List.getD L (Int.toNat k) (false, (0 : Int)))).1)])) + (List.length (twoF (IntKind.wrap IntKind.i64 ((List.getD L (Int.toNat k) (false, (0 : Int)))).2))) : Nat) * (Lay.bytes L5) : Nat) ≤ 140737488355328)) (.need (decide (((-(9223372036854775808 : Int) : Int) ≤ (k + (1 : Int) : Int)) ∧ ((k + (1 : Int) : Int) ≤ (9223372036854775807 : Int)))) (.ret (.nx, ⟨36, [(1, .e (.c (.dp [.sl tEv tl, .v (.int .i64 te), .v (.int .u16 tc)]))), (3, .e (.c (.row 23))), (7, rL tEv L), (8, rI n), (9, rI (k + (1 : Int) : Int))], [(23, .row tU 5 ((acc ++ [(truth ((List.getD L (Int.toNat k) (false, (0 : Int)))).1)]) ++ (twoF (IntKind.wrap IntKind.i64 ((List.getD L (Int.toNat k) (false, (0 : Int)))).2))))]⟩))))))))) (.ret (.ex 0, ⟨36, [(1, .e (.c (.dp [.sl tEv tl, .v (.int .i64 te), .v (.int .u16 tc)]))), (3, .e (.c (.row 3)))], [(3, .row tU 5 acc)]⟩))) (by kernel_rfl) ?_
  refine .rnd fun ⟨h1, h2, h3, h4, h5⟩ => ?_
  refine .lif (fun hk => ?_) (fun hk => ?_)
  · have e : (k + 1).toNat = k.toNat + 1 := by omega
    rw [drop_at L k.toNat (false, 0) (by omega)]
    refine .lneed (inR_of h3 (by omega)) ?_
    generalize L.getD k.toNat (false, 0) = x
    refine .lneed rfl (.lneed rfl (.lnd (by show (acc.length + 1) * 1 ≤ _; omega) (.lneed rfl (.lnd (by rw [List.length_append]; show (acc.length + 1 + 2) * 1 ≤ _; omega) (.lnd (by omega) ?_)))))
    refine Gives.next (σ' := q47.st (((tl, te, tc), (), L, n, k + 1, ()), ((acc ++ [truth x.1]) ++ twoF (IntKind.wrap .i64 x.2), ()))) (by kernel_rfl) ((ih (((tl, te, tc), (), L, n, k + 1, ()), ((acc ++ [truth x.1]) ++ twoF (IntKind.wrap .i64 x.2), ())) (by simp only; omega)).trans ?_)
    refine .nd ⟨h1, h2, by omega, by omega, by simp only [List.length_append, List.length_singleton, twoF, List.length_cons, List.length_nil]; omega⟩ ?_
    simp only [e, List.flatMap_cons, evB, List.append_assoc]
    exact .refl _
  · rw [List.drop_eq_nil_of_le (by omega), List.flatMap_nil, List.append_nil]
    exact .refl _
def traceCtr : Ctr := ctr (one (aAgg tTr)) fun a => .need (decide (a.1.1.length ≤ 1000000)) (ans (rL tU (traceF a.1)))
theorem trace_ok : CtrOk Tryz.prog 31 traceCtr := by
  refine .mk C47_ok mixed (q := fn47) (.of Tryz.func31 (by kernel_rfl)) lp47_ok (by decide) ?_
  rintro ⟨⟨(tl : List (Bool × Int)), (te : Int), (tc : Int)⟩, ⟨⟩⟩ hb
  refine Gives.of_eq (t' := .need (decide (((((List.length tl) : Nat) : Int) = (((List.length tl) : Nat) : Int)) ∧ (((((List.length tl) : Nat) : Int) ≤ (1000000 : Int)) ∧ (((0 : Int) ≤ (0 : Int)) ∧ (((0 : Int) ≤ (((List.length tl) : Nat) : Int)) ∧ ((((List.length ([] : List Int)) : Nat) : Int) ≤ ((3 : Int) * (0 : Int) : Int))))))) (.need true (.need (decide ((((List.length (([] : List Int) ++ (List.flatMap evB (List.drop 0 tl)))) + (List.length [(IntKind.wrap IntKind.u8 te)]) : Nat) * (Lay.bytes L5) : Nat) ≤ 140737488355328)) (.need true (.need (decide ((((List.length ((([] : List Int) ++ (List.flatMap evB (List.drop 0 tl))) ++ [(IntKind.wrap IntKind.u8 te)])) + (List.length (twoF (IntKind.wrap IntKind.i64 tc))) : Nat) * (Lay.bytes L5) : Nat) ≤ 140737488355328)) (.ret (rL tU (((([] : List Int) ++ (List.flatMap evB (List.drop 0 tl))) ++ [(IntKind.wrap IntKind.u8 te)]) ++ (twoF (IntKind.wrap IntKind.i64 tc))), ⟨0, [], []⟩))))))) (by kernel_rfl) ?_
  show Gives _ (.need _ (.ret (rL tU (traceF (tl, te, tc)), (⟨0, [], []⟩ : St))))
  refine .rnd fun h => ?_
  have h : tl.length ≤ 1000000 := h
  have hf : (tl.flatMap evB).length ≤ 3 * tl.length := flat_len evB 3 tl fun s hs => by simp [evB, twoF]
  rw [List.drop_zero, List.nil_append]
  refine .nd ⟨rfl, by omega, by omega, by omega, by simp⟩ (.need rfl (.nd (by show ((tl.flatMap evB).length + 1) * 1 ≤ _; omega) (.need rfl (.nd (by rw [List.length_append]; show ((tl.flatMap evB).length + 1 + 2) * 1 ≤ _; omega) (.refl _)))))

/-! ### image.kind -/
def kindF (c : Cls) : List Int := ([w8 c.2.2.1, w8 c.2.2.2.1] ++ twoF c.2.2.2.2) ++ (capsC c).map w8
noncomputable def fn46 := mkFn Tryz.f30
def C46 : Cx := ⟨T, FL, [(53, twoCtr), (24, capsCtr)], [], [12, FA]⟩
theorem C46_ok : CxOk Tryz.prog C46 := ⟨T_ok, FL_ok, .cons two_ok (.cons caps_ok (.nil _)), .nil _⟩
def nr46 : List NR := [⟨3, tU, 5⟩]
def q46 : Frm := ⟨31, [(3, .row 3), (18, .dat (.sl tI)), (19, .dat tI), (20, .dat tI)], [(3, .row tU 5)]⟩
def R46 : q46.V → Tr (Ex × St) := fun ((_, (L : List Int), (n : Int), (k : Int), _), (acc : List Int), _) =>
  .need (decide (n = L.length ∧ n ≤ 10000000 ∧ 0 ≤ k ∧ k ≤ n ∧ acc.length ≤ 4 + k)) (.ret (.ex 0, ⟨31, [(3, .e (.c (.row 3)))], [(3, .row tU 5 (acc ++ (L.drop k.toNat).map w8))]⟩))
def lp46 : LP := [(0, sumP q46 R46)]
theorem lp46_ok : LpsOk 0 C46 nr46 lp46 fn46.loops := by
  refine .all (by kernel_rfl) ?_
  simp only [lp46, List.forall_mem_cons, List.not_mem_nil, false_imp_iff, implies_true, and_true]
  refine .pat q46 R46 (fun v => (v.1.2.2.1 - v.1.2.2.2.1).toNat) ?_
  rintro ⟨⟨⟨⟩, (L : List Int), (n : Int), (k : Int), ⟨⟩⟩, ⟨(acc : List Int), ⟨⟩⟩⟩ ih
  refine Gives.run (t' := .ite (decide (k < n)) (.need (inR k (List.length L)) (.need true (.need (decide ((((List.length acc) + (List.length [(IntKind.wrap IntKind.u8 (List.getD L (Int.toNat k) (0 : Int)))]) : Nat) * (Lay.bytes L5) : Nat) ≤ 140737488355328)) (.need (decide (((-(9223372036854775808 : Int) : Int) ≤ (k + (1 : Int) : Int)) ∧ ((k + (1 : Int) : Int) ≤ (9223372036854775807 : Int)))) (.ret (.nx, ⟨31, [(3, .e (.c (.row 28))), (18, rL tI L), (19, rI n), (20, rI (k + (1 : Int) : Int))], [(28, .row tU 5 (acc ++ [(IntKind.wrap IntKind.u8 (List.getD L (Int.toNat k) (0 : Int)))]))]⟩)))))) (.ret (.ex 0, ⟨31, [(3, .e (.c (.row 3)))], [(3, .row tU 5 acc)]⟩))) (by kernel_rfl) ?_
  refine .rnd fun ⟨h1, h2, h3, h4, h5⟩ => ?_
  refine .lif (fun hk => ?_) (fun hk => ?_)
  · have e : (k + 1).toNat = k.toNat + 1 := by omega
    rw [drop_at L k.toNat 0 (by omega)]
    refine .lneed (inR_of h3 (by omega)) ?_
    generalize L.getD k.toNat 0 = x
    refine .lneed rfl (.lnd (by show (acc.length + 1) * 1 ≤ _; omega) (.lnd (by omega) ?_))
    refine Gives.next (σ' := q46.st (((), L, n, k + 1, ()), (acc ++ [w8 x], ()))) (by kernel_rfl) ((ih (((), L, n, k + 1, ()), (acc ++ [w8 x], ())) (by simp only; omega)).trans ?_)
    refine .nd ⟨h1, h2, by omega, by omega, by rw [List.length_append]; simp; omega⟩ ?_
    rw [e, List.map_cons, List.append_assoc]
    exact .refl _
  · rw [List.drop_eq_nil_of_le (by omega), List.map_nil, List.append_nil]
    exact .refl _
theorem capsF_len : ∀ t : List Ent, (capsF t).length ≤ t.length
  | [] => Nat.le_refl _
  | x :: r => by
    have := capsF_len r
    rw [capsF]; split <;> simp only [List.length_cons] <;> omega
def kindCtr : Ctr := ctr (one (aAgg tCls)) fun a => .need (decide (a.1.1.length ≤ 1000000 ∧ a.1.2.1.length ≤ 1000000)) (ans (rL tU (kindF a.1)))
theorem kind_ok : CtrOk Tryz.prog 30 kindCtr := by
  refine .mk C46_ok mixed (q := fn46) (.of Tryz.func30 (by kernel_rfl)) lp46_ok (by decide) ?_
  rintro ⟨⟨(t : List Ent), (ar : List Int), (c1 : Int), (c2 : Int), (c3 : Int)⟩, ⟨⟩⟩ -
  refine Gives.of_eq (t' := .need true (.need true (.need true (.need (decide (((List.length t) ≤ 1000000) ∧ ((List.length ar) ≤ 1000000))) (.need (decide (((((List.length (capsC (t, (ar, (c1, (c2, c3)))))) : Nat) : Int) = (((List.length (capsC (t, (ar, (c1, (c2, c3)))))) : Nat) : Int)) ∧ (((((List.length (capsC (t, (ar, (c1, (c2, c3)))))) : Nat) : Int) ≤ (10000000 : Int)) ∧ (((0 : Int) ≤ (0 : Int)) ∧ (((0 : Int) ≤ (((List.length (capsC (t, (ar, (c1, (c2, c3)))))) : Nat) : Int)) ∧ ((((List.length ([(IntKind.wrap IntKind.u8 c1), (IntKind.wrap IntKind.u8 c2)] ++ (twoF c3))) : Nat) : Int) ≤ ((4 : Int) + (0 : Int) : Int))))))) (.ret (rL tU (([(IntKind.wrap IntKind.u8 c1), (IntKind.wrap IntKind.u8 c2)] ++ (twoF c3)) ++ (List.map w8 (List.drop 0 (capsC (t, (ar, (c1, (c2, c3)))))))), ⟨0, [], []⟩))))))) (by kernel_rfl) ?_
  show Gives _ (.need _ (.ret (rL tU (kindF (t, ar, c1, c2, c3)), (⟨0, [], []⟩ : St))))
  refine .rnd fun ⟨h1, h2⟩ => ?_
  have h1 : t.length ≤ 1000000 := h1
  have h2 : ar.length ≤ 1000000 := h2
  have hl := capsF_len t
  have hc : (capsC (t, ar, c1, c2, c3)).length = (capsF t).length + ar.length := by simp [capsC]
  rw [List.drop_zero]
  exact .need rfl (.need rfl (.need rfl (.nd ⟨h1, h2⟩ (.nd ⟨rfl, by omega, by omega, by omega, by simp [twoF]⟩ (.refl _)))))

/-! ### strconv.Itoa, of a digit -/
def digitsS : ByteArray := "0123456789abcdefghijklmnopqrstuvwxyz".toByteArray
def digit (n : Int) : ByteArray := digitsS.extract n.toNat (n.toNat + 1)
def digCtr : Ctr := ctr (one aI) fun a => .need (decide (0 ≤ a.1 ∧ a.1 < 10)) (ans (rS (digit a.1)))
noncomputable def fn94 := mkFn Tryz.f156
theorem small_ok : CtrOk Tryz.prog 156 digCtr := by
  refine .mk C0_ok mixed (q := fn94) (.of Tryz.func156 (by kernel_rfl)) (N := 0) (nr := []) .none (by decide) ?_
  rintro ⟨(n : Int), ⟨⟩⟩ -
  refine Gives.of_eq (t' := .ite (decide (n < (10 : Int))) (.need (decide (((-(9223372036854775808 : Int) : Int) ≤ (n + (1 : Int) : Int)) ∧ ((n + (1 : Int) : Int) ≤ (9223372036854775807 : Int)))) (.need (okB n (n + (1 : Int) : Int) (ByteArray.size (ByteArray.mk (List.toArray [(48 : UInt8), (49 : UInt8), (50 : UInt8), (51 : UInt8), (52 : UInt8), (53 : UInt8), (54 : UInt8), (55 : UInt8), (56 : UInt8), (57 : UInt8), (97 : UInt8), (98 : UInt8), (99 : UInt8), (100 : UInt8), (101 : UInt8), (102 : UInt8), (103 : UInt8), (104 : UInt8), (105 : UInt8), (106 : UInt8), (107 : UInt8), (108 : UInt8), (109 : UInt8), (110 : UInt8), (111 : UInt8), (112 : UInt8), (113 : UInt8), (114 : UInt8), (115 : UInt8), (116 : UInt8), (117 : UInt8), (118 : UInt8), (119 : UInt8), (120 : UInt8), (121 : UInt8), (122 : UInt8)])))) (.ret (rS (ByteArray.extract (ByteArray.mk (List.toArray [(48 : UInt8), (49 : UInt8), (50 : UInt8), (51 : UInt8), (52 : UInt8), (53 : UInt8), (54 : UInt8), (55 : UInt8), (56 : UInt8), (57 : UInt8), (97 : UInt8), (98 : UInt8), (99 : UInt8), (100 : UInt8), (101 : UInt8), (102 : UInt8), (103 : UInt8), (104 : UInt8), (105 : UInt8), (106 : UInt8), (107 : UInt8), (108 : UInt8), (109 : UInt8), (110 : UInt8), (111 : UInt8), (112 : UInt8), (113 : UInt8), (114 : UInt8), (115 : UInt8), (116 : UInt8), (117 : UInt8), (118 : UInt8), (119 : UInt8), (120 : UInt8), (121 : UInt8), (122 : UInt8)])) (Int.toNat n) (Int.toNat (n + (1 : Int) : Int))), ⟨0, [], []⟩)))) (.need (decide (((-(9223372036854775808 : Int) : Int) ≤ (n * (2 : Int) : Int)) ∧ ((n * (2 : Int) : Int) ≤ (9223372036854775807 : Int)))) (.need (decide (((-(9223372036854775808 : Int) : Int) ≤ (n * (2 : Int) : Int)) ∧ ((n * (2 : Int) : Int) ≤ (9223372036854775807 : Int)))) (.need (decide (((-(9223372036854775808 : Int) : Int) ≤ ((n * (2 : Int) : Int) + (2 : Int) : Int)) ∧ (((n * (2 : Int) : Int) + (2 : Int) : Int) ≤ (9223372036854775807 : Int)))) (.need (okB (n * (2 : Int) : Int) ((n * (2 : Int) : Int) + (2 : Int) : Int) (ByteArray.size (ByteArray.mk (List.toArray (List.append (List.append [(48 : UInt8), (48 : UInt8), (48 : UInt8), (49 : UInt8), (48 : UInt8), (50 : UInt8), (48 : UInt8), (51 : UInt8), (48 : UInt8), (52 : UInt8), (48 : UInt8), (53 : UInt8), (48 : UInt8), (54 : UInt8), (48 : UInt8), (55 : UInt8), (48 : UInt8), (56 : UInt8), (48 : UInt8), (57 : UInt8), (49 : UInt8), (48 : UInt8), (49 : UInt8), (49 : UInt8), (49 : UInt8), (50 : UInt8), (49 : UInt8), (51 : UInt8), (49 : UInt8), (52 : UInt8), (49 : UInt8), (53 : UInt8), (49 : UInt8), (54 : UInt8), (49 : UInt8), (55 : UInt8), (49 : UInt8), (56 : UInt8), (49 : UInt8), (57 : UInt8), (50 : UInt8), (48 : UInt8), (50 : UInt8), (49 : UInt8), (50 : UInt8), (50 : UInt8), (50 : UInt8), (51 : UInt8), (50 : UInt8), (52 : UInt8)] [(50 : UInt8), (53 : UInt8), (50 : UInt8), (54 : UInt8), (50 : UInt8), (55 : UInt8), (50 : UInt8), (56 : UInt8), (50 : UInt8), (57 : UInt8), (51 : UInt8), (48 : UInt8), (51 : UInt8), (49 : UInt8), (51 : UInt8), (50 : UInt8), (51 : UInt8), (51 : UInt8), (51 : UInt8), (52 : UInt8), (51 : UInt8), (53 : UInt8), (51 : UInt8), (54 : UInt8), (51 : UInt8), (55 : UInt8), (51 : UInt8), (56 : UInt8), (51 : UInt8), (57 : UInt8), (52 : UInt8), (48 : UInt8), (52 : UInt8), (49 : UInt8), (52 : UInt8), (50 : UInt8), (52 : UInt8), (51 : UInt8), (52 : UInt8), (52 : UInt8), (52 : UInt8), (53 : UInt8), (52 : UInt8), (54 : UInt8), (52 : UInt8), (55 : UInt8), (52 : UInt8), (56 : UInt8), (52 : UInt8), (57 : UInt8)]) (List.append [(53 : UInt8), (48 : UInt8), (53 : UInt8), (49 : UInt8), (53 : UInt8), (50 : UInt8), (53 : UInt8), (51 : UInt8), (53 : UInt8), (52 : UInt8), (53 : UInt8), (53 : UInt8), (53 : UInt8), (54 : UInt8), (53 : UInt8), (55 : UInt8), (53 : UInt8), (56 : UInt8), (53 : UInt8), (57 : UInt8), (54 : UInt8), (48 : UInt8), (54 : UInt8), (49 : UInt8), (54 : UInt8), (50 : UInt8), (54 : UInt8), (51 : UInt8), (54 : UInt8), (52 : UInt8), (54 : UInt8), (53 : UInt8), (54 : UInt8), (54 : UInt8), (54 : UInt8), (55 : UInt8), (54 : UInt8), (56 : UInt8), (54 : UInt8), (57 : UInt8), (55 : UInt8), (48 : UInt8), (55 : UInt8), (49 : UInt8), (55 : UInt8), (50 : UInt8), (55 : UInt8), (51 : UInt8), (55 : UInt8), (52 : UInt8)] [(55 : UInt8), (53 : UInt8), (55 : UInt8), (54 : UInt8), (55 : UInt8), (55 : UInt8), (55 : UInt8), (56 : UInt8), (55 : UInt8), (57 : UInt8), (56 : UInt8), (48 : UInt8), (56 : UInt8), (49 : UInt8), (56 : UInt8), (50 : UInt8), (56 : UInt8), (51 : UInt8), (56 : UInt8), (52 : UInt8), (56 : UInt8), (53 : UInt8), (56 : UInt8), (54 : UInt8), (56 : UInt8), (55 : UInt8), (56 : UInt8), (56 : UInt8), (56 : UInt8), (57 : UInt8), (57 : UInt8), (48 : UInt8), (57 : UInt8), (49 : UInt8), (57 : UInt8), (50 : UInt8), (57 : UInt8), (51 : UInt8), (57 : UInt8), (52 : UInt8), (57 : UInt8), (53 : UInt8), (57 : UInt8), (54 : UInt8), (57 : UInt8), (55 : UInt8), (57 : UInt8), (56 : UInt8), (57 : UInt8), (57 : UInt8)])))))) (.ret (rS (ByteArray.extract (ByteArray.mk (List.toArray (List.append (List.append [(48 : UInt8), (48 : UInt8), (48 : UInt8), (49 : UInt8), (48 : UInt8), (50 : UInt8), (48 : UInt8), (51 : UInt8), (48 : UInt8), (52 : UInt8), (48 : UInt8), (53 : UInt8), (48 : UInt8), (54 : UInt8), (48 : UInt8), (55 : UInt8), (48 : UInt8), (56 : UInt8), (48 : UInt8), (57 : UInt8), (49 : UInt8), (48 : UInt8), (49 : UInt8), (49 : UInt8), (49 : UInt8), (50 : UInt8), (49 : UInt8), (51 : UInt8), (49 : UInt8), (52 : UInt8), (49 : UInt8), (53 : UInt8), (49 : UInt8), (54 : UInt8), (49 : UInt8), (55 : UInt8), (49 : UInt8), (56 : UInt8), (49 : UInt8), (57 : UInt8), (50 : UInt8), (48 : UInt8), (50 : UInt8), (49 : UInt8), (50 : UInt8), (50 : UInt8), (50 : UInt8), (51 : UInt8), (50 : UInt8), (52 : UInt8)] [(50 : UInt8), (53 : UInt8), (50 : UInt8), (54 : UInt8), (50 : UInt8), (55 : UInt8), (50 : UInt8), (56 : UInt8), (50 : UInt8), (57 : UInt8), (51 : UInt8), (48 : UInt8), (51 : UInt8), (49 : UInt8), (51 : UInt8), (50 : UInt8), (51 : UInt8), (51 : UInt8), (51 : UInt8), (52 : UInt8), (51 : UInt8), (53 : UInt8), (51 : UInt8), (54 : UInt8), (51 : UInt8), (55 : UInt8), (51 : UInt8), (56 : UInt8), (51 : UInt8), (57 : UInt8), (52 : UInt8), (48 : UInt8), (52 : UInt8), (49 : UInt8), (52 : UInt8), (50 : UInt8), (52 : UInt8), (51 : UInt8), (52 : UInt8), (52 : UInt8), (52 : UInt8), (53 : UInt8), (52 : UInt8), (54 : UInt8), (52 : UInt8), (55 : UInt8), (52 : UInt8), (56 : UInt8), (52 : UInt8), (57 : UInt8)]) (List.append [(53 : UInt8), (48 : UInt8), (53 : UInt8), (49 : UInt8), (53 : UInt8), (50 : UInt8), (53 : UInt8), (51 : UInt8), (53 : UInt8), (52 : UInt8), (53 : UInt8), (53 : UInt8), (53 : UInt8), (54 : UInt8), (53 : UInt8), (55 : UInt8), (53 : UInt8), (56 : UInt8), (53 : UInt8), (57 : UInt8), (54 : UInt8), (48 : UInt8), (54 : UInt8), (49 : UInt8), (54 : UInt8), (50 : UInt8), (54 : UInt8), (51 : UInt8), (54 : UInt8), (52 : UInt8), (54 : UInt8), (53 : UInt8), (54 : UInt8), (54 : UInt8), (54 : UInt8), (55 : UInt8), (54 : UInt8), (56 : UInt8), (54 : UInt8), (57 : UInt8), (55 : UInt8), (48 : UInt8), (55 : UInt8), (49 : UInt8), (55 : UInt8), (50 : UInt8), (55 : UInt8), (51 : UInt8), (55 : UInt8), (52 : UInt8)] [(55 : UInt8), (53 : UInt8), (55 : UInt8), (54 : UInt8), (55 : UInt8), (55 : UInt8), (55 : UInt8), (56 : UInt8), (55 : UInt8), (57 : UInt8), (56 : UInt8), (48 : UInt8), (56 : UInt8), (49 : UInt8), (56 : UInt8), (50 : UInt8), (56 : UInt8), (51 : UInt8), (56 : UInt8), (52 : UInt8), (56 : UInt8), (53 : UInt8), (56 : UInt8), (54 : UInt8), (56 : UInt8), (55 : UInt8), (56 : UInt8), (56 : UInt8), (56 : UInt8), (57 : UInt8), (57 : UInt8), (48 : UInt8), (57 : UInt8), (49 : UInt8), (57 : UInt8), (50 : UInt8), (57 : UInt8), (51 : UInt8), (57 : UInt8), (52 : UInt8), (57 : UInt8), (53 : UInt8), (57 : UInt8), (54 : UInt8), (57 : UInt8), (55 : UInt8), (57 : UInt8), (56 : UInt8), (57 : UInt8), (57 : UInt8)])))) (Int.toNat (n * (2 : Int) : Int)) (Int.toNat ((n * (2 : Int) : Int) + (2 : Int) : Int))), ⟨0, [], []⟩))))))) (by kernel_rfl) ?_
  show Gives _ (.need _ (.ret (rS (digit n), (⟨0, [], []⟩ : St))))
  refine .rnd fun ⟨h1, h2⟩ => ?_
  have h1 : 0 ≤ n := h1
  have h2 : n < 10 := h2
  refine .tt (decide_eq_true h2) (.nd (by omega) (.need (by simp [okB]; refine ⟨h1, by omega, ?_⟩; show n + 1 ≤ ((36 : Nat) : Int); omega) ?_))
  rw [show (n + 1).toNat = n.toNat + 1 by omega]; exact .refl _
noncomputable def fn80 := mkFn Tryz.f91
def C80 : Cx := ⟨T, [], [(156, digCtr)], [], []⟩
theorem C80_ok : CxOk Tryz.prog C80 := ⟨T_ok, .nil _, .cons small_ok (.nil _), .nil _⟩
def dig2Ctr : Ctr := ctr (two aI aI) fun a => .need (decide (0 ≤ a.1 ∧ a.1 < 10 ∧ a.2.1 = 10)) (ans (rS (digit a.1)))
theorem format_ok : CtrOk Tryz.prog 91 dig2Ctr := by
  refine .mk C80_ok mixed (q := fn80) (.of Tryz.func91 (by kernel_rfl)) (N := 0) (nr := []) .none (by decide) ?_
  rintro ⟨(n : Int), (b : Int), ⟨⟩⟩ -
  show Gives _ (.need _ (.ret (rS (digit n), (⟨0, [], []⟩ : St))))
  refine .rnd fun ⟨h1, h2, h3⟩ => ?_
  have h1 : 0 ≤ n := h1
  have h2 : n < 10 := h2
  have h3 : b = 10 := h3
  subst h3
  refine Gives.of_eq (t' := .need true (.ite (decide ((0 : Int) ≤ n)) (.ite (decide (n < (100 : Int))) (.need (decide (((0 : Int) ≤ n) ∧ (n < (10 : Int)))) (.ret (rS (digit n), ⟨0, [], []⟩))) (.need (decide (n < (0 : Int))) (.fail))) (.need (decide (n < (0 : Int))) (.fail)))) (by kernel_rfl) ?_
  exact .need rfl (.tt (decide_eq_true h1) (.tt (decide_eq_true (by omega)) (.nd ⟨h1, h2⟩ (.refl _))))
noncomputable def fn64 := mkFn Tryz.f52
def C64 : Cx := ⟨T, [], [(91, dig2Ctr)], [], []⟩
theorem C64_ok : CxOk Tryz.prog C64 := ⟨T_ok, .nil _, .cons format_ok (.nil _), .nil _⟩
theorem itoa0_ok : CtrOk Tryz.prog 52 digCtr := by
  refine .mk C64_ok mixed (q := fn64) (.of Tryz.func52 (by kernel_rfl)) (N := 0) (nr := []) .none (by decide) ?_
  rintro ⟨(n : Int), ⟨⟩⟩ -
  refine Gives.of_eq (t' := .need (decide (((0 : Int) ≤ n) ∧ ((n < (10 : Int)) ∧ ((10 : Int) = (10 : Int))))) (.ret (rS (digit n), ⟨0, [], []⟩))) (by kernel_rfl) ?_
  show Gives _ (.need _ (.ret (rS (digit n), (⟨0, [], []⟩ : St))))
  refine .rnd fun ⟨h1, h2⟩ => ?_
  exact .nd ⟨h1, h2, rfl⟩ (.refl _)
noncomputable def fn44 := mkFn Tryz.f28
def C44 : Cx := ⟨T, [], [(52, digCtr)], [], []⟩
theorem C44_ok : CxOk Tryz.prog C44 := ⟨T_ok, .nil _, .cons itoa0_ok (.nil _), .nil _⟩
theorem itoa_ok : CtrOk Tryz.prog 28 digCtr := by
  refine .mk C44_ok mixed (q := fn44) (.of Tryz.func28 (by kernel_rfl)) (N := 0) (nr := []) .none (by decide) ?_
  rintro ⟨(n : Int), ⟨⟩⟩ -
  refine Gives.of_eq (t' := .need (decide (((0 : Int) ≤ n) ∧ (n < (10 : Int)))) (.ret (rS (digit n), ⟨0, [], []⟩))) (by kernel_rfl) ?_
  show Gives _ (.need _ (.ret (rS (digit n), (⟨0, [], []⟩ : St))))
  refine .rnd fun ⟨h1, h2⟩ => ?_
  exact .nd ⟨h1, h2⟩ (.refl _)
end Go.Proofs.YtjebfbkigkjboaaGreatDoor.Sy

/- Contracts: an image as files. -/
set_option maxRecDepth 100000
namespace Go.Proofs.YtjebfbkigkjboaaGreatDoor.Sy
open Go.RowKit Kit Go.Proofs
abbrev tFile : Ty := .pair .str (.pair .bool tB)
abbrev tImg : Ty := .pair tProg (.pair tCls (.pair tInp tTr))
abbrev File : Type := ByteArray × Bool × List Int
abbrev Img : Type := Prog × Cls × Inp × Trc
def bs (s : String) : ByteArray := s.toByteArray
def treeFs : List Ent → List (List Int) → List File
  | [], _ => []
  | x :: r, fs => if x.2.1 then (bs "tree/" ++ x.1, true, []) :: treeFs r fs else (bs "tree/" ++ x.1, false, fs.headD []) :: treeFs r fs.tail
def argFs : Int → List (List Int) → List File
  | _, [] => []
  | k, b :: r => (bs "args/" ++ digit k, false, b) :: argFs (k + 1) r
def filesF (m : Img) (p : List Int) : List File :=
  (bs "prog", false, p) :: (treeFs m.2.1.1 m.2.2.1.1 ++ argFs 0 m.2.2.1.2.1) ++ [(bs "fails", false, m.2.2.1.2.2.map truth), (bs "class", false, kindF m.2.1), (bs "trace", false, traceF m.2.2.2)]
noncomputable def fn24 := mkFn Tryz.f12
def C24 : Cx := ⟨T, FL, [(28, digCtr), (29, truthCtr), (30, kindCtr), (31, traceCtr)], [], [17, FA, FS + 12]⟩
theorem C24_ok : CxOk Tryz.prog C24 := ⟨T_ok, FL_ok, .cons itoa_ok (.cons truth_ok (.cons kind_ok (.cons trace_ok (.nil _)))), .nil _⟩
def nr24 : List NR := [⟨5, tFile, 89⟩, ⟨12, tU, 5⟩]
def q24a : Frm := ⟨94, [(2, .ptr tImg), (5, .row 5), (6, .dat tI), (20, .dat (.sl tEnt)), (21, .dat tI), (22, .dat tI)], [(5, .row tFile 89)]⟩
def R24a : q24a.V → Tr (Ex × St) := fun (((m : Img), _, (j : Int), (L : List Ent), (n : Int), (k : Int), _), (acc : List File), _) =>
  .need (decide (n = L.length ∧ n ≤ 1000000 ∧ 0 ≤ k ∧ k ≤ n ∧ acc.length ≤ k + 1 ∧ 0 ≤ j ∧ (capsF (L.drop k.toNat)).length + j ≤ m.2.2.1.1.length ∧ m.2.2.1.1.length ≤ 1000000 ∧ L.all (fun x => decide (x.1.size ≤ 1000000)) = true)) (.ret (.ex 0, ⟨94, [(2, .e (.c (.dp (split tImg m)))), (5, .e (.c (.row 5)))], [(5, .row tFile 89 (acc ++ treeFs (L.drop k.toNat) (m.2.2.1.1.drop j.toNat)))]⟩))
def q24b : Frm := ⟨94, [(2, .ptr tImg), (5, .row 5), (51, .dat (.sl tB)), (52, .dat tI), (53, .dat tI)], [(5, .row tFile 89)]⟩
def R24b : q24b.V → Tr (Ex × St) := fun (((m : Img), _, (L : List (List Int)), (n : Int), (k : Int), _), (acc : List File), _) =>
  .need (decide (n = L.length ∧ n ≤ 10 ∧ 0 ≤ k ∧ k ≤ n ∧ acc.length ≤ 10000000 + k)) (.ret (.ex 2, ⟨94, [(2, .e (.c (.dp (split tImg m)))), (5, .e (.c (.row 5)))], [(5, .row tFile 89 (acc ++ argFs k (L.drop k.toNat)))]⟩))
def q24c : Frm := ⟨94, [(2, .ptr tImg), (5, .row 5), (12, .row 12), (69, .dat (.sl .bool)), (70, .dat tI), (71, .dat tI)], [(5, .row tFile 89), (12, .row tU 5)]⟩
def R24c : q24c.V → Tr (Ex × St) := fun (((m : Img), _, _, (L : List Bool), (n : Int), (k : Int), _), (fs : List File), (acc : List Int), _) =>
  .need (decide (n = L.length ∧ n ≤ 1000000 ∧ 0 ≤ k ∧ k ≤ n ∧ acc.length ≤ k)) (.ret (.ex 4, ⟨94, [(2, .e (.c (.dp (split tImg m)))), (5, .e (.c (.row 5))), (12, .e (.c (.row 12)))], [(5, .row tFile 89 fs), (12, .row tU 5 (acc ++ (L.drop k.toNat).map truth))]⟩))
def lp24 : LP := [(0, sumP q24a R24a), (2, sumP q24b R24b), (4, sumP q24c R24c)]
theorem treeFs_cons (x : Ent) (r : List Ent) (fs : List (List Int)) : treeFs (x :: r) fs = if x.2.1 then (bs "tree/" ++ x.1, true, []) :: treeFs r fs else (bs "tree/" ++ x.1, false, fs.headD []) :: treeFs r fs.tail := rfl
theorem lp24_ok : LpsOk 0 C24 nr24 lp24 fn24.loops := by
  refine .all (by kernel_rfl) ?_
  simp only [lp24, List.forall_mem_cons, List.not_mem_nil, false_imp_iff, implies_true, and_true]
  refine ⟨?_, ?_, ?_⟩
  · refine .pat q24a R24a (fun v => (v.1.2.2.2.2.1 - v.1.2.2.2.2.2.1).toNat) ?_
    rintro ⟨⟨(m : Img), ⟨⟩, (j : Int), (L : List Ent), (n : Int), (k : Int), ⟨⟩⟩, ⟨(acc : List File), ⟨⟩⟩⟩ ih
    refine Gives.run (t' := .ite (decide (k < n)) (.need (inR k (List.length L)) (.need true (.need (decide (((ByteArray.size (ByteArray.mk (List.toArray [(116 : UInt8), (114 : UInt8), (101 : UInt8), (101 : UInt8), (47 : UInt8)]))) + (ByteArray.size ((List.getD L (Int.toNat k) (ByteArray.empty, (false, (0 : Int))))).1) : Nat) ≤ 9223372036854775807)) (.ite (!(((List.getD L (Int.toNat k) (ByteArray.empty, (false, (0 : Int))))).2).1) (.need (inR j (List.length ((((m).2).2).1).1)) (.need (decide (((-(9223372036854775808 : Int) : Int) ≤ (j + (1 : Int) : Int)) ∧ ((j + (1 : Int) : Int) ≤ (9223372036854775807 : Int)))) (.need true (.need true (.need (decide ((((List.length acc) + (List.length [(((ByteArray.mk (List.toArray [(116 : UInt8), (114 : UInt8), (101 : UInt8), (101 : UInt8), (47 : UInt8)])) ++ ((List.getD L (Int.toNat k) (ByteArray.empty, (false, (0 : Int))))).1), ((((List.getD L (Int.toNat k) (ByteArray.empty, (false, (0 : Int))))).2).1, (List.getD ((((m).2).2).1).1 (Int.toNat j) ([] : List Int))))]) : Nat) * (Lay.bytes L89) : Nat) ≤ 140737488355328)) (.need (decide (((-(9223372036854775808 : Int) : Int) ≤ (k + (1 : Int) : Int)) ∧ ((k + (1 : Int) : Int) ≤ (9223372036854775807 : Int)))) (.ret (.nx, ⟨94, [(2, .e (.c (.dp [.sl tInst ((m).1).1, .sl Ty.str ((m).1).2, .sl tEnt (((m).2).1).1, .sl tI ((((m).2).1).2).1, .v (.int .i64 (((((m).2).1).2).2).1), .v (.int .i64 ((((((m).2).1).2).2).2).1), .v (.int .i64 ((((((m).2).1).2).2).2).2), .sl tB ((((m).2).2).1).1, .sl tB (((((m).2).2).1).2).1, .sl Ty.bool (((((m).2).2).1).2).2, .sl tEv ((((m).2).2).2).1, .v (.int .i64 (((((m).2).2).2).2).1), .v (.int .u16 (((((m).2).2).2).2).2)]))), (5, .e (.c (.row 47))), (6, rI (j + (1 : Int) : Int)), (20, rL tEnt L), (21, rI n), (22, rI (k + (1 : Int) : Int))], [(8, .cells 84 [.d (.v (.string ((List.getD L (Int.toNat k) (ByteArray.empty, (false, (0 : Int))))).1)), .d (.v (.bool (((List.getD L (Int.toNat k) (ByteArray.empty, (false, (0 : Int))))).2).1)), .d (.v (.int .i64 (((List.getD L (Int.toNat k) (ByteArray.empty, (false, (0 : Int))))).2).2))]), (9, .cells 89 [.d (.v (.string ((ByteArray.mk (List.toArray [(116 : UInt8), (114 : UInt8), (101 : UInt8), (101 : UInt8), (47 : UInt8)])) ++ ((List.getD L (Int.toNat k) (ByteArray.empty, (false, (0 : Int))))).1))), .d (.v (.bool (((List.getD L (Int.toNat k) (ByteArray.empty, (false, (0 : Int))))).2).1)), .d (.sl tU (List.getD ((((m).2).2).1).1 (Int.toNat j) ([] : List Int)))]), (47, .row tFile 89 (acc ++ [(((ByteArray.mk (List.toArray [(116 : UInt8), (114 : UInt8), (101 : UInt8), (101 : UInt8), (47 : UInt8)])) ++ ((List.getD L (Int.toNat k) (ByteArray.empty, (false, (0 : Int))))).1), ((((List.getD L (Int.toNat k) (ByteArray.empty, (false, (0 : Int))))).2).1, (List.getD ((((m).2).2).1).1 (Int.toNat j) ([] : List Int))))]))]⟩)))))))) (.need true (.need true (.need (decide ((((List.length acc) + (List.length [(((ByteArray.mk (List.toArray [(116 : UInt8), (114 : UInt8), (101 : UInt8), (101 : UInt8), (47 : UInt8)])) ++ ((List.getD L (Int.toNat k) (ByteArray.empty, (false, (0 : Int))))).1), ((((List.getD L (Int.toNat k) (ByteArray.empty, (false, (0 : Int))))).2).1, ([] : List Int)))]) : Nat) * (Lay.bytes L89) : Nat) ≤ 140737488355328)) (.need (decide (((-(9223372036854775808 : Int) : Int) ≤ (k + (1 : Int) : Int)) ∧ ((k + (1 : Int) : Int) ≤ (9223372036854775807 : Int)))) (.ret (.nx, ⟨94, [(2, .e (.c (.dp [.sl tInst ((m).1).1, .sl Ty.str ((m).1).2, .sl tEnt (((m).2).1).1, .sl tI ((((m).2).1).2).1, .v (.int .i64 (((((m).2).1).2).2).1), .v (.int .i64 ((((((m).2).1).2).2).2).1), .v (.int .i64 ((((((m).2).1).2).2).2).2), .sl tB ((((m).2).2).1).1, .sl tB (((((m).2).2).1).2).1, .sl Ty.bool (((((m).2).2).1).2).2, .sl tEv ((((m).2).2).2).1, .v (.int .i64 (((((m).2).2).2).2).1), .v (.int .u16 (((((m).2).2).2).2).2)]))), (5, .e (.c (.row 47))), (6, rI j), (20, rL tEnt L), (21, rI n), (22, rI (k + (1 : Int) : Int))], [(8, .cells 84 [.d (.v (.string ((List.getD L (Int.toNat k) (ByteArray.empty, (false, (0 : Int))))).1)), .d (.v (.bool (((List.getD L (Int.toNat k) (ByteArray.empty, (false, (0 : Int))))).2).1)), .d (.v (.int .i64 (((List.getD L (Int.toNat k) (ByteArray.empty, (false, (0 : Int))))).2).2))]), (9, .cells 89 [.d (.v (.string ((ByteArray.mk (List.toArray [(116 : UInt8), (114 : UInt8), (101 : UInt8), (101 : UInt8), (47 : UInt8)])) ++ ((List.getD L (Int.toNat k) (ByteArray.empty, (false, (0 : Int))))).1))), .d (.v (.bool (((List.getD L (Int.toNat k) (ByteArray.empty, (false, (0 : Int))))).2).1)), .nil]), (47, .row tFile 89 (acc ++ [(((ByteArray.mk (List.toArray [(116 : UInt8), (114 : UInt8), (101 : UInt8), (101 : UInt8), (47 : UInt8)])) ++ ((List.getD L (Int.toNat k) (ByteArray.empty, (false, (0 : Int))))).1), ((((List.getD L (Int.toNat k) (ByteArray.empty, (false, (0 : Int))))).2).1, ([] : List Int)))]))]⟩)))))))))) (.ret (.ex 0, ⟨94, [(2, .e (.c (.dp [.sl tInst ((m).1).1, .sl Ty.str ((m).1).2, .sl tEnt (((m).2).1).1, .sl tI ((((m).2).1).2).1, .v (.int .i64 (((((m).2).1).2).2).1), .v (.int .i64 ((((((m).2).1).2).2).2).1), .v (.int .i64 ((((((m).2).1).2).2).2).2), .sl tB ((((m).2).2).1).1, .sl tB (((((m).2).2).1).2).1, .sl Ty.bool (((((m).2).2).1).2).2, .sl tEv ((((m).2).2).2).1, .v (.int .i64 (((((m).2).2).2).2).1), .v (.int .u16 (((((m).2).2).2).2).2)]))), (5, .e (.c (.row 5)))], [(5, .row tFile 89 acc)]⟩))) (by kernel_rfl) ?_
    refine .rnd fun ⟨h1, h2, h3, h4, h5, h6, h7, h8, h9⟩ => ?_
    refine .lif (fun hk => ?_) (fun hk => ?_)
    · have e : (k + 1).toNat = k.toNat + 1 := by omega
      have hx := of_decide_eq_true (List.all_eq_true.1 h9 _ (List.getElem_mem (show k.toNat < L.length by omega)))
      rw [show L[k.toNat]'(by omega) = L.getD k.toNat (ByteArray.empty, false, 0) by simp [List.getD_eq_getElem?_getD, List.getElem?_eq_getElem (show k.toNat < L.length by omega)]] at hx
      rw [drop_at L k.toNat (ByteArray.empty, false, 0) (by omega)] at h7 ⊢
      refine .lneed (inR_of h3 (by omega)) ?_
      generalize L.getD k.toNat (ByteArray.empty, false, 0) = x at hx h7 ⊢
      obtain ⟨p, d, c⟩ := x
      have hs : (bs "tree/").size = 5 := by decide +kernel
      refine .lneed rfl (.lnd (by show (bs "tree/").size + p.size ≤ _; have hx : p.size ≤ 1000000 := hx; omega) ?_)
      cases d with
      | false =>
        have h7 : ((capsF (L.drop (k.toNat + 1))).length + 1 : Nat) + j ≤ (m.2.2.1.1.length : Int) := h7
        have ej : (j + 1).toNat = j.toNat + 1 := by omega
        refine Gives.lite (fun _ => ?_) (fun h => by cases h)
        refine .lneed (inR_of h6 (by omega)) (.lnd (by omega) (.lneed rfl (.lneed rfl (.lnd (by show (acc.length + 1) * 48 ≤ _; omega) (.lnd (by omega) ?_)))))
        refine Gives.next (σ' := q24a.st ((m, (), j + 1, L, n, k + 1, ()), (acc ++ [(bs "tree/" ++ p, false, m.2.2.1.1.getD j.toNat [])], ()))) (by kernel_rfl) ((ih ((m, (), j + 1, L, n, k + 1, ()), (acc ++ [(bs "tree/" ++ p, false, m.2.2.1.1.getD j.toNat [])], ())) (by simp only; omega)).trans ?_)
        refine .nd ⟨h1, h2, by omega, by omega, by rw [List.length_append]; simp; omega, by omega, by rw [e]; omega, h8, h9⟩ ?_
        rw [e, ej, treeFs_cons, List.append_assoc, drop_at m.2.2.1.1 j.toNat [] (by omega)]
        exact .refl _
      | true =>
        have h7 : (capsF (L.drop (k.toNat + 1))).length + j ≤ (m.2.2.1.1.length : Int) := h7
        refine Gives.lite (fun h => by cases h) (fun _ => ?_)
        refine .lneed rfl (.lneed rfl (.lnd (by show (acc.length + 1) * 48 ≤ _; omega) (.lnd (by omega) ?_)))
        refine Gives.next (σ' := q24a.st ((m, (), j, L, n, k + 1, ()), (acc ++ [(bs "tree/" ++ p, true, [])], ()))) (by kernel_rfl) ((ih ((m, (), j, L, n, k + 1, ()), (acc ++ [(bs "tree/" ++ p, true, [])], ())) (by simp only; omega)).trans ?_)
        refine .nd ⟨h1, h2, by omega, by omega, by rw [List.length_append]; simp; omega, by omega, by rw [e]; omega, h8, h9⟩ ?_
        rw [e, treeFs_cons, List.append_assoc]
        exact .refl _
    · rw [List.drop_eq_nil_of_le (by omega)]
      simp only [treeFs, List.append_nil]
      exact .refl _
  · refine .pat q24b R24b (fun v => (v.1.2.2.2.1 - v.1.2.2.2.2.1).toNat) ?_
    rintro ⟨⟨(m : Img), ⟨⟩, (L : List (List Int)), (n : Int), (k : Int), ⟨⟩⟩, ⟨(acc : List File), ⟨⟩⟩⟩ ih
    refine Gives.run (t' := .ite (decide (k < n)) (.need (inR k (List.length L)) (.need (decide (((0 : Int) ≤ k) ∧ (k < (10 : Int)))) (.need (decide (((ByteArray.size (ByteArray.mk (List.toArray [(97 : UInt8), (114 : UInt8), (103 : UInt8), (115 : UInt8), (47 : UInt8)]))) + (ByteArray.size (digit k)) : Nat) ≤ 9223372036854775807)) (.need true (.need (decide ((((List.length acc) + (List.length [(((ByteArray.mk (List.toArray [(97 : UInt8), (114 : UInt8), (103 : UInt8), (115 : UInt8), (47 : UInt8)])) ++ (digit k)), (false, (List.getD L (Int.toNat k) ([] : List Int))))]) : Nat) * (Lay.bytes L89) : Nat) ≤ 140737488355328)) (.need (decide (((-(9223372036854775808 : Int) : Int) ≤ (k + (1 : Int) : Int)) ∧ ((k + (1 : Int) : Int) ≤ (9223372036854775807 : Int)))) (.ret (.nx, ⟨94, [(2, .e (.c (.dp [.sl tInst ((m).1).1, .sl Ty.str ((m).1).2, .sl tEnt (((m).2).1).1, .sl tI ((((m).2).1).2).1, .v (.int .i64 (((((m).2).1).2).2).1), .v (.int .i64 ((((((m).2).1).2).2).2).1), .v (.int .i64 ((((((m).2).1).2).2).2).2), .sl tB ((((m).2).2).1).1, .sl tB (((((m).2).2).1).2).1, .sl Ty.bool (((((m).2).2).1).2).2, .sl tEv ((((m).2).2).2).1, .v (.int .i64 (((((m).2).2).2).2).1), .v (.int .u16 (((((m).2).2).2).2).2)]))), (5, .e (.c (.row 65))), (51, rL tB L), (52, rI n), (53, rI (k + (1 : Int) : Int))], [(65, .row tFile 89 (acc ++ [(((ByteArray.mk (List.toArray [(97 : UInt8), (114 : UInt8), (103 : UInt8), (115 : UInt8), (47 : UInt8)])) ++ (digit k)), (false, (List.getD L (Int.toNat k) ([] : List Int))))]))]⟩)))))))) (.ret (.ex 2, ⟨94, [(2, .e (.c (.dp [.sl tInst ((m).1).1, .sl Ty.str ((m).1).2, .sl tEnt (((m).2).1).1, .sl tI ((((m).2).1).2).1, .v (.int .i64 (((((m).2).1).2).2).1), .v (.int .i64 ((((((m).2).1).2).2).2).1), .v (.int .i64 ((((((m).2).1).2).2).2).2), .sl tB ((((m).2).2).1).1, .sl tB (((((m).2).2).1).2).1, .sl Ty.bool (((((m).2).2).1).2).2, .sl tEv ((((m).2).2).2).1, .v (.int .i64 (((((m).2).2).2).2).1), .v (.int .u16 (((((m).2).2).2).2).2)]))), (5, .e (.c (.row 5)))], [(5, .row tFile 89 acc)]⟩))) (by kernel_rfl) ?_
    refine .rnd fun ⟨h1, h2, h3, h4, h5⟩ => ?_
    refine .lif (fun hk => ?_) (fun hk => ?_)
    · have e : (k + 1).toNat = k.toNat + 1 := by omega
      rw [drop_at L k.toNat [] (by omega)]
      refine .lneed (inR_of h3 (by omega)) ?_
      generalize L.getD k.toNat [] = x
      have hs : (bs "args/").size = 5 := by decide +kernel
      have hd : (digit k).size ≤ 36 := by
        show (digitsS.extract _ _).size ≤ 36
        rw [ByteArray.size_extract]
        have : digitsS.size = 36 := by decide +kernel
        omega
      refine .lnd ⟨h3, by omega⟩ (.lnd (by show (bs "args/").size + (digit k).size ≤ _; omega) (.lneed rfl (.lnd (by show (acc.length + 1) * 48 ≤ _; omega) (.lnd (by omega) ?_))))
      refine Gives.next (σ' := q24b.st ((m, (), L, n, k + 1, ()), (acc ++ [(bs "args/" ++ digit k, false, x)], ()))) (by kernel_rfl) ((ih ((m, (), L, n, k + 1, ()), (acc ++ [(bs "args/" ++ digit k, false, x)], ())) (by simp only; omega)).trans ?_)
      refine .nd ⟨h1, h2, by omega, by omega, by rw [List.length_append]; simp; omega⟩ ?_
      rw [e, List.append_assoc]; exact .refl _
    · rw [List.drop_eq_nil_of_le (by omega)]
      simp only [argFs, List.append_nil]
      exact .refl _
  · refine .pat q24c R24c (fun v => (v.1.2.2.2.2.1 - v.1.2.2.2.2.2.1).toNat) ?_
    rintro ⟨⟨(m : Img), ⟨⟩, ⟨⟩, (L : List Bool), (n : Int), (k : Int), ⟨⟩⟩, ⟨(fs : List File), (acc : List Int), ⟨⟩⟩⟩ ih
    refine Gives.run (t' := .ite (decide (k < n)) (.need (inR k (List.length L)) (.need true (.need (decide ((((List.length acc) + (List.length [(truth (List.getD L (Int.toNat k) false))]) : Nat) * (Lay.bytes L5) : Nat) ≤ 140737488355328)) (.need (decide (((-(9223372036854775808 : Int) : Int) ≤ (k + (1 : Int) : Int)) ∧ ((k + (1 : Int) : Int) ≤ (9223372036854775807 : Int)))) (.ret (.nx, ⟨94, [(2, .e (.c (.dp [.sl tInst ((m).1).1, .sl Ty.str ((m).1).2, .sl tEnt (((m).2).1).1, .sl tI ((((m).2).1).2).1, .v (.int .i64 (((((m).2).1).2).2).1), .v (.int .i64 ((((((m).2).1).2).2).2).1), .v (.int .i64 ((((((m).2).1).2).2).2).2), .sl tB ((((m).2).2).1).1, .sl tB (((((m).2).2).1).2).1, .sl Ty.bool (((((m).2).2).1).2).2, .sl tEv ((((m).2).2).2).1, .v (.int .i64 (((((m).2).2).2).2).1), .v (.int .u16 (((((m).2).2).2).2).2)]))), (5, .e (.c (.row 5))), (12, .e (.c (.row 79))), (69, rL Ty.bool L), (70, rI n), (71, rI (k + (1 : Int) : Int))], [(5, .row tFile 89 fs), (79, .row tU 5 (acc ++ [(truth (List.getD L (Int.toNat k) false))]))]⟩)))))) (.ret (.ex 4, ⟨94, [(2, .e (.c (.dp [.sl tInst ((m).1).1, .sl Ty.str ((m).1).2, .sl tEnt (((m).2).1).1, .sl tI ((((m).2).1).2).1, .v (.int .i64 (((((m).2).1).2).2).1), .v (.int .i64 ((((((m).2).1).2).2).2).1), .v (.int .i64 ((((((m).2).1).2).2).2).2), .sl tB ((((m).2).2).1).1, .sl tB (((((m).2).2).1).2).1, .sl Ty.bool (((((m).2).2).1).2).2, .sl tEv ((((m).2).2).2).1, .v (.int .i64 (((((m).2).2).2).2).1), .v (.int .u16 (((((m).2).2).2).2).2)]))), (5, .e (.c (.row 5))), (12, .e (.c (.row 12)))], [(5, .row tFile 89 fs), (12, .row tU 5 acc)]⟩))) (by kernel_rfl) ?_
    refine .rnd fun ⟨h1, h2, h3, h4, h5⟩ => ?_
    refine .lif (fun hk => ?_) (fun hk => ?_)
    · have e : (k + 1).toNat = k.toNat + 1 := by omega
      rw [drop_at L k.toNat false (by omega)]
      refine .lneed (inR_of h3 (by omega)) ?_
      generalize L.getD k.toNat false = x
      refine .lneed rfl (.lnd (by show (acc.length + 1) * 1 ≤ _; omega) (.lnd (by omega) ?_))
      refine Gives.next (σ' := q24c.st ((m, (), (), L, n, k + 1, ()), (fs, acc ++ [truth x], ()))) (by kernel_rfl) ((ih ((m, (), (), L, n, k + 1, ()), (fs, acc ++ [truth x], ())) (by simp only; omega)).trans ?_)
      refine .nd ⟨h1, h2, by omega, by omega, by rw [List.length_append]; simp; omega⟩ ?_
      rw [e, List.map_cons, List.append_assoc]; exact .refl _
    · rw [List.drop_eq_nil_of_le (by omega), List.map_nil, List.append_nil]
      exact .refl _
theorem treeFs_len : ∀ (t : List Ent) (fs : List (List Int)), (treeFs t fs).length = t.length
  | [], _ => rfl
  | x :: r, fs => by rw [treeFs_cons]; split <;> simp only [List.length_cons, treeFs_len r]
theorem argFs_len : ∀ (l : List (List Int)) (k : Int), (argFs k l).length = l.length
  | [], _ => rfl
  | x :: r, k => by simp only [argFs, List.length_cons, argFs_len r]
def filesOk (m : Img) : Bool := decide (m.2.1.1.length ≤ 1000000 ∧ m.2.1.2.1.length ≤ 1000000 ∧ (capsF m.2.1.1).length ≤ m.2.2.1.1.length ∧ m.2.2.1.1.length ≤ 1000000 ∧ m.2.2.1.2.1.length ≤ 10 ∧ m.2.2.1.2.2.length ≤ 1000000 ∧ m.2.2.2.1.length ≤ 1000000) && m.2.1.1.all fun x => decide (x.1.size ≤ 1000000)
def imgFilesCtr : Ctr := ctr (two (aAgg tImg) (aVal tB)) fun a => .need (filesOk a.1) (ans (rL tFile (filesF a.1 a.2.1)))
theorem imgFiles_ok : CtrOk Tryz.prog 12 imgFilesCtr := by
  refine .mk C24_ok mixed (q := fn24) (.of Tryz.func12 (by kernel_rfl)) lp24_ok (by decide) ?_
  rintro ⟨(m : Img), (p : List Int), ⟨⟩⟩ -
  refine Gives.of_eq (t' := .need (decide (((((List.length (((m).2).1).1) : Nat) : Int) = (((List.length (((m).2).1).1) : Nat) : Int)) ∧ (((((List.length (((m).2).1).1) : Nat) : Int) ≤ (1000000 : Int)) ∧ (((0 : Int) ≤ (0 : Int)) ∧ (((0 : Int) ≤ (((List.length (((m).2).1).1) : Nat) : Int)) ∧ (((((List.length [((ByteArray.mk (List.toArray [(112 : UInt8), (114 : UInt8), (111 : UInt8), (103 : UInt8)])), (false, p))]) : Nat) : Int) ≤ ((0 : Int) + (1 : Int) : Int)) ∧ (((0 : Int) ≤ (0 : Int)) ∧ ((((((List.length (capsF (List.drop 0 (((m).2).1).1))) : Nat) : Int) + (0 : Int) : Int) ≤ (((List.length ((((m).2).2).1).1) : Nat) : Int)) ∧ (((List.length ((((m).2).2).1).1) ≤ 1000000) ∧ ((List.all (((m).2).1).1 (fun x => (decide ((ByteArray.size (x).1) ≤ 1000000)))) = true)))))))))) (.need (decide (((((List.length (((((m).2).2).1).2).1) : Nat) : Int) = (((List.length (((((m).2).2).1).2).1) : Nat) : Int)) ∧ (((((List.length (((((m).2).2).1).2).1) : Nat) : Int) ≤ (10 : Int)) ∧ (((0 : Int) ≤ (0 : Int)) ∧ (((0 : Int) ≤ (((List.length (((((m).2).2).1).2).1) : Nat) : Int)) ∧ ((((List.length ([((ByteArray.mk (List.toArray [(112 : UInt8), (114 : UInt8), (111 : UInt8), (103 : UInt8)])), (false, p))] ++ (treeFs (List.drop 0 (((m).2).1).1) (List.drop 0 ((((m).2).2).1).1)))) : Nat) : Int) ≤ ((10000000 : Int) + (0 : Int) : Int))))))) (.need (decide (((((List.length (((((m).2).2).1).2).2) : Nat) : Int) = (((List.length (((((m).2).2).1).2).2) : Nat) : Int)) ∧ (((((List.length (((((m).2).2).1).2).2) : Nat) : Int) ≤ (1000000 : Int)) ∧ (((0 : Int) ≤ (0 : Int)) ∧ (((0 : Int) ≤ (((List.length (((((m).2).2).1).2).2) : Nat) : Int)) ∧ ((((List.length ([] : List Int)) : Nat) : Int) ≤ (0 : Int))))))) (.need true (.need (decide (((List.length (((m).2).1).1) ≤ 1000000) ∧ ((List.length ((((m).2).1).2).1) ≤ 1000000))) (.need true (.need (decide ((List.length ((((m).2).2).2).1) ≤ 1000000)) (.need true (.need (decide ((((List.length (([((ByteArray.mk (List.toArray [(112 : UInt8), (114 : UInt8), (111 : UInt8), (103 : UInt8)])), (false, p))] ++ (treeFs (List.drop 0 (((m).2).1).1) (List.drop 0 ((((m).2).2).1).1))) ++ (argFs (0 : Int) (List.drop 0 (((((m).2).2).1).2).1)))) + (List.length [((ByteArray.mk (List.toArray [(102 : UInt8), (97 : UInt8), (105 : UInt8), (108 : UInt8), (115 : UInt8)])), (false, (([] : List Int) ++ (List.map truth (List.drop 0 (((((m).2).2).1).2).2))))), ((ByteArray.mk (List.toArray [(99 : UInt8), (108 : UInt8), (97 : UInt8), (115 : UInt8), (115 : UInt8)])), (false, (kindF ((m).2).1))), ((ByteArray.mk (List.toArray [(116 : UInt8), (114 : UInt8), (97 : UInt8), (99 : UInt8), (101 : UInt8)])), (false, (traceF (((m).2).2).2)))]) : Nat) * (Lay.bytes L89) : Nat) ≤ 140737488355328)) (.ret (rL tFile ((([((ByteArray.mk (List.toArray [(112 : UInt8), (114 : UInt8), (111 : UInt8), (103 : UInt8)])), (false, p))] ++ (treeFs (List.drop 0 (((m).2).1).1) (List.drop 0 ((((m).2).2).1).1))) ++ (argFs (0 : Int) (List.drop 0 (((((m).2).2).1).2).1))) ++ [((ByteArray.mk (List.toArray [(102 : UInt8), (97 : UInt8), (105 : UInt8), (108 : UInt8), (115 : UInt8)])), (false, (([] : List Int) ++ (List.map truth (List.drop 0 (((((m).2).2).1).2).2))))), ((ByteArray.mk (List.toArray [(99 : UInt8), (108 : UInt8), (97 : UInt8), (115 : UInt8), (115 : UInt8)])), (false, (kindF ((m).2).1))), ((ByteArray.mk (List.toArray [(116 : UInt8), (114 : UInt8), (97 : UInt8), (99 : UInt8), (101 : UInt8)])), (false, (traceF (((m).2).2).2)))]), ⟨0, [], []⟩))))))))))) (by kernel_rfl) ?_
  show Gives _ (.need (filesOk m) (.ret (rL tFile (filesF m p), (⟨0, [], []⟩ : St))))
  refine .rneed fun h => ?_
  simp only [filesOk, Bool.and_eq_true, decide_eq_true_eq] at h
  obtain ⟨⟨h1, h2, h3, h4, h5, h6, h7⟩, h8⟩ := h
  have ht := treeFs_len m.2.1.1 m.2.2.1.1
  have ha := argFs_len m.2.2.1.2.1 0
  simp only [List.drop_zero, List.nil_append]
  refine .nd ⟨trivial, by omega, by omega, by omega, by simp, by omega, by omega, h4, h8⟩ (.nd ⟨trivial, by omega, by omega, by omega, ?_⟩ (.nd ⟨trivial, by omega, by omega, by omega, by simp⟩ (.need rfl (.nd ⟨h1, h2⟩ (.need rfl (.nd h7 (.need rfl (.nd ?_ ?_))))))))
  · simp only [List.length_append, List.length_singleton]; omega
  · show (([_] ++ treeFs m.2.1.1 m.2.2.1.1 ++ argFs 0 m.2.2.1.2.1).length + 3) * 48 ≤ _
    simp only [List.length_append, List.length_singleton]; omega
  · unfold filesF
    simp only [List.append_assoc, List.cons_append, List.nil_append]
    exact .refl _
end Go.Proofs.YtjebfbkigkjboaaGreatDoor.Sy

/- Contracts: the head of a file. -/
set_option maxRecDepth 100000
namespace Go.Proofs.YtjebfbkigkjboaaGreatDoor.Sy
open Go.RowKit Kit Go.Proofs
/-- a row laid over another one, from element k on -/
def cp (es : List Int) (k : Nat) (ns : List Int) : List Int := es.take k ++ ns.take (min ns.length ((es.length : Int) - k).toNat) ++ es.drop (k + min ns.length ((es.length : Int) - k).toNat)
theorem cp_len {es ns : List Int} {k : Nat} (h : k + ns.length ≤ es.length) : (cp es k ns).length = es.length := by
  unfold cp
  simp only [List.length_append, List.length_take, List.length_drop]
  omega
/-- the same from its beginning on -/
def cp0 (es ns : List Int) : List Int := es.take 0 ++ ns.take (min ns.length es.length) ++ es.drop (0 + min ns.length es.length)
theorem cp0_len {es ns : List Int} (h : ns.length ≤ es.length) : (cp0 es ns).length = es.length := by
  unfold cp0
  simp only [List.length_append, List.length_take, List.length_drop]
  omega
theorem u8s_app {l m : List Int} : u8s (l ++ m) = (u8s l && u8s m) := List.all_append
theorem u8s_take {l : List Int} (h : u8s l = true) (n : Nat) : u8s (l.take n) = true := List.all_eq_true.2 fun x hx => List.all_eq_true.1 h x (List.mem_of_mem_take hx)
theorem u8s_drop {l : List Int} (h : u8s l = true) (n : Nat) : u8s (l.drop n) = true := List.all_eq_true.2 fun x hx => List.all_eq_true.1 h x (List.mem_of_mem_drop hx)
theorem u8s_cp {es ns : List Int} (h : u8s es = true) (h' : u8s ns = true) (k : Nat) : u8s (cp es k ns) = true := by
  unfold cp; rw [u8s_app, u8s_app, u8s_take h, u8s_take h', u8s_drop h]; rfl
theorem u8s_cp0 {es ns : List Int} (h : u8s es = true) (h' : u8s ns = true) : u8s (cp0 es ns) = true := by
  unfold cp0; rw [u8s_app, u8s_app, u8s_take h, u8s_take h', u8s_drop h]; rfl
theorem u8s_rep (n : Nat) : u8s (List.replicate n 0) = true := List.all_eq_true.2 fun x hx => by rw [List.eq_of_mem_replicate hx]; rfl
theorem u8s_strB (s : ByteArray) : u8s (strB s) = true := List.all_eq_true.2 fun x hx => by
  obtain ⟨c, _, rfl⟩ := List.mem_map.1 hx
  have := c.toNat_lt
  exact u8_iff.2 ⟨by omega, by omega⟩
theorem u8_wrap (n : Int) : 0 ≤ IntKind.wrap .u8 n ∧ IntKind.wrap .u8 n ≤ 255 := by
  have e : IntKind.wrap .u8 n = n % 256 := by simp [IntKind.wrap, IntKind.bits, IntKind.signed]
  omega
theorem u8s_set {l : List Int} (h : u8s l = true) (k : Nat) {x : Int} (hx : u8 x = true) : u8s (l.set k x) = true := List.all_eq_true.2 fun y hy => by
  rcases List.mem_or_eq_of_mem_set hy with h' | rfl
  · exact List.all_eq_true.1 h y h'
  · exact hx
theorem octR_u8 (n d : Int) : ∀ (s : Nat) (k : Int) (b : List Int), u8s b = true → u8s (octR n d s k b) = true ∧ (octR n d s k b).length = b.length
  | 0, _, b, h => ⟨h, rfl⟩
  | s + 1, k, b, h => by
    rw [octR]
    have := octR_u8 n d s (k + 1) (b.set (d - 1 - k).toNat (octV n k)) (u8s_set h _ (u8_iff.2 (u8_wrap _)))
    rwa [List.length_set] at this
theorem octal_u8 (n d : Int) : u8s (octal n d) = true := (octR_u8 n d _ 0 _ (u8s_rep _)).1
theorem octal_len (n d : Int) : (octal n d).length = (d + 1).toNat := by
  have := (octR_u8 n d d.toNat 0 _ (u8s_rep (d + 1).toNat)).2
  rw [List.length_replicate] at this; exact this
/-- the sign of archives -/
def ustarS : ByteArray := ⟨#[117, 115, 116, 97, 114, 0, 48, 48]⟩
def ustar : List Int := strB ustarS
def headA (f : File) : List Int :=
  cp ((cp (cp (cp (cp (cp (cp0 (List.replicate 512 0) (strB f.1)) 100 (octal (if f.2.1 then 493 else 420) 7)) 108 (octal 0 7)) 116 (octal 0 7)) 124 (octal f.2.2.length 11)) 136 (octal 0 11)).set 156 (if f.2.1 then 53 else 48)) 257 ustar
def headF (f : File) : List Int := cp (headA f) 148 (octal (sumF 0 (headA f)) 6 ++ [32])
noncomputable def fn42 := mkFn Tryz.f26
def octCtr : Ctr := ctr (two aI aI) fun a => .need (decide (0 ≤ a.2.1 ∧ a.2.1 ≤ 100)) (.ret (.e (.c (.row 9)), [(9, .row tU 5 (octal a.1 a.2.1))]))
def sumCtr : Ctr := ctr (one (aVal tB)) fun a => .need (decide (a.1.length ≤ 1000000000000 ∧ u8s a.1 = true)) (ans (rI (sumF 0 a.1)))
def C42 : Cx := ⟨T, FL, [(50, octCtr), (51, sumCtr)], [], [FA]⟩
theorem C42_ok : CxOk Tryz.prog C42 := ⟨T_ok, FL_ok, .cons octal_ok (.cons sum_ok (.nil _)), .nil _⟩
def headCtr : Ctr := ctr (one (aAgg tFile)) fun a => .need (decide (a.1.1.size ≤ 99)) (ans (rL tU (headF a.1)))
/-- the text from the fields on -/
noncomputable def g42 : GC := fn42.g.snd.snd.snd.snd.snd
def S42 (name : ByteArray) (dir : Bool) (data : List Int) (r kd : Int) (b : List Int) : St := ⟨52, [(1, .e (.c (.dp [.v (.string name), .v (.bool dir), .sl tU data]))), (3, .e (.c (.row 6))), (4, rI r), (5, rU kd)], [(6, .row tU 5 b)]⟩
def S42b (r kd : Int) (b : List Int) : St := ⟨52, [(3, .e (.c (.row 6))), (5, rU kd)], [(6, .row tU 5 b)]⟩
theorem head_mid (name : ByteArray) (dir : Bool) (data : List Int) (r kd : Int) (b0 : List Int) (hb0 : b0.length = 512) (hu0 : u8s b0 = true) (hk : u8 kd = true) :
    Gives ((exec 0 C42 [] [] g42.fst (lv g42.snd (slotR fn42.rs) [] (slotR fn42.rs)) [] (slotR fn42.rs) (S42 name dir data r kd b0)).bind fun r => (nxt 0 C42 [] [] g42.snd (slotR fn42.rs) [] (slotR fn42.rs) r).bind (fin C42 fn42.rs))
      (.ret (rL tU (cp (cp ((cp (cp (cp (cp (cp b0 100 (octal r 7)) 108 (octal 0 7)) 116 (octal 0 7)) 124 (octal data.length 11)) 136 (octal 0 11)).set 156 kd) 257 ustar) 148
        (octal (sumF 0 (cp ((cp (cp (cp (cp (cp b0 100 (octal r 7)) 108 (octal 0 7)) 116 (octal 0 7)) 124 (octal data.length 11)) 136 (octal 0 11)).set 156 kd) 257 ustar)) 6 ++ [32])), (⟨0, [], []⟩ : St))) := by
  have l7 : ∀ n, (octal n 7).length = 8 := fun n => octal_len n 7
  have l11 : ∀ n, (octal n 11).length = 12 := fun n => octal_len n 11
  have l6 : ∀ n, (octal n 6).length = 7 := fun n => octal_len n 6
  have ho0 := l7 r
  have hok : (okB (100 : Int) ((b0.length : Nat) : Int) b0.length && decide ((100 : Int) < ((b0.length : Nat) : Int))) = true := by simp [okB]; omega
  have hlen : (cp b0 100 (octal r 7)).length = b0.length := cp_len (by omega)
  refine Gives.run (t' := .need ((okB (100 : Int) (((List.length b0) : Nat) : Int) (List.length b0)) && (decide ((100 : Int) < (((List.length b0) : Nat) : Int)))) (.need true (.need true (.need (decide ((100 + (Min.min (List.length (octal r (7 : Int))) (Int.toNat ((((List.length b0) : Nat) : Int) - (100 : Int) : Int))) : Nat) ≤ (List.length b0))) (.need ((okB (100 : Int) (((List.length b0) : Nat) : Int) (List.length b0)) && (decide ((100 : Int) < (((List.length b0) : Nat) : Int)))) (.need true (.need true (.need (decide ((100 + (Min.min (List.length (octal r (7 : Int))) (Int.toNat ((((List.length b0) : Nat) : Int) - (100 : Int) : Int))) : Nat) ≤ (List.length b0))) (.need (decide ((List.length b0) = (List.length b0))) (.need (decide ((List.length b0) = (List.length b0))) (.ret (.nx, ⟨52, [(1, .e (.c (.dp [.v (.string name), .v (.bool dir), .sl tU data]))), (3, .e (.c (.row 6))), (5, rU kd)], [(6, .row tU 5 (((List.take 100 b0) ++ (List.take (Min.min (List.length (octal r (7 : Int))) (Int.toNat ((((List.length b0) : Nat) : Int) - (100 : Int) : Int))) (octal r (7 : Int)))) ++ (List.drop (100 + (Min.min (List.length (octal r (7 : Int))) (Int.toNat ((((List.length b0) : Nat) : Int) - (100 : Int) : Int))) : Nat) b0))), (10016, .row tU 5 (octal r (7 : Int)))]⟩)))))))))))) (by kernel_rfl) ?_
  repeat' first | with_reducible refine Gives.lneed (b := true) rfl ?_ | with_reducible refine Gives.lneed hok ?_ | (with_reducible refine Gives.lnd ?_ ?_; focus omega)
  refine Gives.goto (σ' := ⟨52, [(1, .e (.c (.dp [.v (.string name), .v (.bool dir), .sl tU data]))), (3, .e (.c (.row 6))), (5, rU kd)], [(6, .row tU 5 (cp b0 100 (octal r 7))), (10016, .row tU 5 (octal r 7))]⟩) rfl ?_
  have hb1 : (cp b0 100 (octal r 7)).length = 512 := by rw [hlen]; exact hb0
  have hu1 := u8s_cp hu0 (octal_u8 _ _ : u8s (octal r 7) = true) 100
  generalize cp b0 100 (octal r 7) = b1 at hb1 hu1 ⊢
  clear hok hlen
  have ho1 := l7 0
  have hok : (okB (108 : Int) ((b1.length : Nat) : Int) b1.length && decide ((108 : Int) < ((b1.length : Nat) : Int))) = true := by simp [okB]; omega
  have hlen : (cp b1 108 (octal 0 7)).length = b1.length := cp_len (by omega)
  refine Gives.seq (by kernel_rfl) ?_
  refine Gives.run (t' := .need ((okB (108 : Int) (((List.length b1) : Nat) : Int) (List.length b1)) && (decide ((108 : Int) < (((List.length b1) : Nat) : Int)))) (.need true (.need true (.need (decide ((108 + (Min.min (List.length (octal (0 : Int) (7 : Int))) (Int.toNat ((((List.length b1) : Nat) : Int) - (108 : Int) : Int))) : Nat) ≤ (List.length b1))) (.need ((okB (108 : Int) (((List.length b1) : Nat) : Int) (List.length b1)) && (decide ((108 : Int) < (((List.length b1) : Nat) : Int)))) (.need true (.need true (.need (decide ((108 + (Min.min (List.length (octal (0 : Int) (7 : Int))) (Int.toNat ((((List.length b1) : Nat) : Int) - (108 : Int) : Int))) : Nat) ≤ (List.length b1))) (.need (decide ((List.length b1) = (List.length b1))) (.need true (.need (decide ((List.length b1) = (List.length b1))) (.need true (.ret (.nx, ⟨52, [(1, .e (.c (.dp [.v (.string name), .v (.bool dir), .sl tU data]))), (3, .e (.c (.row 6))), (5, rU kd)], [(6, .row tU 5 (((List.take 108 b1) ++ (List.take (Min.min (List.length (octal (0 : Int) (7 : Int))) (Int.toNat ((((List.length b1) : Nat) : Int) - (108 : Int) : Int))) (octal (0 : Int) (7 : Int)))) ++ (List.drop (108 + (Min.min (List.length (octal (0 : Int) (7 : Int))) (Int.toNat ((((List.length b1) : Nat) : Int) - (108 : Int) : Int))) : Nat) b1))), (10016, .row tU 5 (octal r (7 : Int))), (10020, .row tU 5 (octal (0 : Int) (7 : Int)))]⟩)))))))))))))) (by kernel_rfl) ?_
  repeat' first | with_reducible refine Gives.lneed (b := true) rfl ?_ | with_reducible refine Gives.lneed hok ?_ | (with_reducible refine Gives.lnd ?_ ?_; focus omega)
  refine Gives.goto (σ' := ⟨52, [(1, .e (.c (.dp [.v (.string name), .v (.bool dir), .sl tU data]))), (3, .e (.c (.row 6))), (5, rU kd)], [(6, .row tU 5 (cp b1 108 (octal 0 7))), (10016, .row tU 5 (octal r 7)), (10020, .row tU 5 (octal 0 7))]⟩) rfl ?_
  have hb2 : (cp b1 108 (octal 0 7)).length = 512 := by rw [hlen]; exact hb1
  have hu2 := u8s_cp hu1 (octal_u8 _ _ : u8s (octal 0 7) = true) 108
  generalize cp b1 108 (octal 0 7) = b2 at hb2 hu2 ⊢
  clear hok hlen
  have ho2 := l7 0
  have hok : (okB (116 : Int) ((b2.length : Nat) : Int) b2.length && decide ((116 : Int) < ((b2.length : Nat) : Int))) = true := by simp [okB]; omega
  have hlen : (cp b2 116 (octal 0 7)).length = b2.length := cp_len (by omega)
  refine Gives.seq (by kernel_rfl) ?_
  refine Gives.run (t' := .need ((okB (116 : Int) (((List.length b2) : Nat) : Int) (List.length b2)) && (decide ((116 : Int) < (((List.length b2) : Nat) : Int)))) (.need true (.need true (.need (decide ((116 + (Min.min (List.length (octal (0 : Int) (7 : Int))) (Int.toNat ((((List.length b2) : Nat) : Int) - (116 : Int) : Int))) : Nat) ≤ (List.length b2))) (.need ((okB (116 : Int) (((List.length b2) : Nat) : Int) (List.length b2)) && (decide ((116 : Int) < (((List.length b2) : Nat) : Int)))) (.need true (.need true (.need (decide ((116 + (Min.min (List.length (octal (0 : Int) (7 : Int))) (Int.toNat ((((List.length b2) : Nat) : Int) - (116 : Int) : Int))) : Nat) ≤ (List.length b2))) (.need (decide ((List.length b2) = (List.length b2))) (.need true (.need true (.need (decide ((List.length b2) = (List.length b2))) (.need true (.need true (.ret (.nx, ⟨52, [(1, .e (.c (.dp [.v (.string name), .v (.bool dir), .sl tU data]))), (3, .e (.c (.row 6))), (5, rU kd)], [(6, .row tU 5 (((List.take 116 b2) ++ (List.take (Min.min (List.length (octal (0 : Int) (7 : Int))) (Int.toNat ((((List.length b2) : Nat) : Int) - (116 : Int) : Int))) (octal (0 : Int) (7 : Int)))) ++ (List.drop (116 + (Min.min (List.length (octal (0 : Int) (7 : Int))) (Int.toNat ((((List.length b2) : Nat) : Int) - (116 : Int) : Int))) : Nat) b2))), (10016, .row tU 5 (octal r (7 : Int))), (10020, .row tU 5 (octal (0 : Int) (7 : Int))), (10024, .row tU 5 (octal (0 : Int) (7 : Int)))]⟩)))))))))))))))) (by kernel_rfl) ?_
  repeat' first | with_reducible refine Gives.lneed (b := true) rfl ?_ | with_reducible refine Gives.lneed hok ?_ | (with_reducible refine Gives.lnd ?_ ?_; focus omega)
  refine Gives.goto (σ' := ⟨52, [(1, .e (.c (.dp [.v (.string name), .v (.bool dir), .sl tU data]))), (3, .e (.c (.row 6))), (5, rU kd)], [(6, .row tU 5 (cp b2 116 (octal 0 7))), (10016, .row tU 5 (octal r 7)), (10020, .row tU 5 (octal 0 7)), (10024, .row tU 5 (octal 0 7))]⟩) rfl ?_
  have hb3 : (cp b2 116 (octal 0 7)).length = 512 := by rw [hlen]; exact hb2
  have hu3 := u8s_cp hu2 (octal_u8 _ _ : u8s (octal 0 7) = true) 116
  generalize cp b2 116 (octal 0 7) = b3 at hb3 hu3 ⊢
  clear hok hlen
  have ho3 := l11 data.length
  have hok : (okB (124 : Int) ((b3.length : Nat) : Int) b3.length && decide ((124 : Int) < ((b3.length : Nat) : Int))) = true := by simp [okB]; omega
  have hlen : (cp b3 124 (octal data.length 11)).length = b3.length := cp_len (by omega)
  refine Gives.seq (by kernel_rfl) ?_
  refine Gives.run (t' := .need ((okB (124 : Int) (((List.length b3) : Nat) : Int) (List.length b3)) && (decide ((124 : Int) < (((List.length b3) : Nat) : Int)))) (.need true (.need true (.need (decide ((124 + (Min.min (List.length (octal (((List.length data) : Nat) : Int) (11 : Int))) (Int.toNat ((((List.length b3) : Nat) : Int) - (124 : Int) : Int))) : Nat) ≤ (List.length b3))) (.need ((okB (124 : Int) (((List.length b3) : Nat) : Int) (List.length b3)) && (decide ((124 : Int) < (((List.length b3) : Nat) : Int)))) (.need true (.need true (.need (decide ((124 + (Min.min (List.length (octal (((List.length data) : Nat) : Int) (11 : Int))) (Int.toNat ((((List.length b3) : Nat) : Int) - (124 : Int) : Int))) : Nat) ≤ (List.length b3))) (.need (decide ((List.length b3) = (List.length b3))) (.need true (.need true (.need true (.need (decide ((List.length b3) = (List.length b3))) (.need true (.need true (.need true (.ret (.nx, ⟨52, [(3, .e (.c (.row 6))), (5, rU kd)], [(6, .row tU 5 (((List.take 124 b3) ++ (List.take (Min.min (List.length (octal (((List.length data) : Nat) : Int) (11 : Int))) (Int.toNat ((((List.length b3) : Nat) : Int) - (124 : Int) : Int))) (octal (((List.length data) : Nat) : Int) (11 : Int)))) ++ (List.drop (124 + (Min.min (List.length (octal (((List.length data) : Nat) : Int) (11 : Int))) (Int.toNat ((((List.length b3) : Nat) : Int) - (124 : Int) : Int))) : Nat) b3))), (10016, .row tU 5 (octal r (7 : Int))), (10020, .row tU 5 (octal (0 : Int) (7 : Int))), (10024, .row tU 5 (octal (0 : Int) (7 : Int))), (10031, .row tU 5 (octal (((List.length data) : Nat) : Int) (11 : Int)))]⟩)))))))))))))))))) (by kernel_rfl) ?_
  repeat' first | with_reducible refine Gives.lneed (b := true) rfl ?_ | with_reducible refine Gives.lneed hok ?_ | (with_reducible refine Gives.lnd ?_ ?_; focus omega)
  refine Gives.goto (σ' := ⟨52, [(3, .e (.c (.row 6))), (5, rU kd)], [(6, .row tU 5 (cp b3 124 (octal data.length 11))), (10016, .row tU 5 (octal r 7)), (10020, .row tU 5 (octal 0 7)), (10024, .row tU 5 (octal 0 7)), (10031, .row tU 5 (octal data.length 11))]⟩) rfl ?_
  have hb4 : (cp b3 124 (octal data.length 11)).length = 512 := by rw [hlen]; exact hb3
  have hu4 := u8s_cp hu3 (octal_u8 _ _ : u8s (octal data.length 11) = true) 124
  generalize cp b3 124 (octal data.length 11) = b4 at hb4 hu4 ⊢
  clear hok hlen
  have ho4 := l11 0
  have hok : (okB (136 : Int) ((b4.length : Nat) : Int) b4.length && decide ((136 : Int) < ((b4.length : Nat) : Int))) = true := by simp [okB]; omega
  have hlen : (cp b4 136 (octal 0 11)).length = b4.length := cp_len (by omega)
  refine Gives.seq (by kernel_rfl) ?_
  refine Gives.run (t' := .need ((okB (136 : Int) (((List.length b4) : Nat) : Int) (List.length b4)) && (decide ((136 : Int) < (((List.length b4) : Nat) : Int)))) (.need true (.need true (.need (decide ((136 + (Min.min (List.length (octal (0 : Int) (11 : Int))) (Int.toNat ((((List.length b4) : Nat) : Int) - (136 : Int) : Int))) : Nat) ≤ (List.length b4))) (.need ((okB (136 : Int) (((List.length b4) : Nat) : Int) (List.length b4)) && (decide ((136 : Int) < (((List.length b4) : Nat) : Int)))) (.need true (.need true (.need (decide ((136 + (Min.min (List.length (octal (0 : Int) (11 : Int))) (Int.toNat ((((List.length b4) : Nat) : Int) - (136 : Int) : Int))) : Nat) ≤ (List.length b4))) (.need (decide ((List.length b4) = (List.length b4))) (.need true (.need true (.need true (.need true (.need (decide ((List.length b4) = (List.length b4))) (.need true (.need true (.need true (.need true (.ret (.nx, ⟨52, [(3, .e (.c (.row 6))), (5, rU kd)], [(6, .row tU 5 (((List.take 136 b4) ++ (List.take (Min.min (List.length (octal (0 : Int) (11 : Int))) (Int.toNat ((((List.length b4) : Nat) : Int) - (136 : Int) : Int))) (octal (0 : Int) (11 : Int)))) ++ (List.drop (136 + (Min.min (List.length (octal (0 : Int) (11 : Int))) (Int.toNat ((((List.length b4) : Nat) : Int) - (136 : Int) : Int))) : Nat) b4))), (10016, .row tU 5 (octal r (7 : Int))), (10020, .row tU 5 (octal (0 : Int) (7 : Int))), (10024, .row tU 5 (octal (0 : Int) (7 : Int))), (10031, .row tU 5 (octal (((List.length data) : Nat) : Int) (11 : Int))), (10035, .row tU 5 (octal (0 : Int) (11 : Int)))]⟩)))))))))))))))))))) (by kernel_rfl) ?_
  repeat' first | with_reducible refine Gives.lneed (b := true) rfl ?_ | with_reducible refine Gives.lneed hok ?_ | (with_reducible refine Gives.lnd ?_ ?_; focus omega)
  refine Gives.goto (σ' := ⟨52, [(3, .e (.c (.row 6))), (5, rU kd)], [(6, .row tU 5 (cp b4 136 (octal 0 11))), (10016, .row tU 5 (octal r 7)), (10020, .row tU 5 (octal 0 7)), (10024, .row tU 5 (octal 0 7)), (10031, .row tU 5 (octal data.length 11)), (10035, .row tU 5 (octal 0 11))]⟩) rfl ?_
  have hb5 : (cp b4 136 (octal 0 11)).length = 512 := by rw [hlen]; exact hb4
  have hu5 := u8s_cp hu4 (octal_u8 _ _ : u8s (octal 0 11) = true) 136
  generalize cp b4 136 (octal 0 11) = b5 at hb5 hu5 ⊢
  clear hok hlen
  refine Gives.seq (by kernel_rfl) ?_
  refine Gives.run (t' := .need (inR (156 : Int) (List.length b5)) (.need (decide (156 < (List.length b5))) (.ret (.nx, ⟨52, [(3, .e (.c (.row 6)))], [(6, .row tU 5 (List.set b5 156 kd)), (10016, .row tU 5 (octal r (7 : Int))), (10020, .row tU 5 (octal (0 : Int) (7 : Int))), (10024, .row tU 5 (octal (0 : Int) (7 : Int))), (10031, .row tU 5 (octal (((List.length data) : Nat) : Int) (11 : Int))), (10035, .row tU 5 (octal (0 : Int) (11 : Int)))]⟩)))) (by kernel_rfl) ?_
  refine .lneed (inR_of (by omega) (by omega)) (.lnd (by omega) ?_)
  refine Gives.goto (σ' := ⟨52, [(3, .e (.c (.row 6)))], [(6, .row tU 5 (b5.set 156 kd)), (10016, .row tU 5 (octal r 7)), (10020, .row tU 5 (octal 0 7)), (10024, .row tU 5 (octal 0 7)), (10031, .row tU 5 (octal data.length 11)), (10035, .row tU 5 (octal 0 11))]⟩) (by kernel_rfl) ?_
  have hb6 : (b5.set 156 kd).length = 512 := by rw [List.length_set]; exact hb5
  have hu6 := u8s_set hu5 156 hk
  generalize b5.set 156 kd = b6 at hb6 hu6 ⊢
  have hus : ustar.length = 8 := by decide +kernel
  have hok : (okB (257 : Int) ((b6.length : Nat) : Int) b6.length && decide ((257 : Int) < ((b6.length : Nat) : Int))) = true := by simp [okB]; omega
  have hlen : (cp b6 257 ustar).length = b6.length := cp_len (by omega)
  refine Gives.seq (by kernel_rfl) ?_
  refine Gives.run (t' := .need ((okB (257 : Int) (((List.length b6) : Nat) : Int) (List.length b6)) && (decide ((257 : Int) < (((List.length b6) : Nat) : Int)))) (.need true (.need (decide ((257 + (Min.min (List.length (strB (ByteArray.mk (List.toArray [(117 : UInt8), (115 : UInt8), (116 : UInt8), (97 : UInt8), (114 : UInt8), (0 : UInt8), (48 : UInt8), (48 : UInt8)])))) (Int.toNat ((((List.length b6) : Nat) : Int) - (257 : Int) : Int))) : Nat) ≤ (List.length b6))) (.ret (.nx, ⟨52, [(3, .e (.c (.row 6)))], [(6, .row tU 5 (((List.take 257 b6) ++ (List.take (Min.min (List.length (strB (ByteArray.mk (List.toArray [(117 : UInt8), (115 : UInt8), (116 : UInt8), (97 : UInt8), (114 : UInt8), (0 : UInt8), (48 : UInt8), (48 : UInt8)])))) (Int.toNat ((((List.length b6) : Nat) : Int) - (257 : Int) : Int))) (strB (ByteArray.mk (List.toArray [(117 : UInt8), (115 : UInt8), (116 : UInt8), (97 : UInt8), (114 : UInt8), (0 : UInt8), (48 : UInt8), (48 : UInt8)]))))) ++ (List.drop (257 + (Min.min (List.length (strB (ByteArray.mk (List.toArray [(117 : UInt8), (115 : UInt8), (116 : UInt8), (97 : UInt8), (114 : UInt8), (0 : UInt8), (48 : UInt8), (48 : UInt8)])))) (Int.toNat ((((List.length b6) : Nat) : Int) - (257 : Int) : Int))) : Nat) b6))), (10016, .row tU 5 (octal r (7 : Int))), (10020, .row tU 5 (octal (0 : Int) (7 : Int))), (10024, .row tU 5 (octal (0 : Int) (7 : Int))), (10031, .row tU 5 (octal (((List.length data) : Nat) : Int) (11 : Int))), (10035, .row tU 5 (octal (0 : Int) (11 : Int)))]⟩))))) (by kernel_rfl) ?_
  refine .lneed hok (.lneed rfl (.lnd (by show 257 + min ustar.length _ ≤ _; omega) ?_))
  refine Gives.goto (σ' := ⟨52, [(3, .e (.c (.row 6)))], [(6, .row tU 5 (cp b6 257 ustar)), (10016, .row tU 5 (octal r 7)), (10020, .row tU 5 (octal 0 7)), (10024, .row tU 5 (octal 0 7)), (10031, .row tU 5 (octal data.length 11)), (10035, .row tU 5 (octal 0 11))]⟩) rfl ?_
  have hb7 : (cp b6 257 ustar).length = 512 := by rw [hlen]; exact hb6
  have hu7 := u8s_cp hu6 (by decide +kernel : u8s ustar = true) 257
  generalize cp b6 257 ustar = b7 at hb7 hu7 ⊢
  clear hok hlen
  have hok : (okB (148 : Int) ((b7.length : Nat) : Int) b7.length && decide ((148 : Int) < ((b7.length : Nat) : Int))) = true := by simp [okB]; omega
  have ho6 := l6 (sumF 0 b7)
  have hol : (octal (sumF 0 b7) 6 ++ [32]).length = 8 := by rw [List.length_append, ho6]; rfl
  have hlen : (cp b7 148 (octal (sumF 0 b7) 6 ++ [32])).length = b7.length := cp_len (by omega)
  refine Gives.seq (by kernel_rfl) ?_
  refine Gives.run (t' := .need ((okB (148 : Int) (((List.length b7) : Nat) : Int) (List.length b7)) && (decide ((148 : Int) < (((List.length b7) : Nat) : Int)))) (.need (decide (((List.length b7) ≤ 1000000000000) ∧ ((u8s b7) = true))) (.need true (.need true (.need true (.need true (.need (decide ((148 + (Min.min (List.length ((octal (sumF 0 b7) (6 : Int)) ++ [(32 : Int)])) (Int.toNat ((((List.length b7) : Nat) : Int) - (148 : Int) : Int))) : Nat) ≤ (List.length b7))) (.need ((okB (148 : Int) (((List.length b7) : Nat) : Int) (List.length b7)) && (decide ((148 : Int) < (((List.length b7) : Nat) : Int)))) (.need (decide (((List.length b7) ≤ 1000000000000) ∧ ((u8s b7) = true))) (.need true (.need true (.need true (.need true (.need (decide ((148 + (Min.min (List.length ((octal (sumF 0 b7) (6 : Int)) ++ [(32 : Int)])) (Int.toNat ((((List.length b7) : Nat) : Int) - (148 : Int) : Int))) : Nat) ≤ (List.length b7))) (.need (decide ((List.length b7) = (List.length b7))) (.need true (.need true (.need true (.need true (.need true (.need (decide ((List.length b7) = (List.length b7))) (.need true (.need true (.need true (.need true (.need true (.ret (.nx, ⟨52, [(3, .e (.c (.row 6)))], [(6, .row tU 5 (((List.take 148 b7) ++ (List.take (Min.min (List.length ((octal (sumF 0 b7) (6 : Int)) ++ [(32 : Int)])) (Int.toNat ((((List.length b7) : Nat) : Int) - (148 : Int) : Int))) ((octal (sumF 0 b7) (6 : Int)) ++ [(32 : Int)]))) ++ (List.drop (148 + (Min.min (List.length ((octal (sumF 0 b7) (6 : Int)) ++ [(32 : Int)])) (Int.toNat ((((List.length b7) : Nat) : Int) - (148 : Int) : Int))) : Nat) b7))), (49, .row tU 5 ((octal (sumF 0 b7) (6 : Int)) ++ [(32 : Int)])), (10016, .row tU 5 (octal r (7 : Int))), (10020, .row tU 5 (octal (0 : Int) (7 : Int))), (10024, .row tU 5 (octal (0 : Int) (7 : Int))), (10031, .row tU 5 (octal (((List.length data) : Nat) : Int) (11 : Int))), (10035, .row tU 5 (octal (0 : Int) (11 : Int)))]⟩)))))))))))))))))))))))))))) (by kernel_rfl) ?_
  have hsm : b7.length ≤ 1000000000000 ∧ u8s b7 = true := ⟨by omega, hu7⟩
  repeat' first | with_reducible refine Gives.lneed (b := true) rfl ?_ | with_reducible refine Gives.lneed hok ?_ | with_reducible refine Gives.lnd hsm ?_ | (with_reducible refine Gives.lnd ?_ ?_; focus omega)
  refine Gives.goto rfl ?_
  exact Gives.of_eq (t' := .ret (rL tU (cp b7 148 (octal (sumF 0 b7) 6 ++ [32])), ⟨0, [], []⟩)) (by kernel_rfl) (.refl _)
theorem head_ok : CtrOk Tryz.prog 26 headCtr := by
  refine .mk C42_ok mixed (q := fn42) (.of Tryz.func26 (by kernel_rfl)) (N := 0) (nr := []) .none (by decide) ?_
  rintro ⟨⟨(name : ByteArray), (dir : Bool), (data : List Int)⟩, ⟨⟩⟩ -
  show Gives _ (.need _ (.ret (rL tU (headF (name, dir, data)), (⟨0, [], []⟩ : St))))
  refine .rnd fun h => ?_
  have h : name.size ≤ 99 := h
  have hn := strB_length name
  unfold headF headA
  dsimp only
  refine Gives.seq (by kernel_rfl) ?_
  refine Gives.run (t' := .ret (.nx, ⟨52, [(1, .e (.c (.dp [.v (.string name), .v (.bool dir), .sl tU data])))], []⟩)) (by kernel_rfl) ?_
  refine Gives.goto rfl (Gives.seq (by kernel_rfl) ?_)
  refine Gives.run (t' := .need true (.ret (.nx, ⟨52, [(1, .e (.c (.dp [.v (.string name), .v (.bool dir), .sl tU data]))), (3, .e (.c (.row 6)))], [(6, .row (Ty.int IntKind.u8) 5 (List.replicate 512 (0 : Int)))]⟩))) (by kernel_rfl) ?_
  refine .lneed rfl (Gives.goto rfl (Gives.seq (by kernel_rfl) ?_))
  have hb0 : (List.replicate 512 (0 : Int)).length = 512 := List.length_replicate
  have hu0 := u8s_rep 512
  generalize List.replicate 512 (0 : Int) = b0 at hb0 hu0 ⊢
  refine Gives.run (t' := .need true (.need (decide ((0 + (Min.min (List.length (strB name)) (List.length b0)) : Nat) ≤ (List.length b0))) (.ret (.nx, ⟨52, [(1, .e (.c (.dp [.v (.string name), .v (.bool dir), .sl tU data]))), (3, .e (.c (.row 6)))], [(6, .row (Ty.int IntKind.u8) 5 (((List.take 0 b0) ++ (List.take (Min.min (List.length (strB name)) (List.length b0)) (strB name))) ++ (List.drop (0 + (Min.min (List.length (strB name)) (List.length b0)) : Nat) b0)))]⟩)))) (by kernel_rfl) ?_
  refine .lneed rfl (.lnd (by omega) (Gives.goto (σ' := ⟨52, [(1, .e (.c (.dp [.v (.string name), .v (.bool dir), .sl tU data]))), (3, .e (.c (.row 6)))], [(6, .row tU 5 (cp0 b0 (strB name)))]⟩) rfl ?_))
  have hb1 : (cp0 b0 (strB name)).length = 512 := by rw [cp0_len (by omega)]; exact hb0
  have hu1 := u8s_cp0 hu0 (u8s_strB name)
  generalize cp0 b0 (strB name) = b1 at hb1 hu1 ⊢
  refine Gives.seq (by kernel_rfl) ?_
  refine Gives.run (t' := .ret (.nx, ⟨52, [(1, .e (.c (.dp [.v (.string name), .v (.bool dir), .sl tU data]))), (3, .e (.c (.row 6))), (4, rI (420 : Int)), (5, rU (48 : Int))], [(6, .row tU 5 b1)]⟩)) (by kernel_rfl) ?_
  refine Gives.goto rfl (Gives.seq (by kernel_rfl) ?_)
  refine Gives.run (t' := .ite dir (.ret (.nx, ⟨52, [(1, .e (.c (.dp [.v (.string name), .v (.bool dir), .sl tU data]))), (3, .e (.c (.row 6))), (4, rI (493 : Int)), (5, rU (53 : Int))], [(6, .row tU 5 b1)]⟩)) (.ret (.nx, ⟨52, [(1, .e (.c (.dp [.v (.string name), .v (.bool dir), .sl tU data]))), (3, .e (.c (.row 6))), (4, rI (420 : Int)), (5, rU (48 : Int)), (12, .e (.c (.kb false)))], [(6, .row tU 5 b1)]⟩))) (by kernel_rfl) ?_
  refine .lite (fun hd => ?_) (fun hd => ?_)
  · have hd : dir = true := hd
    subst hd
    exact Gives.goto (σ' := S42 name true data 493 53 b1) rfl (Gives.seq (by kernel_rfl) (head_mid name true data 493 53 b1 hb1 hu1 rfl))
  · have hd : dir = false := hd
    subst hd
    refine Gives.goto rfl (Gives.seq (by kernel_rfl) (Gives.run (t' := exec 0 C42 [] [] g42.fst (lv g42.snd (slotR fn42.rs) [] (slotR fn42.rs)) [] (slotR fn42.rs) (S42 name false data 420 48 b1)) (by kernel_rfl) ?_))
    exact head_mid name false data 420 48 b1 hb1 hu1 rfl
end Go.Proofs.YtjebfbkigkjboaaGreatDoor.Sy

/- Contracts: archives that may be, and what they are. -/
set_option maxRecDepth 100000
namespace Go.Proofs.YtjebfbkigkjboaaGreatDoor.Sy
open Go.RowKit Kit Go.Proofs
/-- how many blocks so many bytes take -/
def blocksF (n : Int) : Int := Int.tdiv (n + 512 - 1) 512
noncomputable def fn43 := mkFn Tryz.f27
def blocksCtr : Ctr := ctr (one aI) fun a => .need (decide (0 ≤ a.1 ∧ a.1 ≤ 1000000000000000)) (ans (rI (blocksF a.1)))
theorem blocksF_le {n : Int} (h : 0 ≤ n) : 0 ≤ blocksF n ∧ n ≤ blocksF n * 512 ∧ blocksF n * 512 ≤ n + 511 := by
  have e : blocksF n = (n + 512 - 1) / 512 := Int.tdiv_eq_ediv_of_nonneg (by omega)
  omega
theorem blocks_ok : CtrOk Tryz.prog 27 blocksCtr := by
  refine .mk C0_ok mixed (q := fn43) (.of Tryz.func27 (by kernel_rfl)) (N := 0) (nr := []) .none (by decide) ?_
  rintro ⟨(n : Int), ⟨⟩⟩ -
  refine Gives.of_eq (t' := .need (decide (((-(9223372036854775808 : Int) : Int) ≤ (n + (512 : Int) : Int)) ∧ ((n + (512 : Int) : Int) ≤ (9223372036854775807 : Int)))) (.need (decide (((-(9223372036854775808 : Int) : Int) ≤ ((n + (512 : Int) : Int) - (1 : Int) : Int)) ∧ (((n + (512 : Int) : Int) - (1 : Int) : Int) ≤ (9223372036854775807 : Int)))) (.need true (.need (decide (((-(9223372036854775808 : Int) : Int) ≤ (Int.tdiv ((n + (512 : Int) : Int) - (1 : Int) : Int) (512 : Int))) ∧ ((Int.tdiv ((n + (512 : Int) : Int) - (1 : Int) : Int) (512 : Int)) ≤ (9223372036854775807 : Int)))) (.ret (rI (Int.tdiv ((n + (512 : Int) : Int) - (1 : Int) : Int) (512 : Int)), ⟨0, [], []⟩)))))) (by kernel_rfl) ?_
  show Gives _ (.need _ (.ret (rI (blocksF n), (⟨0, [], []⟩ : St))))
  refine .rnd fun ⟨h1, h2⟩ => ?_
  have h1 : 0 ≤ n := h1
  have h2 : n ≤ 1000000000000000 := h2
  have hb := blocksF_le h1
  exact .nd (by omega) (.nd (by omega) (.need rfl (.nd (by show _ ≤ blocksF n ∧ blocksF n ≤ _; omega) (.refl _))))
noncomputable def fn61 := mkFn Tryz.f49
def C61 : Cx := ⟨T, [], [(90, idxCtr)], [], []⟩
theorem C61_ok : CxOk Tryz.prog C61 := ⟨T_ok, .nil _, .cons idxS_ok (.nil _), .nil _⟩
theorem idx61_ok : CtrOk Tryz.prog 49 idxCtr := by
  refine .mk C61_ok mixed (q := fn61) (.of Tryz.func49 (by kernel_rfl)) (N := 0) (nr := []) .none (by decide) ?_
  rintro ⟨(s : ByteArray), (c : Int), ⟨⟩⟩ -
  refine Gives.of_eq (t' := .ret (rI (idxS s c), ⟨0, [], []⟩)) (by kernel_rfl) ?_
  exact .refl _

/-! ### tar.may -/
def nameBad (f : File) : Bool := decide (f.1 = ByteArray.empty) || decide (99 < f.1.size) || decide (0 ≤ idxS f.1 0)
def dirBad (f : File) : Bool := f.2.1 && decide (0 < f.2.2.length)
/-- blocks of a file -/
def blkF (f : File) : Int := 1 + blocksF (imin f.2.2.length 65536)
def fullBad : Int → List File → Bool
  | _, [] => false
  | n, f :: r => decide (128 < n + blkF f) || fullBad (n + blkF f) r
def tMay (l : List File) : Int := if l.any nameBad then 10 else if l.any dirBad then 12 else if fullBad 2 l then 3 else 0
noncomputable def fn41 := mkFn Tryz.f25
def C41 : Cx := ⟨T, FL, [(49, idxCtr), (27, blocksCtr)], [], []⟩
theorem C41_ok : CxOk Tryz.prog C41 := ⟨T_ok, FL_ok, .cons idx61_ok (.cons blocks_ok (.nil _)), .nil _⟩
def q41a : Frm := ⟨64, [(0, .dat (.sl tFile)), (10, .dat (.sl tFile)), (11, .dat tI), (12, .dat tI)], []⟩
def R41a : q41a.V → Tr (Ex × St) := fun (((l : List File), (L : List File), (n : Int), (k : Int), _), _) =>
  .need (decide (n = L.length ∧ n ≤ 9223372036854775807 ∧ 0 ≤ k ∧ k ≤ n)) (.ite ((L.drop k.toNat).any nameBad) (.ret (.rt, ⟨64, [(2, rI 10)], []⟩)) (.ret (.ex 0, ⟨64, [(0, rL tFile l)], []⟩)))
def q41b : Frm := ⟨64, [(0, .dat (.sl tFile)), (32, .dat (.sl tFile)), (33, .dat tI), (34, .dat tI)], []⟩
def R41b : q41b.V → Tr (Ex × St) := fun (((l : List File), (L : List File), (n : Int), (k : Int), _), _) =>
  .need (decide (n = L.length ∧ n ≤ 9223372036854775807 ∧ 0 ≤ k ∧ k ≤ n)) (.ite ((L.drop k.toNat).any dirBad) (.ret (.rt, ⟨64, [(2, rI 12)], []⟩)) (.ret (.ex 2, ⟨64, [(0, rL tFile l)], []⟩)))
def q41c : Frm := ⟨64, [(7, .dat tI), (47, .dat (.sl tFile)), (48, .dat tI), (49, .dat tI)], []⟩
def R41c : q41c.V → Tr (Ex × St) := fun (((m : Int), (L : List File), (n : Int), (k : Int), _), _) =>
  .need (decide (n = L.length ∧ n ≤ 9223372036854775807 ∧ 0 ≤ k ∧ k ≤ n ∧ 0 ≤ m ∧ m ≤ 128)) (.ite (fullBad m (L.drop k.toNat)) (.ret (.rt, ⟨64, [(2, rI 3)], []⟩)) (.ret (.ex 4, ⟨64, [], []⟩)))
noncomputable def lp41 : LP := [(0, sumP q41a R41a), (2, sumP q41b R41b), (4, sumP q41c R41c)]
theorem lp41_ok : LpsOk 0 C41 [] lp41 fn41.loops := by
  refine .all (by kernel_rfl) ?_
  simp only [lp41, List.forall_mem_cons, List.not_mem_nil, false_imp_iff, implies_true, and_true]
  refine ⟨?_, ?_, ?_⟩
  · refine .pat q41a R41a (fun v => (v.1.2.2.1 - v.1.2.2.2.1).toNat) ?_
    rintro ⟨⟨(l : List File), (L : List File), (n : Int), (k : Int), ⟨⟩⟩, ⟨⟩⟩ ih
    refine Gives.run (t' := .ite (decide (k < n)) (.need (inR k (List.length L)) (.need true (.ite (decide (((List.getD L (Int.toNat k) (ByteArray.empty, (false, ([] : List Int))))).1 = (ByteArray.mk (List.toArray ([] : List UInt8))))) (.ret (.rt, ⟨64, [(2, rI (10 : Int))], []⟩)) (.ite (decide ((99 : Int) < (((ByteArray.size ((List.getD L (Int.toNat k) (ByteArray.empty, (false, ([] : List Int))))).1) : Nat) : Int))) (.ret (.rt, ⟨64, [(2, rI (10 : Int))], []⟩)) (.ite (decide ((0 : Int) ≤ (idxS ((List.getD L (Int.toNat k) (ByteArray.empty, (false, ([] : List Int))))).1 (0 : Int)))) (.ret (.rt, ⟨64, [(2, rI (10 : Int))], []⟩)) (.need (decide (((-(9223372036854775808 : Int) : Int) ≤ (k + (1 : Int) : Int)) ∧ ((k + (1 : Int) : Int) ≤ (9223372036854775807 : Int)))) (.ret (.nx, ⟨64, [(0, rL tFile l), (10, rL tFile L), (11, rI n), (12, rI (k + (1 : Int) : Int))], [(4, .cells 89 [.d (.v (.string ((List.getD L (Int.toNat k) (ByteArray.empty, (false, ([] : List Int))))).1)), .d (.v (.bool (((List.getD L (Int.toNat k) (ByteArray.empty, (false, ([] : List Int))))).2).1)), .d (.sl tU (((List.getD L (Int.toNat k) (ByteArray.empty, (false, ([] : List Int))))).2).2)])]⟩)))))))) (.ret (.ex 0, ⟨64, [(0, rL tFile l)], []⟩))) (by kernel_rfl) ?_
    refine .rnd fun ⟨h1, h2, h3, h4⟩ => ?_
    refine .lif (fun hk => ?_) (fun hk => ?_)
    · have e : (k + 1).toNat = k.toNat + 1 := by omega
      rw [drop_at L k.toNat (ByteArray.empty, false, []) (by omega)]
      refine .lneed (inR_of h3 (by omega)) ?_
      generalize L.getD k.toNat (ByteArray.empty, false, []) = x
      obtain ⟨p, d, c⟩ := x
      refine .lneed rfl (.lif (fun hx => ?_) (fun hx => ?_))
      · exact .rtt (any_t (by unfold nameBad; rw [decide_eq_true (show p = ByteArray.empty from hx)]; rfl)) (.refl _)
      refine .lif (fun hy => ?_) (fun hy => ?_)
      · have hy : (99 : Int) < p.size := hy
        exact .rtt (any_t (by unfold nameBad; rw [decide_eq_true (show 99 < p.size by omega)]; simp)) (.refl _)
      have hy : ¬ (99 : Int) < p.size := hy
      refine .lif (fun hz => ?_) (fun hz => ?_)
      · exact .rtt (any_t (by unfold nameBad; rw [decide_eq_true (show 0 ≤ idxS p 0 from hz)]; simp)) (.refl _)
      have hb : nameBad (p, d, c) = false := by
        unfold nameBad
        rw [decide_eq_false (show ¬ p = ByteArray.empty from hx), decide_eq_false (show ¬ 99 < p.size by omega), decide_eq_false (show ¬ 0 ≤ idxS p 0 from hz)]; rfl
      refine .rb (any_f hb) (.lnd (by omega) ?_)
      refine Gives.next (σ' := q41a.st ((l, L, n, k + 1, ()), ())) (by kernel_rfl) ((ih ((l, L, n, k + 1, ()), ()) (by simp only; omega)).trans ?_)
      refine .nd ⟨h1, h2, by omega, by omega⟩ ?_
      rw [e]; exact .refl _
    · rw [List.drop_eq_nil_of_le (by omega)]
      exact .rff rfl (.refl _)
  · refine .pat q41b R41b (fun v => (v.1.2.2.1 - v.1.2.2.2.1).toNat) ?_
    rintro ⟨⟨(l : List File), (L : List File), (n : Int), (k : Int), ⟨⟩⟩, ⟨⟩⟩ ih
    refine Gives.run (t' := .ite (decide (k < n)) (.need (inR k (List.length L)) (.need true (.ite (((List.getD L (Int.toNat k) (ByteArray.empty, (false, ([] : List Int))))).2).1 (.ite (decide ((0 : Int) < (((List.length (((List.getD L (Int.toNat k) (ByteArray.empty, (false, ([] : List Int))))).2).2) : Nat) : Int))) (.ret (.rt, ⟨64, [(2, rI (12 : Int))], []⟩)) (.need (decide (((-(9223372036854775808 : Int) : Int) ≤ (k + (1 : Int) : Int)) ∧ ((k + (1 : Int) : Int) ≤ (9223372036854775807 : Int)))) (.ret (.nx, ⟨64, [(0, rL tFile l), (32, rL tFile L), (33, rI n), (34, rI (k + (1 : Int) : Int))], [(6, .cells 89 [.d (.v (.string ((List.getD L (Int.toNat k) (ByteArray.empty, (false, ([] : List Int))))).1)), .d (.v (.bool (((List.getD L (Int.toNat k) (ByteArray.empty, (false, ([] : List Int))))).2).1)), .d (.sl tU (((List.getD L (Int.toNat k) (ByteArray.empty, (false, ([] : List Int))))).2).2)])]⟩)))) (.need (decide (((-(9223372036854775808 : Int) : Int) ≤ (k + (1 : Int) : Int)) ∧ ((k + (1 : Int) : Int) ≤ (9223372036854775807 : Int)))) (.ret (.nx, ⟨64, [(0, rL tFile l), (32, rL tFile L), (33, rI n), (34, rI (k + (1 : Int) : Int))], [(6, .cells 89 [.d (.v (.string ((List.getD L (Int.toNat k) (ByteArray.empty, (false, ([] : List Int))))).1)), .d (.v (.bool (((List.getD L (Int.toNat k) (ByteArray.empty, (false, ([] : List Int))))).2).1)), .d (.sl tU (((List.getD L (Int.toNat k) (ByteArray.empty, (false, ([] : List Int))))).2).2)])]⟩)))))) (.ret (.ex 2, ⟨64, [(0, rL tFile l)], []⟩))) (by kernel_rfl) ?_
    refine .rnd fun ⟨h1, h2, h3, h4⟩ => ?_
    refine .lif (fun hk => ?_) (fun hk => ?_)
    · have e : (k + 1).toNat = k.toNat + 1 := by omega
      rw [drop_at L k.toNat (ByteArray.empty, false, []) (by omega)]
      refine .lneed (inR_of h3 (by omega)) ?_
      generalize L.getD k.toNat (ByteArray.empty, false, []) = x
      obtain ⟨p, d, c⟩ := x
      refine .lneed rfl ?_
      have last : ∀ σ, (fn41.at 2).h [] σ = q41b.st ((l, L, n, k + 1, ()), ()) → dirBad (p, d, c) = false → Gives ((Tr.need (decide (((-9223372036854775808 : Int) ≤ k + 1) ∧ (k + 1 ≤ (9223372036854775807 : Int)))) (.ret (Ex.nx, σ))).bind (again (n - k).toNat ((fn41.at 2).f 0 C41 [] lp41) ((fn41.at 2).h [])))
          (.ite (((p, d, c) :: L.drop (k.toNat + 1)).any dirBad) (.ret (.rt, ⟨64, [(2, rI 12)], []⟩)) (.ret (.ex 2, ⟨64, [(0, rL tFile l)], []⟩))) := fun σ hσ hx => by
        refine .lnd (by omega) (Gives.next hσ ((ih ((l, L, n, k + 1, ()), ()) (by simp only; omega)).trans ?_))
        refine .nd ⟨h1, h2, by omega, by omega⟩ ?_
        rw [e]; exact .rb (any_f hx) (.refl _)
      refine .lite (fun hd => ?_) (fun hd => ?_)
      · have hd : d = true := hd
        subst hd
        refine .lif (fun hx => ?_) (fun hx => ?_)
        · exact .rtt (any_t (by unfold dirBad; rw [decide_eq_true (show 0 < c.length from by have hx : (0 : Int) < (c.length : Int) := hx; omega)]; rfl)) (.refl _)
        · exact last _ (by kernel_rfl) (by unfold dirBad; rw [decide_eq_false (show ¬ 0 < c.length from by have hx : ¬ (0 : Int) < (c.length : Int) := hx; omega)]; rfl)
      · have hd : d = false := hd
        subst hd
        exact last _ (by kernel_rfl) rfl
    · rw [List.drop_eq_nil_of_le (by omega)]
      exact .rff rfl (.refl _)
  · refine .pat q41c R41c (fun v => (v.1.2.2.1 - v.1.2.2.2.1).toNat) ?_
    rintro ⟨⟨(m : Int), (L : List File), (n : Int), (k : Int), ⟨⟩⟩, ⟨⟩⟩ ih
    refine Gives.run (t' := .ite (decide (k < n)) (.need (inR k (List.length L)) (.need true (.need (decide (((0 : Int) ≤ (cond false (imax (((List.length (((List.getD L (Int.toNat k) (ByteArray.empty, (false, ([] : List Int))))).2).2) : Nat) : Int) (65536 : Int)) (imin (((List.length (((List.getD L (Int.toNat k) (ByteArray.empty, (false, ([] : List Int))))).2).2) : Nat) : Int) (65536 : Int)))) ∧ ((cond false (imax (((List.length (((List.getD L (Int.toNat k) (ByteArray.empty, (false, ([] : List Int))))).2).2) : Nat) : Int) (65536 : Int)) (imin (((List.length (((List.getD L (Int.toNat k) (ByteArray.empty, (false, ([] : List Int))))).2).2) : Nat) : Int) (65536 : Int))) ≤ (1000000000000000 : Int)))) (.need (decide (((-(9223372036854775808 : Int) : Int) ≤ ((1 : Int) + (blocksF (cond false (imax (((List.length (((List.getD L (Int.toNat k) (ByteArray.empty, (false, ([] : List Int))))).2).2) : Nat) : Int) (65536 : Int)) (imin (((List.length (((List.getD L (Int.toNat k) (ByteArray.empty, (false, ([] : List Int))))).2).2) : Nat) : Int) (65536 : Int)))) : Int)) ∧ (((1 : Int) + (blocksF (cond false (imax (((List.length (((List.getD L (Int.toNat k) (ByteArray.empty, (false, ([] : List Int))))).2).2) : Nat) : Int) (65536 : Int)) (imin (((List.length (((List.getD L (Int.toNat k) (ByteArray.empty, (false, ([] : List Int))))).2).2) : Nat) : Int) (65536 : Int)))) : Int) ≤ (9223372036854775807 : Int)))) (.need (decide (((-(9223372036854775808 : Int) : Int) ≤ (m + ((1 : Int) + (blocksF (cond false (imax (((List.length (((List.getD L (Int.toNat k) (ByteArray.empty, (false, ([] : List Int))))).2).2) : Nat) : Int) (65536 : Int)) (imin (((List.length (((List.getD L (Int.toNat k) (ByteArray.empty, (false, ([] : List Int))))).2).2) : Nat) : Int) (65536 : Int)))) : Int) : Int)) ∧ ((m + ((1 : Int) + (blocksF (cond false (imax (((List.length (((List.getD L (Int.toNat k) (ByteArray.empty, (false, ([] : List Int))))).2).2) : Nat) : Int) (65536 : Int)) (imin (((List.length (((List.getD L (Int.toNat k) (ByteArray.empty, (false, ([] : List Int))))).2).2) : Nat) : Int) (65536 : Int)))) : Int) : Int) ≤ (9223372036854775807 : Int)))) (.ite (decide ((128 : Int) < (m + ((1 : Int) + (blocksF (cond false (imax (((List.length (((List.getD L (Int.toNat k) (ByteArray.empty, (false, ([] : List Int))))).2).2) : Nat) : Int) (65536 : Int)) (imin (((List.length (((List.getD L (Int.toNat k) (ByteArray.empty, (false, ([] : List Int))))).2).2) : Nat) : Int) (65536 : Int)))) : Int) : Int))) (.ret (.rt, ⟨64, [(2, rI (3 : Int))], []⟩)) (.need (decide (((-(9223372036854775808 : Int) : Int) ≤ (k + (1 : Int) : Int)) ∧ ((k + (1 : Int) : Int) ≤ (9223372036854775807 : Int)))) (.ret (.nx, ⟨64, [(7, rI (m + ((1 : Int) + (blocksF (cond false (imax (((List.length (((List.getD L (Int.toNat k) (ByteArray.empty, (false, ([] : List Int))))).2).2) : Nat) : Int) (65536 : Int)) (imin (((List.length (((List.getD L (Int.toNat k) (ByteArray.empty, (false, ([] : List Int))))).2).2) : Nat) : Int) (65536 : Int)))) : Int) : Int)), (47, rL tFile L), (48, rI n), (49, rI (k + (1 : Int) : Int))], [(9, .cells 89 [.d (.v (.string ((List.getD L (Int.toNat k) (ByteArray.empty, (false, ([] : List Int))))).1)), .d (.v (.bool (((List.getD L (Int.toNat k) (ByteArray.empty, (false, ([] : List Int))))).2).1)), .d (.sl tU (((List.getD L (Int.toNat k) (ByteArray.empty, (false, ([] : List Int))))).2).2)])]⟩))))))))) (.ret (.ex 4, ⟨64, [], []⟩))) (by kernel_rfl) ?_
    refine .rnd fun ⟨h1, h2, h3, h4, h5, h6⟩ => ?_
    refine .lif (fun hk => ?_) (fun hk => ?_)
    · have e : (k + 1).toNat = k.toNat + 1 := by omega
      rw [drop_at L k.toNat (ByteArray.empty, false, []) (by omega)]
      refine .lneed (inR_of h3 (by omega)) ?_
      generalize L.getD k.toNat (ByteArray.empty, false, []) = x
      obtain ⟨p, d, c⟩ := x
      have hy : 0 ≤ imin (c.length : Int) 65536 ∧ imin (c.length : Int) 65536 ≤ 65536 := by unfold imin; split <;> omega
      have hb := blocksF_le hy.1
      have hbl : blkF (p, d, c) = 1 + blocksF (imin (c.length : Int) 65536) := rfl
      dsimp only [cond_false]
      refine .lneed rfl (.lnd (by omega) (.lnd (by omega) (.lnd (by omega) ?_)))
      rw [fullBad, hbl]
      refine .lif (fun hx => ?_) (fun hx => ?_)
      · exact .rtt (by rw [decide_eq_true hx]; rfl) (.refl _)
      refine .rb (by rw [decide_eq_false hx, Bool.false_or]) (.lnd (by omega) ?_)
      refine Gives.next (σ' := q41c.st ((m + (1 + blocksF (imin (c.length : Int) 65536)), L, n, k + 1, ()), ())) (by kernel_rfl) ((ih ((m + (1 + blocksF (imin (c.length : Int) 65536)), L, n, k + 1, ()), ()) (by simp only; omega)).trans ?_)
      refine .nd ⟨h1, h2, by omega, by omega, by omega, by omega⟩ ?_
      rw [e]; exact .refl _
    · rw [List.drop_eq_nil_of_le (by omega)]
      exact .rff rfl (.refl _)
def tMayCtr : Ctr := ctr (one (aVal (.sl tFile))) fun a => ans (rI (tMay a.1))
theorem tMay_ok : CtrOk Tryz.prog 25 tMayCtr := by
  refine .mk C41_ok mixed (q := fn41) (.of Tryz.func25 (by kernel_rfl)) lp41_ok (by decide) ?_
  rintro ⟨(l : List File), ⟨⟩⟩ hb
  have hl : l.length ≤ 9223372036854775807 := hb.1.1
  refine Gives.of_eq (t' := .need (decide (((((List.length l) : Nat) : Int) = (((List.length l) : Nat) : Int)) ∧ (((((List.length l) : Nat) : Int) ≤ (9223372036854775807 : Int)) ∧ (((0 : Int) ≤ (0 : Int)) ∧ ((0 : Int) ≤ (((List.length l) : Nat) : Int)))))) (.ite (List.any (List.drop 0 l) nameBad) (.ret (rI (10 : Int), ⟨0, [], []⟩)) (.need (decide (((((List.length l) : Nat) : Int) = (((List.length l) : Nat) : Int)) ∧ (((((List.length l) : Nat) : Int) ≤ (9223372036854775807 : Int)) ∧ (((0 : Int) ≤ (0 : Int)) ∧ ((0 : Int) ≤ (((List.length l) : Nat) : Int)))))) (.ite (List.any (List.drop 0 l) dirBad) (.ret (rI (12 : Int), ⟨0, [], []⟩)) (.need (decide (((((List.length l) : Nat) : Int) = (((List.length l) : Nat) : Int)) ∧ (((((List.length l) : Nat) : Int) ≤ (9223372036854775807 : Int)) ∧ (((0 : Int) ≤ (0 : Int)) ∧ (((0 : Int) ≤ (((List.length l) : Nat) : Int)) ∧ (((0 : Int) ≤ (2 : Int)) ∧ ((2 : Int) ≤ (128 : Int)))))))) (.ite (fullBad (2 : Int) (List.drop 0 l)) (.ret (rI (3 : Int), ⟨0, [], []⟩)) (.ret (rI (0 : Int), ⟨0, [], []⟩)))))))) (by kernel_rfl) ?_
  show Gives _ (.ret (rI (tMay l), (⟨0, [], []⟩ : St)))
  unfold tMay
  simp only [List.drop_zero]
  refine .nd ⟨trivial, by omega, by omega, by omega⟩ (.ite (fun h => ?_) (fun h => ?_))
  · rw [if_pos h]; exact .refl _
  rw [if_neg (by rw [h]; exact Bool.false_ne_true)]
  refine .nd ⟨trivial, by omega, by omega, by omega⟩ (.ite (fun h => ?_) (fun h => ?_))
  · rw [if_pos h]; exact .refl _
  rw [if_neg (by rw [h]; exact Bool.false_ne_true)]
  refine .nd ⟨trivial, by omega, by omega, by omega, by omega, by omega⟩ (.ite (fun h => ?_) (fun h => ?_))
  · rw [if_pos h]; exact .refl _
  rw [if_neg (by rw [h]; exact Bool.false_ne_true)]
  exact .refl _

/-! ### tar.Write -/
theorem headF_len (f : File) (h : f.1.size ≤ 99) : (headF f).length = 512 := by
  have hn := strB_length f.1
  have l7 : ∀ n, (octal n 7).length = 8 := fun n => octal_len n 7
  have l11 : ∀ n, (octal n 11).length = 12 := fun n => octal_len n 11
  have l6 : ∀ n, (octal n 6).length = 7 := fun n => octal_len n 6
  have hus : ustar.length = 8 := by decide +kernel
  have b0 : (cp0 (List.replicate 512 0) (strB f.1)).length = 512 := by rw [cp0_len (by rw [List.length_replicate]; omega)]; exact List.length_replicate
  have b1 : ∀ r, (cp (cp0 (List.replicate 512 0) (strB f.1)) 100 (octal r 7)).length = 512 := fun r => by rw [cp_len (by rw [l7]; omega)]; exact b0
  have b2 : ∀ r, (cp (cp (cp0 (List.replicate 512 0) (strB f.1)) 100 (octal r 7)) 108 (octal 0 7)).length = 512 := fun r => by rw [cp_len (by rw [l7, b1]; omega)]; exact b1 r
  have b3 : ∀ r, (cp (cp (cp (cp0 (List.replicate 512 0) (strB f.1)) 100 (octal r 7)) 108 (octal 0 7)) 116 (octal 0 7)).length = 512 := fun r => by rw [cp_len (by rw [l7, b2]; omega)]; exact b2 r
  have ha : (headA f).length = 512 := by
    unfold headA
    rw [cp_len (by rw [hus, List.length_set, cp_len (by rw [l11, cp_len (by rw [l11, b3]; omega), b3]; omega), cp_len (by rw [l11, b3]; omega), b3]; omega), List.length_set, cp_len (by rw [l11, cp_len (by rw [l11, b3]; omega), b3]; omega), cp_len (by rw [l11, b3]; omega), b3]
  unfold headF
  rw [cp_len (by rw [List.length_append, l6, ha]; simp), ha]
def padF (c : List Int) : List Int := List.replicate (blocksF c.length * 512 - c.length).toNat 0
def fileB (f : File) : List Int := (headF f ++ f.2.2) ++ padF f.2.2
def arcF (l : List File) : List Int := l.flatMap fileB ++ List.replicate 1024 0
noncomputable def fn23 := mkFn Tryz.f11
def C23 : Cx := ⟨T, FL, [(26, headCtr), (25, tMayCtr), (27, blocksCtr)], [], [FC + 7]⟩
theorem C23_ok : CxOk Tryz.prog C23 := ⟨T_ok, FL_ok, .cons head_ok (.cons tMay_ok (.cons blocks_ok (.nil _))), .nil _⟩
def nr23 : List NR := [⟨5, tU, 5⟩]
def q23 : Frm := ⟨40, [(5, .row 5), (13, .dat (.sl tFile)), (14, .dat tI), (15, .dat tI)], [(5, .row tU 5)]⟩
def R23 : q23.V → Tr (Ex × St) := fun ((_, (L : List File), (n : Int), (k : Int), _), (acc : List Int), _) =>
  .need (decide (n = L.length ∧ n ≤ 1000 ∧ 0 ≤ k ∧ k ≤ n ∧ acc.length ≤ 1000000 * (k + 1)) && L.all fun f => decide (f.1.size ≤ 99 ∧ f.2.2.length ≤ 65536)) (.ret (.ex 0, ⟨40, [(5, .e (.c (.row 5)))], [(5, .row tU 5 (acc ++ (L.drop k.toNat).flatMap fileB))]⟩))
def lp23 : LP := [(0, sumP q23 R23)]
theorem lp23_ok : LpsOk 0 C23 nr23 lp23 fn23.loops := by
  refine .all (by kernel_rfl) ?_
  simp only [lp23, List.forall_mem_cons, List.not_mem_nil, false_imp_iff, implies_true, and_true]
  refine .pat q23 R23 (fun v => (v.1.2.2.1 - v.1.2.2.2.1).toNat) ?_
  rintro ⟨⟨⟨⟩, (L : List File), (n : Int), (k : Int), ⟨⟩⟩, ⟨(acc : List Int), ⟨⟩⟩⟩ ih
  refine Gives.run (t' := .ite (decide (k < n)) (.need (inR k (List.length L)) (.need true (.need true (.need (decide ((ByteArray.size ((List.getD L (Int.toNat k) (ByteArray.empty, (false, ([] : List Int))))).1) ≤ 99)) (.need true (.need (decide ((((List.length acc) + (List.length (headF (List.getD L (Int.toNat k) (ByteArray.empty, (false, ([] : List Int)))))) : Nat) * (Lay.bytes L5) : Nat) ≤ 140737488355328)) (.need true (.need (decide ((((List.length (acc ++ (headF (List.getD L (Int.toNat k) (ByteArray.empty, (false, ([] : List Int))))))) + (List.length (((List.getD L (Int.toNat k) (ByteArray.empty, (false, ([] : List Int))))).2).2) : Nat) * (Lay.bytes L5) : Nat) ≤ 140737488355328)) (.need (decide (((0 : Int) ≤ (((List.length (((List.getD L (Int.toNat k) (ByteArray.empty, (false, ([] : List Int))))).2).2) : Nat) : Int)) ∧ ((((List.length (((List.getD L (Int.toNat k) (ByteArray.empty, (false, ([] : List Int))))).2).2) : Nat) : Int) ≤ (1000000000000000 : Int)))) (.need (decide (((-(9223372036854775808 : Int) : Int) ≤ ((blocksF (((List.length (((List.getD L (Int.toNat k) (ByteArray.empty, (false, ([] : List Int))))).2).2) : Nat) : Int)) * (512 : Int) : Int)) ∧ (((blocksF (((List.length (((List.getD L (Int.toNat k) (ByteArray.empty, (false, ([] : List Int))))).2).2) : Nat) : Int)) * (512 : Int) : Int) ≤ (9223372036854775807 : Int)))) (.need (decide (((-(9223372036854775808 : Int) : Int) ≤ (((blocksF (((List.length (((List.getD L (Int.toNat k) (ByteArray.empty, (false, ([] : List Int))))).2).2) : Nat) : Int)) * (512 : Int) : Int) - (((List.length (((List.getD L (Int.toNat k) (ByteArray.empty, (false, ([] : List Int))))).2).2) : Nat) : Int) : Int)) ∧ ((((blocksF (((List.length (((List.getD L (Int.toNat k) (ByteArray.empty, (false, ([] : List Int))))).2).2) : Nat) : Int)) * (512 : Int) : Int) - (((List.length (((List.getD L (Int.toNat k) (ByteArray.empty, (false, ([] : List Int))))).2).2) : Nat) : Int) : Int) ≤ (9223372036854775807 : Int)))) (.need (decide (((0 : Int) ≤ (((blocksF (((List.length (((List.getD L (Int.toNat k) (ByteArray.empty, (false, ([] : List Int))))).2).2) : Nat) : Int)) * (512 : Int) : Int) - (((List.length (((List.getD L (Int.toNat k) (ByteArray.empty, (false, ([] : List Int))))).2).2) : Nat) : Int) : Int)) ∧ ((((List.length ((acc ++ (headF (List.getD L (Int.toNat k) (ByteArray.empty, (false, ([] : List Int)))))) ++ (((List.getD L (Int.toNat k) (ByteArray.empty, (false, ([] : List Int))))).2).2)) + (Int.toNat (((blocksF (((List.length (((List.getD L (Int.toNat k) (ByteArray.empty, (false, ([] : List Int))))).2).2) : Nat) : Int)) * (512 : Int) : Int) - (((List.length (((List.getD L (Int.toNat k) (ByteArray.empty, (false, ([] : List Int))))).2).2) : Nat) : Int) : Int)) : Nat) * (Lay.bytes L5) : Nat) ≤ 140737488355328))) (.need (decide (((-(9223372036854775808 : Int) : Int) ≤ (k + (1 : Int) : Int)) ∧ ((k + (1 : Int) : Int) ≤ (9223372036854775807 : Int)))) (.ret (.nx, ⟨40, [(5, .e (.c (.row 36))), (13, rL tFile L), (14, rI n), (15, rI (k + (1 : Int) : Int))], [(36, .row tU 5 (((acc ++ (headF (List.getD L (Int.toNat k) (ByteArray.empty, (false, ([] : List Int)))))) ++ (((List.getD L (Int.toNat k) (ByteArray.empty, (false, ([] : List Int))))).2).2) ++ (List.replicate (Int.toNat (((blocksF (((List.length (((List.getD L (Int.toNat k) (ByteArray.empty, (false, ([] : List Int))))).2).2) : Nat) : Int)) * (512 : Int) : Int) - (((List.length (((List.getD L (Int.toNat k) (ByteArray.empty, (false, ([] : List Int))))).2).2) : Nat) : Int) : Int)) (0 : Int))))]⟩))))))))))))))) (.ret (.ex 0, ⟨40, [(5, .e (.c (.row 5)))], [(5, .row tU 5 acc)]⟩))) (by kernel_rfl) ?_
  refine .rneed fun h => ?_
  simp only [Bool.and_eq_true, decide_eq_true_eq] at h
  obtain ⟨⟨h1, h2, h3, h4, h5⟩, h6⟩ := h
  refine .lif (fun hk => ?_) (fun hk => ?_)
  · have e : (k + 1).toNat = k.toNat + 1 := by omega
    have hx := of_decide_eq_true (List.all_eq_true.1 h6 _ (List.getElem_mem (show k.toNat < L.length by omega)))
    rw [show L[k.toNat]'(by omega) = L.getD k.toNat (ByteArray.empty, false, []) by simp [List.getD_eq_getElem?_getD, List.getElem?_eq_getElem (show k.toNat < L.length by omega)]] at hx
    rw [drop_at L k.toNat (ByteArray.empty, false, []) (by omega)]
    refine .lneed (inR_of h3 (by omega)) ?_
    generalize L.getD k.toNat (ByteArray.empty, false, []) = x at hx ⊢
    obtain ⟨p, d, c⟩ := x
    have hp : p.size ≤ 99 := hx.1
    have hc : c.length ≤ 65536 := hx.2
    have hh := headF_len (p, d, c) hp
    have hb := blocksF_le (show (0 : Int) ≤ c.length by omega)
    have hfb : (fileB (p, d, c)).length ≤ 512 + 65536 + 511 := by
      simp only [fileB, padF, List.length_append, List.length_replicate]; omega
    refine .lneed rfl (.lneed rfl (.lnd hp (.lneed rfl (.lnd (by show (acc.length + (headF (p, d, c)).length) * 1 ≤ _; omega) (.lneed rfl (.lnd (by rw [List.length_append]; show (_ + c.length) * 1 ≤ _; omega) ?_))))))
    refine .lnd (by show (0 : Int) ≤ c.length ∧ (c.length : Int) ≤ _; omega) (.lnd (by show _ ≤ blocksF c.length * 512 ∧ blocksF c.length * 512 ≤ _; omega) (.lnd (by show _ ≤ blocksF c.length * 512 - c.length ∧ blocksF c.length * 512 - c.length ≤ _; omega) (.lnd ?_ (.lnd (by omega) ?_))))
    · show 0 ≤ blocksF c.length * 512 - c.length ∧ ((acc ++ headF (p, d, c) ++ c).length + (blocksF c.length * 512 - c.length).toNat) * 1 ≤ _
      rw [List.length_append, List.length_append]; omega
    refine Gives.next (σ' := q23.st (((), L, n, k + 1, ()), (((acc ++ headF (p, d, c)) ++ c) ++ padF c, ()))) (by kernel_rfl) ((ih (((), L, n, k + 1, ()), (((acc ++ headF (p, d, c)) ++ c) ++ padF c, ())) (by simp only; omega)).trans ?_)
    refine .need (by
      simp only [Bool.and_eq_true, decide_eq_true_eq]
      refine ⟨⟨h1, h2, by omega, by omega, ?_⟩, h6⟩
      simp only [fileB, List.length_append] at hfb ⊢; omega) ?_
    rw [e, List.flatMap_cons]
    simp only [fileB, List.append_assoc]
    exact .refl _
  · rw [List.drop_eq_nil_of_le (by omega), List.flatMap_nil, List.append_nil]
    exact .refl _
theorem fullBad_f : ∀ {l : List File} {m : Int}, fullBad m l = false → m + l.length ≤ 128 ∨ l = [] := by
  intro l
  induction l with
  | nil => exact fun _ => .inr rfl
  | cons f r ih =>
    intro m h
    rw [fullBad, Bool.or_eq_false_iff] at h
    have h1 := of_decide_eq_false h.1
    have h2 : 1 ≤ blkF f := by
      have : 0 ≤ imin (f.2.2.length : Int) 65536 := by unfold imin; split <;> omega
      have := blocksF_le this
      unfold blkF; omega
    rcases ih h.2 with h3 | h3
    · left; rw [List.length_cons]; omega
    · left; subst h3; simp; omega
theorem fullBad_at : ∀ {l : List File} {m : Int}, fullBad m l = false → 0 ≤ m → ∀ f ∈ l, f.2.2.length ≤ 65024 := by
  intro l
  induction l with
  | nil => exact fun _ _ f hf => by cases hf
  | cons g r ih =>
    intro m h hm f hf
    rw [fullBad, Bool.or_eq_false_iff] at h
    have h1 := of_decide_eq_false h.1
    have h0 : 0 ≤ imin (g.2.2.length : Int) 65536 := by unfold imin; split <;> omega
    have h2 := blocksF_le h0
    rcases List.mem_cons.1 hf with rfl | hf
    · unfold blkF at h1
      have : imin (f.2.2.length : Int) 65536 ≤ 65024 := by omega
      unfold imin at this
      split at this <;> omega
    · exact ih h.2 (by unfold blkF; omega) f hf
theorem tMay_zero {l : List File} (h : tMay l = 0) : l.length ≤ 126 ∧ l.any nameBad = false ∧ l.any dirBad = false ∧ fullBad 2 l = false ∧ l.all (fun f => decide (f.1.size ≤ 99 ∧ f.2.2.length ≤ 65536)) = true := by
  unfold tMay at h
  split at h
  · cases h
  rename_i h1
  split at h
  · cases h
  rename_i h2
  split at h
  · cases h
  rename_i h3
  have h1 : l.any nameBad = false := by simpa using h1
  have h2 : l.any dirBad = false := by simpa using h2
  have h3 : fullBad 2 l = false := by simpa using h3
  refine ⟨?_, h1, h2, h3, List.all_eq_true.2 fun f hf => decide_eq_true ⟨?_, ?_⟩⟩
  · rcases fullBad_f h3 with h | h
    · omega
    · subst h; simp
  · have := List.any_eq_false.1 h1 f hf
    simp only [nameBad, Bool.or_eq_true, decide_eq_true_eq, not_or] at this
    omega
  · have := fullBad_at h3 (by omega) f hf; omega
def tWriteCtr : Ctr := ctr (one (aVal (.sl tFile))) fun a => .ite (tMay a.1 != 0) (.ret (.tup [.c .nil, eI (tMay a.1)], [])) (.ret (.tup [.c (.row 39), eI 0], [(39, .row tU 5 (arcF a.1))]))
theorem tWrite_ok : CtrOk Tryz.prog 11 tWriteCtr := by
  refine .mk C23_ok mixed (q := fn23) (.of Tryz.func11 (by kernel_rfl)) lp23_ok (by decide) ?_
  rintro ⟨(l : List File), ⟨⟩⟩ hb
  refine Gives.of_eq (t' := .ite ((tMay l) != (0 : Int)) (.ret (.tup [.c (.nil), .c (.d (.v (.int .i64 (tMay l))))], ⟨0, [], []⟩)) (.need ((decide (((((List.length l) : Nat) : Int) = (((List.length l) : Nat) : Int)) ∧ (((((List.length l) : Nat) : Int) ≤ (1000 : Int)) ∧ (((0 : Int) ≤ (0 : Int)) ∧ (((0 : Int) ≤ (((List.length l) : Nat) : Int)) ∧ ((((List.length ([] : List Int)) : Nat) : Int) ≤ ((1000000 : Int) * ((0 : Int) + (1 : Int) : Int) : Int))))))) && (List.all l (fun f => (decide (((ByteArray.size (f).1) ≤ 99) ∧ ((List.length ((f).2).2) ≤ 65536)))))) (.need (decide (((0 : Int) ≤ (1024 : Int)) ∧ ((((List.length (([] : List Int) ++ (List.flatMap fileB (List.drop 0 l)))) + 1024 : Nat) * (Lay.bytes L5) : Nat) ≤ 140737488355328))) (.ret (.tup [.c (.row 39), .c (.d (.v (.int .i64 (0 : Int))))], ⟨0, [], [(39, .row tU 5 ((([] : List Int) ++ (List.flatMap fileB (List.drop 0 l))) ++ (List.replicate 1024 (0 : Int))))]⟩))))) (by kernel_rfl) ?_
  show Gives _ (.ite (tMay l != 0) _ (.ret (SV.tup [.c (.row 39), eI 0], (⟨0, [], [(39, .row tU 5 (arcF l))]⟩ : St))))
  refine .ites (fun _ => .refl _) (fun h => ?_)
  have h : tMay l = 0 := by simpa using h
  obtain ⟨h1, h2, h3, h4, h5⟩ := tMay_zero h
  have hf : (l.flatMap fileB).length ≤ 100000 * l.length := flat_len fileB 100000 l fun f hf => by
    have := of_decide_eq_true (List.all_eq_true.1 h5 f hf)
    have hh := headF_len f this.1
    have hb := blocksF_le (show (0 : Int) ≤ f.2.2.length by omega)
    simp only [fileB, padF, List.length_append, List.length_replicate]; omega
  simp only [List.drop_zero, List.nil_append]
  refine .need (by simp only [Bool.and_eq_true, decide_eq_true_eq]; exact ⟨⟨trivial, by omega, by omega, by omega, by simp⟩, h5⟩) (.nd ⟨by omega, by show (_ + 1024) * 1 ≤ _; omega⟩ (.refl _))
end Go.Proofs.YtjebfbkigkjboaaGreatDoor.Sy

/- Contracts: image.Write. -/
set_option maxRecDepth 100000
namespace Go.Proofs.YtjebfbkigkjboaaGreatDoor.Sy
open Go.RowKit Kit Go.Proofs
/-- why an image has no bytes -/
def traceBad (t : Trc) : Bool := decide (1024 < t.1.length) || decide (t.2.1 < 1) || decide (5 < t.2.1)
def imgFs (m : Img) : List File := filesF m (pBytes m.1)
def writeE (m : Img) : Int :=
  if pMay m.1 ≠ 0 then pMay m.1 else if cMay m.2.1 = false then 11 else if cHas m.2.1 m.2.2.1 = false then 12 else if traceBad m.2.2.2 then 4 else tMay (imgFs m)
def writeB (m : Img) : List Int := arcF (imgFs m)
noncomputable def fn8 := mkFn Tryz.f5
noncomputable def C8 : Cx := ⟨T, FL, [(8, pBytesCtr), (9, cMayCtr), (10, cHasCtr), (11, tWriteCtr), (12, imgFilesCtr)], [], []⟩
theorem C8_ok : CxOk Tryz.prog C8 := ⟨T_ok, FL_ok, .cons pBytes_ok (.cons cMay_ok (.cons cHas_ok (.cons tWrite_ok (.cons imgFiles_ok (.nil _))))), .nil _⟩
def writeA (m : Img) : Ans := .ite (writeE m != 0) (.ret (.tup [.c .nil, eI (writeE m)], [])) (.ret (.tup [.c (.row 40049), eI 0], [(40049, .row tU 5 (writeB m))]))
theorem treeF_names : ∀ (t : List Ent) (m : TMap) (nx : Int), (treeF m nx t).isSome = true → ∀ x ∈ t, nameF x.1 = true
  | [], _, _, _, x, hx => by cases hx
  | y :: r, m, nx, h, x, hx => by
    rw [treeF] at h
    split at h
    · cases h
    rename_i h1
    split at h
    · cases h
    rcases List.mem_cons.1 hx with rfl | hx
    · simpa using h1
    · exact treeF_names r _ _ h x hx
theorem cMay_f {c : Cls} (h : cMay c = true) : treeOk c.1 = true ∧ (filesK 0 c.1).length ≤ 4 ∧ c.2.1.length ≤ 2 ∧ c.1.all entOk = true ∧ c.2.1.all capOk = true ∧ (0 ≤ c.2.2.1 ∧ c.2.2.1 ≤ 6) ∧ (0 ≤ c.2.2.2.1 ∧ c.2.2.2.1 ≤ c.2.2.1) ∧ (0 ≤ c.2.2.2.2 ∧ c.2.2.2.2 ≤ 400) := by
  simp only [cMay, Bool.and_eq_true, decide_eq_true_eq] at h
  obtain ⟨⟨⟨⟨⟨⟨⟨h1, h2⟩, h3⟩, h4⟩, h5⟩, h6⟩, h7⟩, h8⟩ := h
  exact ⟨h1, h2, h3, h4, h5, h6, h7, h8⟩
theorem treeOk_f {t : List Ent} (h : treeOk t = true) : t.length ≤ 8 ∧ ∀ x ∈ t, nameF x.1 = true := by
  simp only [treeOk, Bool.and_eq_true, decide_eq_true_eq] at h
  exact ⟨h.1, treeF_names t _ _ h.2⟩
theorem cHas_f {c : Cls} {i : Inp} (h : cHas c i = true) : cMay c = true ∧ i.1.length = (filesK 0 c.1).length ∧ i.2.1.length = c.2.1.length ∧ fMay i.2.2 c.2.2.1 c.2.2.2.1 = true ∧ fitL (capsC c) (i.1 ++ i.2.1) = true := by
  simp only [cHas, Bool.and_eq_true, decide_eq_true_eq] at h
  obtain ⟨⟨⟨⟨h1, h2⟩, h3⟩, h4⟩, h5⟩ := h
  exact ⟨h1, h2, h3, h4, h5⟩
theorem capsF_files (t : List Ent) : (capsF t).length = (filesK 0 t).length := by rw [← capsAt_files [] t]; simp [capsAt]
theorem filesOk_of {m : Img} (h : cHas m.2.1 m.2.2.1 = true) (ht : m.2.2.2.1.length ≤ 1024) : filesOk m = true := by
  obtain ⟨h1, h2, h3, h4, h5⟩ := cHas_f h
  obtain ⟨g1, g2, g3, g4, g5, g6, g7, g8⟩ := cMay_f h1
  obtain ⟨t1, t2⟩ := treeOk_f g1
  have hc := capsF_files m.2.1.1
  have hl : m.2.2.1.2.2.length ≤ 6 := by
    simp only [fMay, Bool.and_eq_true, decide_eq_true_eq] at h4; omega
  simp only [filesOk, Bool.and_eq_true, decide_eq_true_eq]
  exact ⟨⟨by omega, by omega, by omega, by omega, by omega, by omega, by omega⟩, List.all_eq_true.2 fun x hx => decide_eq_true (by have := nameF_size (t2 x hx); omega)⟩
def writeCtr : Ctr := ctr (one (aAgg tImg)) fun a => writeA a.1
theorem write_ok : CtrOk Tryz.prog 5 writeCtr := by
  refine .mk C8_ok mixed (q := fn8) (.of Tryz.func5 (by kernel_rfl)) (N := 0) (nr := []) .none (by decide) ?_
  rintro ⟨(m : Img), ⟨⟩⟩ hb
  refine Gives.of_eq (t' := .need true (.ite ((pMay (m).1) != (0 : Int)) (.ret (.tup [.c (.nil), .c (.d (.v (.int .i64 (pMay (m).1))))], ⟨0, [], []⟩)) (.need true (.ite (!(cMay ((m).2).1)) (.ret (.tup [.c (.nil), .c (.d (.v (.int .i64 (11 : Int))))], ⟨0, [], []⟩)) (.need true (.need true (.need (decide ((List.length (((m).2).1).1) ≤ 1000000)) (.ite (!(cHas ((m).2).1 (((m).2).2).1)) (.ret (.tup [.c (.nil), .c (.d (.v (.int .i64 (12 : Int))))], ⟨0, [], []⟩)) (.ite (decide ((1024 : Int) < (((List.length ((((m).2).2).2).1) : Nat) : Int))) (.ret (.tup [.c (.nil), .c (.d (.v (.int .i64 (4 : Int))))], ⟨0, [], []⟩)) (.ite (decide ((((((m).2).2).2).2).1 < (1 : Int))) (.ret (.tup [.c (.nil), .c (.d (.v (.int .i64 (4 : Int))))], ⟨0, [], []⟩)) (.ite (decide ((5 : Int) < (((((m).2).2).2).2).1)) (.ret (.tup [.c (.nil), .c (.d (.v (.int .i64 (4 : Int))))], ⟨0, [], []⟩)) (.need true (.need (filesOk m) (.ite ((tMay (filesF m (pBytesE (m).1))) != (0 : Int)) (.ret (.tup [.c (.nil), .c (.d (.v (.int .i64 (tMay (filesF m (pBytesE (m).1))))))], ⟨0, [], []⟩)) (.ret (.tup [.c (.row 40049), .c (.d (.v (.int .i64 (0 : Int))))], ⟨0, [], [(40049, .row tU 5 (arcF (filesF m (pBytesE (m).1))))]⟩)))))))))))))))) (by kernel_rfl) ?_
  show Gives _ (.ite (writeE m != 0) (.ret (SV.tup [.c .nil, eI (writeE m)], (⟨0, [], []⟩ : St))) (.ret (SV.tup [.c (.row 40049), eI 0], (⟨0, [], [(40049, .row tU 5 (writeB m))]⟩ : St))))
  unfold writeE
  refine .need rfl (.ite (fun h => ?_) (fun h => ?_))
  · rw [if_pos (by simpa using h)]; exact .rtt h (.refl _)
  have h0 : pMay m.1 = 0 := by simpa using h
  rw [if_neg (by simpa using h)]
  have hp : pBytesE m.1 = pBytes m.1 := by unfold pBytesE; rw [if_pos h0]
  refine .need rfl (.ite (fun h => ?_) (fun h => ?_))
  · rw [if_pos (by rw [← Bool.not_eq_true']; exact h)]; exact .rtt rfl (.refl _)
  have h1 : cMay m.2.1 = true := by rw [← Bool.not_eq_false']; exact h
  rw [if_neg (by rw [h1]; simp)]
  have t1 := (treeOk_f (cMay_f h1).1).1
  refine .need rfl (.need rfl (.nd (by omega) (.ite (fun h => ?_) (fun h => ?_))))
  · rw [if_pos (by rw [← Bool.not_eq_true']; exact h)]; exact .rtt rfl (.refl _)
  have h2 : cHas m.2.1 m.2.2.1 = true := by rw [← Bool.not_eq_false']; exact h
  rw [if_neg (by rw [h2]; simp)]
  unfold traceBad
  refine .if_ (fun h => ?_) (fun h => ?_)
  · rw [if_pos (by rw [decide_eq_true (show 1024 < m.2.2.2.1.length by omega)]; rfl)]; exact .rtt rfl (.refl _)
  rw [decide_eq_false (show ¬ 1024 < m.2.2.2.1.length by omega)]
  refine .if_ (fun h' => ?_) (fun h' => ?_)
  · rw [if_pos (by rw [decide_eq_true h']; rfl)]; exact .rtt rfl (.refl _)
  rw [decide_eq_false h']
  refine .if_ (fun h'' => ?_) (fun h'' => ?_)
  · rw [if_pos (by rw [decide_eq_true h'']; rfl)]; exact .rtt rfl (.refl _)
  rw [decide_eq_false h'', if_neg (by simp), hp]
  exact .need rfl (.need (filesOk_of h2 (by omega)) (.refl _))
end Go.Proofs.YtjebfbkigkjboaaGreatDoor.Sy

/- Contracts: bytes of a program are read. -/
set_option maxRecDepth 100000
namespace Go.Proofs.YtjebfbkigkjboaaGreatDoor.Sy
open Go.RowKit Kit Go.Proofs
theorem Rel.unk {w0 : Base} {M0 M : Snap} {β : Plc} {τ : St} {tm : Array Value} {w : World} (h : Rel w0 M0 M β τ tm w) : Rel w0 M0 M β (unkS τ) tm w := { h with
  env := fun s x hs => by
    simp only [unkS, get_mapv] at hs
    obtain ⟨y, hy, rfl⟩ := Option.map_eq_some_iff.1 hs
    obtain ⟨v, hv, hr⟩ := h.env s y hy
    exact ⟨v, hv, hr.unk⟩
  objs := fun i o ho => by
    simp only [unkS, get_mapv] at ho
    obtain ⟨y, hy, rfl⟩ := Option.map_eq_some_iff.1 ho
    obtain ⟨p, hp, hr⟩ := h.objs i y hy
    exact ⟨p, hp, hr.unk⟩ }
/-- truth values in what is left, as any others -/
theorem CtrOk.unkR {P : Program} {f : Nat} {F : Ctr} (h : CtrOk P f F) : CtrOk P f fun xs τ => (F xs τ).bind fun r => .ret (r.1, unkS r.2) := by
  refine ⟨h.1, fun b M β τ xs vs hrel hxs K hk => ?_⟩
  refine (h.2 b M β τ xs vs hrel hxs _ (Tr.sat_bind hk)).mono fun e w' hq => ?_
  obtain ⟨x, τ', v, M', β', hK, he, hx, hr⟩ := hq
  exact ⟨x, unkS τ', v, M', β', hK, he, hx, hr.unk⟩
theorem CtrOk.gives {P : Program} {f : Nat} {F G : Ctr} (h : CtrOk P f F) (hg : ∀ xs τ, Gives (F xs τ) (G xs τ)) : CtrOk P f G :=
  ⟨h.1, fun b M β τ xs vs hrel hxs K hk => h.2 b M β τ xs vs hrel hxs K ((hg xs τ).out K hk)⟩

/-! ### the reader -/
/-- bytes that are left; there were too few -/
abbrev Rdr : Type := List Int × Bool
def qR : Frm := ⟨0, [(GH, .np LB 0)], [(LB, .cells 217 [.dat tB, .dat .bool])]⟩
def qRst (r : Rdr) : St := qR.st (((), ()), ((r.1, r.2, ()), ()))
def takeF (r : Rdr) (n : Int) : List Int × Rdr :=
  if r.2 ∨ (r.1.length : Int) < n then (List.replicate n.toNat 0, (r.1, true)) else (r.1.take n.toNat, (r.1.drop n.toNat, false))
noncomputable def fn72 := mkFn Tryz.f97
def C72 : Cx := ⟨T, FL, [], [], [FA]⟩
theorem C72_ok : CxOk Tryz.prog C72 := ⟨T_ok, FL_ok, .nil _, .nil _⟩
def takeL (a : Unit × Int × Unit) (v : qR.V) : Tr (SV × St) := .need (decide (0 ≤ a.2.1 ∧ a.2.1 ≤ 1000)) (.ret (rL tU (takeF (v.2.1.1, v.2.1.2.1) a.2.1).1, qRst (takeF (v.2.1.1, v.2.1.2.1) a.2.1).2))
def takeCtr : Ctr := ctrL (two (aNp LB 0) aI) qR takeL
theorem take_ok : CtrOk Tryz.prog 97 takeCtr := by
  refine CtrOk.gives (CtrOk.unkR (F := ctrL (two (aNp LB 0) aI) qR fun a v => .need (decide (0 ≤ a.2.1 ∧ a.2.1 ≤ 1000)) (.ite (decide (v.2.1.2.1 = true ∨ (v.2.1.1.length : Int) < a.2.1)) (.ret (rL tU (List.replicate a.2.1.toNat 0), ⟨0, [(GH, .e (.c (.np LB 0)))], [(LB, .cells 217 [.d (.sl tU v.2.1.1), .kb true])]⟩)) (.ret (rL tU (v.2.1.1.take a.2.1.toNat), qRst (v.2.1.1.drop a.2.1.toNat, false))))) ?_) fun xs τ => ?_
  · refine .mkL C72_ok mixed (q := fn72) (.of Tryz.func97 (by kernel_rfl)) (N := 0) (nr := []) .none (by decide) ?_
    rintro ⟨⟨⟩, (n : Int), ⟨⟩⟩ ⟨⟨⟨⟩, ⟨⟩⟩, ⟨(b : List Int), (bad : Bool), ⟨⟩⟩, ⟨⟩⟩
    refine Gives.of_eq (t' := .ite bad (.need (decide (((0 : Int) ≤ n) ∧ ((n = n) ∧ (((((Lay.bytes L5) : Nat) : Int) * n : Int) ≤ (281474976710656 : Int))))) (.ret (rL (Ty.int IntKind.u8) (List.replicate (Int.toNat n) (0 : Int)), ⟨0, [(100000, .e (.c (.np 1000000000000 0)))], [(1000000000000, .cells 217 [.d (.sl tU b), .kb true])]⟩))) (.ite (decide ((((List.length b) : Nat) : Int) < n)) (.need (decide (((0 : Int) ≤ n) ∧ ((n = n) ∧ (((((Lay.bytes L5) : Nat) : Int) * n : Int) ≤ (281474976710656 : Int))))) (.ret (rL (Ty.int IntKind.u8) (List.replicate (Int.toNat n) (0 : Int)), ⟨0, [(100000, .e (.c (.np 1000000000000 0)))], [(1000000000000, .cells 217 [.d (.sl tU b), .kb true])]⟩))) (.need (okB (0 : Int) n (List.length b)) (.need (okB n (((List.length b) : Nat) : Int) (List.length b)) (.ret (rL tU (List.drop 0 (List.take (Int.toNat n) b)), ⟨0, [(100000, .e (.c (.np 1000000000000 0)))], [(1000000000000, .cells 217 [.d (.sl tU (List.drop (Int.toNat n) (List.take (List.length b) b))), .d (.v (.bool bad))])]⟩)))))) (by kernel_rfl) ?_
    refine .rnd fun ⟨h1, h2⟩ => ?_
    have h1 : 0 ≤ n := h1
    have h2 : n ≤ 1000 := h2
    have hm : 0 ≤ n ∧ n = n ∧ ((L5.bytes : Nat) : Int) * n ≤ 281474976710656 := ⟨h1, rfl, by show ((1 : Nat) : Int) * n ≤ _; omega⟩
    cases bad with
    | true => exact .tt rfl (.nd hm (.rtt (decide_eq_true (.inl rfl)) (.refl _)))
    | false =>
      refine .ff rfl (.if_ (fun h => ?_) (fun h => ?_))
      · exact .nd hm (.rtt (decide_eq_true (.inr h)) (.refl _))
      · refine .rff (decide_eq_false (by rintro (h' | h'); cases h'; exact h h')) (.need (by simp [okB]; omega) (.need (by simp [okB]; omega) ?_))
        rw [List.drop_zero, List.take_length]
        exact .refl _
  · unfold takeCtr ctrL
    cases (two (aNp LB 0) aI).de xs with
    | none => exact .fail
    | some a =>
      cases qR.de (unkS τ) with
      | none => exact .fail
      | some v =>
        obtain ⟨⟨⟩, (n : Int), ⟨⟩⟩ := a
        obtain ⟨⟨⟨⟩, ⟨⟩⟩, ⟨(b : List Int), (bad : Bool), ⟨⟩⟩, ⟨⟩⟩ := v
        refine .rneed fun h => .need h ?_
        by_cases hc : bad = true ∨ (b.length : Int) < n
        · show Gives _ (.ret (rL tU (takeF (b, bad) n).1, qRst (takeF (b, bad) n).2))
          rw [show takeF (b, bad) n = (List.replicate n.toNat 0, (b, true)) from if_pos hc]
          exact .tt (decide_eq_true hc) (.refl _)
        · show Gives _ (.ret (rL tU (takeF (b, bad) n).1, qRst (takeF (b, bad) n).2))
          rw [show takeF (b, bad) n = (b.take n.toNat, (b.drop n.toNat, false)) from if_neg hc]
          exact .ff (decide_eq_false hc) (.refl _)
theorem takeF_len (r : Rdr) {n : Int} (h : 0 ≤ n) : (takeF r n).1.length = n.toNat := by
  unfold takeF
  split
  · exact List.length_replicate
  · rename_i hc; rw [not_or] at hc; simp only [List.length_take]; omega
/-- a byte is taken -/
def oneF (r : Rdr) : Int × Rdr := (IntKind.wrap .i64 ((takeF r 1).1.getD 0 0), (takeF r 1).2)
noncomputable def fn71 := mkFn Tryz.f96
def C71 : Cx := ⟨T, FL, [], [(97, takeCtr)], []⟩
theorem C71_ok : CxOk Tryz.prog C71 := ⟨T_ok, FL_ok, .nil _, .cons take_ok (.nil _)⟩
def oneL (_ : Unit × Unit) (v : qR.V) : Tr (SV × St) := .ret (rI (oneF (v.2.1.1, v.2.1.2.1)).1, qRst (oneF (v.2.1.1, v.2.1.2.1)).2)
def oneCtr : Ctr := ctrL (one (aNp LB 0)) qR oneL
theorem one_ok : CtrOk Tryz.prog 96 oneCtr := by
  refine .mkL C71_ok mixed (q := fn71) (.of Tryz.func96 (by kernel_rfl)) (N := 0) (nr := []) .none (by decide) ?_
  rintro ⟨⟨⟩, ⟨⟩⟩ ⟨⟨⟨⟩, ⟨⟩⟩, ⟨(b : List Int), (bad : Bool), ⟨⟩⟩, ⟨⟩⟩
  refine Gives.of_eq (t' := .need true (.need (inR (0 : Int) (List.length ((takeF (b, bad) (1 : Int))).1)) (.ret (rI (IntKind.wrap IntKind.i64 (List.getD ((takeF (b, bad) (1 : Int))).1 0 (0 : Int))), ⟨0, [(100000, .e (.c (.np 1000000000000 0)))], [(1000000000000, .cells 217 [.d (.sl tU (((takeF (b, bad) (1 : Int))).2).1), .d (.v (.bool (((takeF (b, bad) (1 : Int))).2).2))])]⟩)))) (by kernel_rfl) ?_
  have := takeF_len (b, bad) (show (0 : Int) ≤ 1 by omega)
  exact .need rfl (.need (inR_of (by omega) (by omega)) (.refl _))
noncomputable def fn54 := mkFn Tryz.f56
def C54 : Cx := ⟨T, FL, [(19, pmayCtr)], [(97, takeCtr), (96, oneCtr)], [12, FA]⟩
theorem C54_ok : CxOk Tryz.prog C54 := ⟨T_ok, FL_ok, .cons pmay_ok (.nil _), .cons take_ok (.cons one_ok (.nil _))⟩
abbrev CBp : Nat := 1000005000
def nr54 : List NR := [⟨CBp, tInst, 24⟩, ⟨CBp + 1, .str, 9⟩]
def namesF : Nat → Rdr → List ByteArray × Rdr
  | 0, r => ([], r)
  | n + 1, r => (txt (takeF (oneF r).2 (oneF r).1).1 :: (namesF n (takeF (oneF r).2 (oneF r).1).2).1, (namesF n (takeF (oneF r).2 (oneF r).1).2).2)
def instF (l : List Int) : Int × Int := (IntKind.wrap .i64 (l.getD 0 0), num2 (l.getD 1 0) (l.getD 2 0))
def instsF : Nat → Rdr → List (Int × Int) × Rdr
  | 0, r => ([], r)
  | n + 1, r => (instF (takeF r 3).1 :: (instsF n (takeF r 3).2).1, (instsF n (takeF r 3).2).2)
/-- bytes that are bytes -/
def rOk (r : Rdr) : Bool := u8s r.1
theorem takeF_u8 {r : Rdr} (h : rOk r = true) (n : Int) : u8s (takeF r n).1 = true ∧ rOk (takeF r n).2 = true := by
  unfold takeF
  split
  · exact ⟨u8s_rep _, h⟩
  · exact ⟨u8s_take h _, u8s_drop h _⟩
theorem wrap_i64u {n : Int} (h : 0 ≤ n ∧ n ≤ 255) : IntKind.wrap .i64 n = n := wrap_i64 (by omega)
theorem oneF_u8 {r : Rdr} (h : rOk r = true) : 0 ≤ (oneF r).1 ∧ (oneF r).1 ≤ 255 ∧ rOk (oneF r).2 = true := by
  have h1 := takeF_u8 h 1
  have h2 := u8s_at h1.1 0
  unfold oneF
  simp only
  rw [wrap_i64u h2]
  exact ⟨h2.1, h2.2, h1.2⟩
def q54a : Frm := ⟨92, [(2, .np 2 0), (4, .np 12 0), (5, .np 5 0), (31, .dat tI), (32, .dat tI)], [(2, .cells 28 [.nil, .nil]), (5, .cells 28 [.row CBp, .row (CBp + 1)]), (12, .cells 217 [.dat tB, .dat .bool]), (CBp, .row tInst 24), (CBp + 1, .row .str 9)]⟩
def mk54 (x : List (Nat × SV)) (r : Rdr) (L : List (Int × Int)) (N : List ByteArray) : St :=
  ⟨92, [(2, .e (.c (.np 2 0))), (4, .e (.c (.np 12 0))), (5, .e (.c (.np 5 0)))] ++ x, [(2, .cells 28 [.nil, .nil]), (5, .cells 28 [.row CBp, .row (CBp + 1)]), (12, .cells 217 [.d (.sl tU r.1), .d (.v (.bool r.2))]), (CBp, .row tInst 24 L), (CBp + 1, .row .str 9 N)]⟩
def R54a : q54a.V → Tr (Ex × St) := fun ((_, _, _, (n : Int), (k : Int), _), (_, _, ((b : List Int), (bad : Bool), _), (L : List (Int × Int)), (N : List ByteArray), _)) =>
  .need (decide (n ≤ 255 ∧ 0 ≤ k ∧ k ≤ n ∧ N.length ≤ k ∧ rOk (b, bad) = true)) (.ret (.ex 0, mk54 [] (namesF (n - k).toNat (b, bad)).2 L (N ++ (namesF (n - k).toNat (b, bad)).1)))
def q54b : Frm := ⟨92, [(2, .np 2 0), (4, .np 12 0), (5, .np 5 0), (46, .dat tI), (47, .dat tI)], [(2, .cells 28 [.nil, .nil]), (5, .cells 28 [.row CBp, .row (CBp + 1)]), (12, .cells 217 [.dat tB, .dat .bool]), (CBp, .row tInst 24), (CBp + 1, .row .str 9)]⟩
def R54b : q54b.V → Tr (Ex × St) := fun ((_, _, _, (n : Int), (k : Int), _), (_, _, ((b : List Int), (bad : Bool), _), (L : List (Int × Int)), (N : List ByteArray), _)) =>
  .need (decide (n ≤ 255 ∧ 0 ≤ k ∧ k ≤ n ∧ L.length ≤ k ∧ rOk (b, bad) = true)) (.ret (.ex 2, mk54 [] (instsF (n - k).toNat (b, bad)).2 (L ++ (instsF (n - k).toNat (b, bad)).1) N))
def lp54 : LP := [(0, sumP q54a R54a), (2, sumP q54b R54b)]
set_option maxHeartbeats 2000000 in
theorem lp54a_ok : SumOk 0 C54 nr54 lp54 (fn54.at 0) (sumP q54a R54a) := by
  refine .pat q54a R54a (fun v => (v.1.2.2.2.1 - v.1.2.2.2.2.1).toNat) ?_
  rintro ⟨⟨⟨⟩, ⟨⟩, ⟨⟩, (n : Int), (k : Int), ⟨⟩⟩, ⟨⟨⟩, ⟨⟩, ⟨⟩⟩, ⟨⟨⟩, ⟨⟩, ⟨⟩⟩, ⟨(b : List Int), (bad : Bool), ⟨⟩⟩, (L : List (Int × Int)), (N : List ByteArray), ⟨⟩⟩ ih
  refine Gives.run (t' := .ite (decide (k < n)) (.need (decide (((0 : Int) ≤ ((oneF (b, bad))).1) ∧ (((oneF (b, bad))).1 ≤ (1000 : Int)))) (.need true (.need true (.need (decide ((((List.length N) + (List.length [(txt ((takeF ((oneF (b, bad))).2 ((oneF (b, bad))).1)).1)]) : Nat) * (Lay.bytes L9) : Nat) ≤ 140737488355328)) (.need (decide (((0 : Int) ≤ ((oneF (b, bad))).1) ∧ (((oneF (b, bad))).1 ≤ (1000 : Int)))) (.need true (.need true (.need (decide ((((List.length N) + (List.length [(txt ((takeF ((oneF (b, bad))).2 ((oneF (b, bad))).1)).1)]) : Nat) * (Lay.bytes L9) : Nat) ≤ 140737488355328)) (.need (decide ((List.length L) = (List.length L))) (.need (decide ((List.length N) = (List.length N))) (.need (decide ((List.length L) = (List.length L))) (.need (decide ((List.length N) = (List.length N))) (.need (decide ((List.length L) = (List.length L))) (.need (decide ((List.length N) = (List.length N))) (.need (decide ((List.length L) = (List.length L))) (.need (decide ((List.length N) = (List.length N))) (.need (decide (((-(9223372036854775808 : Int) : Int) ≤ (k + (1 : Int) : Int)) ∧ ((k + (1 : Int) : Int) ≤ (9223372036854775807 : Int)))) (.ret (.nx, ⟨92, [(2, .e (.c (.np 2 0))), (4, .e (.c (.np 12 0))), (5, .e (.c (.np 5 0))), (31, rI n), (32, rI (k + (1 : Int) : Int))], [(2, .cells 28 [.nil, .nil]), (5, .cells 28 [.row 1000005000, .row 42]), (12, .cells 217 [.d (.sl tU (((takeF ((oneF (b, bad))).2 ((oneF (b, bad))).1)).2).1), .d (.v (.bool (((takeF ((oneF (b, bad))).2 ((oneF (b, bad))).1)).2).2))]), (42, .row Ty.str 9 (N ++ [(txt ((takeF ((oneF (b, bad))).2 ((oneF (b, bad))).1)).1)])), (1000005000, .row tInst 24 L)]⟩))))))))))))))))))) (.ret (.ex 0, ⟨92, [(2, .e (.c (.np 2 0))), (4, .e (.c (.np 12 0))), (5, .e (.c (.np 5 0)))], [(2, .cells 28 [.nil, .nil]), (5, .cells 28 [.row 1000005000, .row 1000005001]), (12, .cells 217 [.d (.sl tU b), .d (.v (.bool bad))]), (1000005000, .row tInst 24 L), (1000005001, .row Ty.str 9 N)]⟩))) (by kernel_rfl) ?_
  refine .rnd fun ⟨h2, h3, h4, h5, h6⟩ => ?_
  refine .lif (fun hk => ?_) (fun hk => ?_)
  · have e : (n - k).toNat = (n - (k + 1)).toNat + 1 := by omega
    have h1 := oneF_u8 h6
    have hone : 0 ≤ (oneF (b, bad)).1 ∧ (oneF (b, bad)).1 ≤ 1000 := by omega
    have ht := (takeF_u8 h1.2.2 (oneF (b, bad)).1).2
    have hap : (N.length + [txt (takeF (oneF (b, bad)).2 (oneF (b, bad)).1).1].length) * L9.bytes ≤ 140737488355328 := by show (N.length + 1) * 16 ≤ _; omega
    repeat' first | with_reducible refine Gives.lneed (b := true) rfl ?_ | with_reducible refine Gives.lnd hone ?_ | with_reducible refine Gives.lnd hap ?_ | (with_reducible refine Gives.lnd ?_ ?_; focus omega)
    refine Gives.next (σ' := q54a.st (((), (), (), n, k + 1, ()), (((), (), ()), ((), (), ()), ((takeF (oneF (b, bad)).2 (oneF (b, bad)).1).2.1, (takeF (oneF (b, bad)).2 (oneF (b, bad)).1).2.2, ()), L, N ++ [txt (takeF (oneF (b, bad)).2 (oneF (b, bad)).1).1], ()))) (by kernel_rfl) ((ih (((), (), (), n, k + 1, ()), (((), (), ()), ((), (), ()), ((takeF (oneF (b, bad)).2 (oneF (b, bad)).1).2.1, (takeF (oneF (b, bad)).2 (oneF (b, bad)).1).2.2, ()), L, N ++ [txt (takeF (oneF (b, bad)).2 (oneF (b, bad)).1).1], ())) (by simp only; omega)).trans ?_)
    refine .nd ⟨h2, by omega, by omega, by rw [List.length_append]; simp; omega, ht⟩ ?_
    rw [e, namesF, List.append_assoc]
    exact .refl _
  · rw [show (n - k).toNat = 0 by omega]
    simp only [namesF, List.append_nil]
    exact .refl _
set_option maxHeartbeats 2000000 in
theorem lp54b_ok : SumOk 0 C54 nr54 lp54 (fn54.at 2) (sumP q54b R54b) := by
  refine .pat q54b R54b (fun v => (v.1.2.2.2.1 - v.1.2.2.2.2.1).toNat) ?_
  rintro ⟨⟨⟨⟩, ⟨⟩, ⟨⟩, (n : Int), (k : Int), ⟨⟩⟩, ⟨⟨⟩, ⟨⟩, ⟨⟩⟩, ⟨⟨⟩, ⟨⟩, ⟨⟩⟩, ⟨(b : List Int), (bad : Bool), ⟨⟩⟩, (L : List (Int × Int)), (N : List ByteArray), ⟨⟩⟩ ih
  refine Gives.run (t' := .ite (decide (k < n)) (.need true (.need (inR (0 : Int) (List.length ((takeF (b, bad) (3 : Int))).1)) (.need (inR (1 : Int) (List.length ((takeF (b, bad) (3 : Int))).1)) (.need true (.need (inR (2 : Int) (List.length ((takeF (b, bad) (3 : Int))).1)) (.need true (.need (decide ((((List.length L) + (List.length [((IntKind.wrap IntKind.i64 (List.getD ((takeF (b, bad) (3 : Int))).1 0 (0 : Int))), (IntKind.wrap IntKind.i64 (((BitVec.toNat (HOr.hOr (BitVec.ofInt (IntKind.bits IntKind.i64) (IntKind.wrap IntKind.i64 ((IntKind.wrap IntKind.i64 (List.getD ((takeF (b, bad) (3 : Int))).1 1 (0 : Int))) * ((2 : Int) ^ (Min.min 8 (IntKind.bits IntKind.i64)) : Int) : Int))) (BitVec.ofInt (IntKind.bits IntKind.i64) (IntKind.wrap IntKind.i64 (List.getD ((takeF (b, bad) (3 : Int))).1 2 (0 : Int)))))) : Nat) : Int)))]) : Nat) * (Lay.bytes L24) : Nat) ≤ 140737488355328)) (.need (decide (((-(9223372036854775808 : Int) : Int) ≤ (k + (1 : Int) : Int)) ∧ ((k + (1 : Int) : Int) ≤ (9223372036854775807 : Int)))) (.ret (.nx, ⟨92, [(2, .e (.c (.np 2 0))), (4, .e (.c (.np 12 0))), (5, .e (.c (.np 5 0))), (46, rI n), (47, rI (k + (1 : Int) : Int))], [(2, .cells 28 [.nil, .nil]), (5, .cells 28 [.row 69, .row 1000005001]), (12, .cells 217 [.d (.sl tU (((takeF (b, bad) (3 : Int))).2).1), .d (.v (.bool (((takeF (b, bad) (3 : Int))).2).2))]), (69, .row tInst 24 (L ++ [((IntKind.wrap IntKind.i64 (List.getD ((takeF (b, bad) (3 : Int))).1 0 (0 : Int))), (IntKind.wrap IntKind.i64 (((BitVec.toNat (HOr.hOr (BitVec.ofInt (IntKind.bits IntKind.i64) (IntKind.wrap IntKind.i64 ((IntKind.wrap IntKind.i64 (List.getD ((takeF (b, bad) (3 : Int))).1 1 (0 : Int))) * ((2 : Int) ^ (Min.min 8 (IntKind.bits IntKind.i64)) : Int) : Int))) (BitVec.ofInt (IntKind.bits IntKind.i64) (IntKind.wrap IntKind.i64 (List.getD ((takeF (b, bad) (3 : Int))).1 2 (0 : Int)))))) : Nat) : Int)))])), (1000005001, .row Ty.str 9 N)]⟩)))))))))) (.ret (.ex 2, ⟨92, [(2, .e (.c (.np 2 0))), (4, .e (.c (.np 12 0))), (5, .e (.c (.np 5 0)))], [(2, .cells 28 [.nil, .nil]), (5, .cells 28 [.row 1000005000, .row 1000005001]), (12, .cells 217 [.d (.sl tU b), .d (.v (.bool bad))]), (1000005000, .row tInst 24 L), (1000005001, .row Ty.str 9 N)]⟩))) (by kernel_rfl) ?_
  refine .rnd fun ⟨h2, h3, h4, h5, h6⟩ => ?_
  refine .lif (fun hk => ?_) (fun hk => ?_)
  · have e : (n - k).toNat = (n - (k + 1)).toNat + 1 := by omega
    have hl := takeF_len (b, bad) (show (0 : Int) ≤ 3 by omega)
    have ht := (takeF_u8 h6 3).2
    have hap : (L.length + [instF (takeF (b, bad) 3).1].length) * L24.bytes ≤ 140737488355328 := by show (L.length + 1) * 16 ≤ _; omega
    refine .lneed rfl (.lneed (inR_of (by omega) (by omega)) (.lneed (inR_of (by omega) (by omega)) (.lneed rfl (.lneed (inR_of (by omega) (by omega)) (.lneed rfl (.lnd hap (.lnd (by omega) ?_)))))))
    refine Gives.next (σ' := q54b.st (((), (), (), n, k + 1, ()), (((), (), ()), ((), (), ()), ((takeF (b, bad) 3).2.1, (takeF (b, bad) 3).2.2, ()), L ++ [instF (takeF (b, bad) 3).1], N, ()))) (by kernel_rfl) ((ih (((), (), (), n, k + 1, ()), (((), (), ()), ((), (), ()), ((takeF (b, bad) 3).2.1, (takeF (b, bad) 3).2.2, ()), L ++ [instF (takeF (b, bad) 3).1], N, ())) (by simp only; omega)).trans ?_)
    refine .nd ⟨h2, by omega, by omega, by rw [List.length_append]; simp; omega, ht⟩ ?_
    rw [e, instsF, List.append_assoc]
    exact .refl _
  · rw [show (n - k).toNat = 0 by omega]
    simp only [instsF, List.append_nil]
    exact .refl _
theorem lp54_ok : LpsOk 0 C54 nr54 lp54 fn54.loops := by
  refine .all (by kernel_rfl) ?_
  simp only [lp54, List.forall_mem_cons, List.not_mem_nil, false_imp_iff, implies_true, and_true]
  exact ⟨lp54a_ok, lp54b_ok⟩
end Go.Proofs.YtjebfbkigkjboaaGreatDoor.Sy

/- Contracts: prog.Read. -/
set_option maxRecDepth 100000
namespace Go.Proofs.YtjebfbkigkjboaaGreatDoor.Sy
open Go.RowKit Kit Go.Proofs
/-- the program of bytes -/
def readF (b : List Int) : Prog × Rdr :=
  let c := oneF (oneF (oneF (b, false)).2).2
  let N := namesF c.1.toNat c.2
  let d := oneF N.2
  let L := instsF d.1.toNat d.2
  ((L.1, N.1), L.2)
def readBad (b : List Int) : Bool := (oneF (oneF (b, false)).2).2.2 || (oneF (b, false)).1 != 88 || (oneF (oneF (b, false)).2).1 != 82
def readE (b : List Int) : Int := if readBad b then 4 else if (readF b).2.2 || decide (0 < (readF b).2.1.length) then 4 else pMay (readF b).1
def readP (b : List Int) : Prog := if readE b = 0 then (readF b).1 else ([], [])
def eP (p : Prog) : EV := .agg ((split tProg p).map .d)
def pReadCtr : Ctr := ctr (one (aVal tB)) fun a => .need (decide (u8s a.1 = true)) (.ret (.tup [eP (readP a.1), eI (readE a.1)], []))
theorem namesF_ok : ∀ (n : Nat) (r : Rdr), rOk r = true → rOk (namesF n r).2 = true
  | 0, _, h => h
  | n + 1, r, h => namesF_ok n _ (takeF_u8 (oneF_u8 h).2.2 _).2
theorem instsF_ok : ∀ (n : Nat) (r : Rdr), rOk r = true → rOk (instsF n r).2 = true
  | 0, _, h => h
  | n + 1, r, h => instsF_ok n _ (takeF_u8 h _).2
set_option maxHeartbeats 4000000 in
theorem pRead_ok : CtrOk Tryz.prog 56 pReadCtr := by
  refine CtrOk.lessC (F := fun a => .need (decide (u8s a.1 = true)) (.ite (readE a.1 != 0) (.ret (.tup [.agg [.nil, .nil], eI (readE a.1)], [])) (.ret (.tup [eP (readF a.1).1, eI 0], [])))) ?_ ?_
  · refine .mk C54_ok mixed (q := fn54) (.of Tryz.func56 (by kernel_rfl)) lp54_ok (by decide) ?_
    rintro ⟨(b : List Int), ⟨⟩⟩ hb
    show Gives _ (.need _ (.ite (readE b != 0) (.ret (SV.tup [.agg [.nil, .nil], eI (readE b)], (⟨0, [], []⟩ : St))) (.ret (SV.tup [eP (readF b).1, eI 0], (⟨0, [], []⟩ : St)))))
    refine .rnd fun h => ?_
    have h : u8s b = true := h
    refine Gives.seq (by kernel_rfl) ?_
    refine Gives.run (t' := .ret (.nx, ⟨92, [(0, rL tU b), (2, .e (.c (.np 2 0)))], [(2, .cells 28 [.nil, .nil])]⟩)) (by kernel_rfl) ?_
    refine Gives.goto rfl (Gives.seq (by kernel_rfl) ?_)
    refine Gives.run (t' := .ret (.nx, ⟨92, [(2, .e (.c (.np 2 0))), (4, .e (.c (.np 12 0)))], [(2, .cells 28 [.nil, .nil]), (12, .cells 217 [.d (.sl tU b), .kb false])]⟩)) (by kernel_rfl) ?_
    refine Gives.goto rfl (Gives.seq (by kernel_rfl) ?_)
    refine Gives.run (t' := .ret (.nx, ⟨92, [(2, .e (.c (.np 2 0))), (4, .e (.c (.np 12 0))), (5, .e (.c (.np 5 0)))], [(2, .cells 28 [.nil, .nil]), (5, .cells 28 [.nil, .nil]), (12, .cells 217 [.d (.sl tU b), .kb false])]⟩)) (by kernel_rfl) ?_
    refine Gives.goto rfl (Gives.seq (by kernel_rfl) ?_)
    refine Gives.run (t' := .ret (.nx, ⟨92, [(2, .e (.c (.np 2 0))), (4, .e (.c (.np 12 0))), (5, .e (.c (.np 5 0))), (6, rI ((oneF (b, false))).1), (7, rI ((oneF ((oneF (b, false))).2)).1)], [(2, .cells 28 [.nil, .nil]), (5, .cells 28 [.nil, .nil]), (12, .cells 217 [.d (.sl tU (((oneF ((oneF (b, false))).2)).2).1), .d (.v (.bool (((oneF ((oneF (b, false))).2)).2).2))])]⟩)) (by kernel_rfl) ?_
    have g1 : rOk (b, false) = true := h
    have g2 := oneF_u8 g1
    have g3 := oneF_u8 g2.2.2
    have hb1 : readBad b = ((oneF (oneF (b, false)).2).2.2 || (oneF (b, false)).1 != 88 || (oneF (oneF (b, false)).2).1 != 82) := rfl
    have hb2 : readF b = ((((instsF (oneF (namesF (oneF (oneF (oneF (b, false)).2).2).1.toNat (oneF (oneF (oneF (b, false)).2).2).2).2).1.toNat (oneF (namesF (oneF (oneF (oneF (b, false)).2).2).1.toNat (oneF (oneF (oneF (b, false)).2).2).2).2).2)).1, (namesF (oneF (oneF (oneF (b, false)).2).2).1.toNat (oneF (oneF (oneF (b, false)).2).2).2).1), (instsF (oneF (namesF (oneF (oneF (oneF (b, false)).2).2).1.toNat (oneF (oneF (oneF (b, false)).2).2).2).2).1.toNat (oneF (namesF (oneF (oneF (oneF (b, false)).2).2).1.toNat (oneF (oneF (oneF (b, false)).2).2).2).2).2).2) := rfl
    unfold readE
    rw [hb2, hb1]
    clear hb1 hb2
    generalize (oneF (b, false)).1 = x at *
    generalize (oneF (oneF (b, false)).2).1 = y at *
    generalize (oneF (oneF (b, false)).2).2 = r2 at *
    obtain ⟨b2, bad2⟩ := r2
    refine Gives.goto (σ' := ⟨92, [(2, .e (.c (.np 2 0))), (4, .e (.c (.np 12 0))), (5, .e (.c (.np 5 0))), (6, rI x), (7, rI y)], [(2, .cells 28 [.nil, .nil]), (5, .cells 28 [.nil, .nil]), (12, .cells 217 [.d (.sl tU b2), .d (.v (.bool bad2))])]⟩) rfl (Gives.seq (by kernel_rfl) ?_)
    refine Gives.run (t' := .ite bad2 (.ret (.rt, ⟨92, [(2, .e (.c (.np 2 0))), (3, rI (4 : Int))], [(2, .cells 28 [.nil, .nil])]⟩)) (.ite (x != (88 : Int)) (.ret (.rt, ⟨92, [(2, .e (.c (.np 2 0))), (3, rI (4 : Int))], [(2, .cells 28 [.nil, .nil])]⟩)) (.ite (y != (82 : Int)) (.ret (.rt, ⟨92, [(2, .e (.c (.np 2 0))), (3, rI (4 : Int))], [(2, .cells 28 [.nil, .nil])]⟩)) (.ret (.nx, ⟨92, [(2, .e (.c (.np 2 0))), (4, .e (.c (.np 12 0))), (5, .e (.c (.np 5 0))), (28, .e (.c (.kb false)))], [(2, .cells 28 [.nil, .nil]), (5, .cells 28 [.nil, .nil]), (12, .cells 217 [.d (.sl tU b2), .d (.v (.bool bad2))])]⟩))))) (by kernel_rfl) ?_
    have hbad : ∀ {e : Bool} {E : Int} {X : Tr (SV × St)}, e = true → E = 4 → Gives ((Tr.ret (Ex.rt, (⟨92, [(2, .e (.c (.np 2 0))), (3, rI (4 : Int))], [(2, .cells 28 [.nil, .nil])]⟩ : St))).bind (fin C54 fn54.rs)) (.ite (E != 0) (.ret (SV.tup [.agg [.nil, .nil], eI E], (⟨0, [], []⟩ : St))) X) := fun he hE => by
      subst hE
      exact Gives.of_eq (t' := .need true (.ret (SV.tup [.agg [.nil, .nil], eI 4], (⟨0, [], []⟩ : St)))) (by kernel_rfl) (.need rfl (.rtt rfl (.refl _)))
    refine .lite (fun hx => ?_) (fun hx => ?_)
    · exact hbad (e := true) rfl (if_pos (by rw [show bad2 = true from hx]; rfl))
    have hx : bad2 = false := hx
    refine .lite (fun hy => ?_) (fun hy => ?_)
    · exact hbad (e := true) rfl (if_pos (by rw [hx, hy]; rfl))
    refine .lite (fun hz => ?_) (fun hz => ?_)
    · exact hbad (e := true) rfl (if_pos (by rw [hx, hy, hz]; rfl))
    rw [if_neg (by rw [hx, hy, hz]; exact Bool.false_ne_true)]
    subst hx
    refine Gives.goto rfl (Gives.seq (by kernel_rfl) ?_)
    have g4 := oneF_u8 g3.2.2
    refine Gives.run (t' := .need (decide ((((oneF (b2, false))).1 ≤ (255 : Int)) ∧ (((0 : Int) ≤ (0 : Int)) ∧ (((0 : Int) ≤ ((oneF (b2, false))).1) ∧ (((((List.length ([] : List ByteArray)) : Nat) : Int) ≤ (0 : Int)) ∧ ((rOk ((oneF (b2, false))).2) = true)))))) (.ret (.nx, ⟨92, [(2, .e (.c (.np 2 0))), (4, .e (.c (.np 12 0))), (5, .e (.c (.np 5 0)))], [(2, .cells 28 [.nil, .nil]), (5, .cells 28 [.row 1000005000, .row 1000005001]), (12, .cells 217 [.d (.sl tU (((namesF (Int.toNat (((oneF (b2, false))).1 - (0 : Int) : Int)) ((oneF (b2, false))).2)).2).1), .d (.v (.bool (((namesF (Int.toNat (((oneF (b2, false))).1 - (0 : Int) : Int)) ((oneF (b2, false))).2)).2).2))]), (1000005000, .row tInst 24 ([] : List (Prod (Ty.El tI) (Ty.El tI)))), (1000005001, .row Ty.str 9 (([] : List ByteArray) ++ ((namesF (Int.toNat (((oneF (b2, false))).1 - (0 : Int) : Int)) ((oneF (b2, false))).2)).1))]⟩))) (by kernel_rfl) ?_
    refine .lnd ⟨by omega, by omega, by omega, by simp, g4.2.2⟩ ?_
    have gN : rOk (namesF (oneF (b2, false)).1.toNat (oneF (b2, false)).2).2 = true := namesF_ok _ _ g4.2.2
    rw [show (oneF (b2, false)).1 - 0 = (oneF (b2, false)).1 by omega]
    generalize namesF (oneF (b2, false)).1.toNat (oneF (b2, false)).2 = NN at *
    obtain ⟨N, r3⟩ := NN
    refine Gives.goto rfl (Gives.seq (by kernel_rfl) ?_)
    refine Gives.run (t' := .need (decide ((((oneF r3)).1 ≤ (255 : Int)) ∧ (((0 : Int) ≤ (0 : Int)) ∧ (((0 : Int) ≤ ((oneF r3)).1) ∧ (((((List.length ([] : List (Prod Int Int))) : Nat) : Int) ≤ (0 : Int)) ∧ ((rOk ((oneF r3)).2) = true)))))) (.ret (.nx, ⟨92, [(2, .e (.c (.np 2 0))), (4, .e (.c (.np 12 0))), (5, .e (.c (.np 5 0)))], [(2, .cells 28 [.nil, .nil]), (5, .cells 28 [.row 1000005000, .row 1000005001]), (12, .cells 217 [.d (.sl tU (((instsF (Int.toNat (((oneF r3)).1 - (0 : Int) : Int)) ((oneF r3)).2)).2).1), .d (.v (.bool (((instsF (Int.toNat (((oneF r3)).1 - (0 : Int) : Int)) ((oneF r3)).2)).2).2))]), (1000005000, .row tInst 24 (([] : List (Prod Int Int)) ++ ((instsF (Int.toNat (((oneF r3)).1 - (0 : Int) : Int)) ((oneF r3)).2)).1)), (1000005001, .row Ty.str 9 (([] : List ByteArray) ++ N))]⟩))) (by kernel_rfl) ?_
    have g5 := oneF_u8 (r := r3) gN
    refine .lnd ⟨by omega, by omega, by omega, by simp, g5.2.2⟩ ?_
    rw [show (oneF r3).1 - 0 = (oneF r3).1 by omega]
    generalize instsF (oneF r3).1.toNat (oneF r3).2 = LL at *
    obtain ⟨L, b4, bad4⟩ := LL
    refine Gives.goto (σ' := mk54 [] (b4, bad4) L N) rfl (Gives.seq (by kernel_rfl) ?_)
    refine Gives.run (t' := .ite bad4 (.ret (.rt, ⟨92, [(2, .e (.c (.np 2 0))), (3, rI (4 : Int))], [(2, .cells 28 [.nil, .nil])]⟩)) (.ite (decide ((0 : Int) < (((List.length b4) : Nat) : Int))) (.ret (.rt, ⟨92, [(2, .e (.c (.np 2 0))), (3, rI (4 : Int))], [(2, .cells 28 [.nil, .nil])]⟩)) (.ret (.nx, ⟨92, [(2, .e (.c (.np 2 0))), (5, .e (.c (.np 5 0))), (83, .e (.c (.kb false)))], [(2, .cells 28 [.nil, .nil]), (5, .cells 28 [.row 1000005000, .row 1000005001]), (12, .cells 217 [.d (.sl tU b4), .d (.v (.bool bad4))]), (1000005000, .row tInst 24 L), (1000005001, .row Ty.str 9 N)]⟩)))) (by kernel_rfl) ?_
    refine .lite (fun hx => ?_) (fun hx => ?_)
    · exact hbad (e := true) rfl (if_pos (by rw [show bad4 = true from hx]; rfl))
    have hx : bad4 = false := hx
    refine .lif (fun hy => ?_) (fun hy => ?_)
    · exact hbad (e := true) rfl (if_pos (by rw [decide_eq_true (show 0 < b4.length by omega)]; simp))
    rw [if_neg (by rw [hx, decide_eq_false (show ¬ 0 < b4.length by omega)]; exact Bool.false_ne_true)]
    refine Gives.goto rfl (Gives.seq (by kernel_rfl) ?_)
    refine Gives.run (t' := .need true (.ite ((pMay (L, N)) != (0 : Int)) (.ret (.rt, ⟨92, [(2, .e (.c (.np 2 0))), (3, rI (pMay (L, N)))], [(2, .cells 28 [.nil, .nil])]⟩)) (.ret (.nx, ⟨92, [(2, .e (.c (.np 2 0))), (5, .e (.c (.np 5 0))), (9, rI (pMay (L, N))), (88, .e (.c (.kb false)))], [(2, .cells 28 [.nil, .nil]), (5, .cells 28 [.row 1000005000, .row 1000005001]), (12, .cells 217 [.d (.sl tU b4), .d (.v (.bool bad4))]), (1000005000, .row tInst 24 L), (1000005001, .row Ty.str 9 N)]⟩)))) (by kernel_rfl) ?_
    refine .lneed rfl (.lite (fun hz => ?_) (fun hz => ?_))
    · exact Gives.of_eq (t' := .need true (.ret (SV.tup [.agg [.nil, .nil], eI (pMay (L, N))], (⟨0, [], []⟩ : St)))) (by kernel_rfl) (.need rfl (.rtt hz (.refl _)))
    have hz : (pMay (L, N) != 0) = false := hz
    refine Gives.goto rfl ?_
    exact Gives.of_eq (t' := .need true (.need true (.ret (SV.tup [eP (L, N), eI 0], (⟨0, [], []⟩ : St))))) (by kernel_rfl) (.need rfl (.need rfl (.rff hz (.refl _))))
  · rintro ⟨(b : List Int), ⟨⟩⟩
    show LessT _ (.need _ (.ret (SV.tup [eP (readP b), eI (readE b)], (⟨0, [], []⟩ : St))))
    refine .rneed fun h => .need h (.ite (fun hz => ?_) (fun hz => ?_))
    · have hz : (readE b != 0) = true := hz
      rw [show readP b = ([], []) by unfold readP; rw [if_neg (by simpa using hz)]]
      refine .ret (Less.tup1 fun M β v hv => ?_)
      obtain ⟨vs, e, hs⟩ := hv
      refine ⟨vs, e, ?_⟩
      generalize vs.toList = us at hs ⊢
      cases hs with
      | cons h1 h2 h3 =>
        cases h3 with
        | cons h4 h5 h6 =>
          cases h6
          exact .cons (EVR.nilL (β := β) (t := tInst) h1) h2 (.cons (EVR.nilL (β := β) (t := .str) h4) h5 .nil)
    · have hz : readE b = 0 := by simpa using hz
      rw [show readP b = (readF b).1 by unfold readP; rw [if_pos hz], hz]
      exact .ret (.refl _)
end Go.Proofs.YtjebfbkigkjboaaGreatDoor.Sy

/- Contracts: noughts; numbers in digits; cuts at a nought. -/
set_option maxRecDepth 100000
namespace Go.Proofs.YtjebfbkigkjboaaGreatDoor.Sy
open Go.RowKit Kit Go.Proofs
/-! ### bytes.Trim, of noughts -/
def nulS : ByteArray := ⟨#[0]⟩
def trimLCtr : Ctr := ctr (two (aVal tB) aU) fun a => slN (trimL a.2.1 a.1)
def trimRCtr : Ctr := ctr (two (aVal tB) aU) fun a => ans (rL tU (trimR a.2.1 a.1))
noncomputable def fn67 := mkFn Tryz.f92
def C67 : Cx := ⟨T, [], [(160, trimLCtr), (161, trimRCtr)], [], [FA]⟩
theorem C67_ok : CxOk Tryz.prog C67 := ⟨T_ok, .nil _, .cons trimL_ok (.cons trimR_ok (.nil _)), .nil _⟩
def trimCtr : Ctr := ctr (two (aVal tB) aS) fun a => .need (decide (a.2.1 = nulS)) (ans (rL tU (trimL 0 (trimR 0 a.1))))
theorem trim_ok : CtrOk Tryz.prog 92 trimCtr := by
  refine CtrOk.lessC (F := fun a => .need (decide (a.2.1 = nulS)) (.ite a.1.isEmpty (.ret (.e (.c .nil), [])) (slN (trimL 0 (trimR 0 a.1))))) ?_ ?_
  · refine .mk C67_ok mixed (q := fn67) (.of Tryz.func92 (by kernel_rfl)) (N := 0) (nr := []) .none (by decide) ?_
    rintro ⟨(l : List Int), (c : ByteArray), ⟨⟩⟩ hb
    refine .rneed fun h => ?_
    have h : c = nulS := of_decide_eq_true h
    subst h
    refine Gives.of_eq (t' := .ite ((((List.length l) : Nat) : Int) == (0 : Int)) (.ret (.e (.c (.nil)), ⟨0, [], []⟩)) (.ite false (.ret (rL tU l, ⟨0, [], []⟩)) (.need true (.need true (.need true (.need true (.need true (.ite (List.isEmpty (trimL (bt nulS (0 : Int)) (trimR (bt nulS (0 : Int)) l))) (.ret (.e (.c (.nil)), ⟨0, [], []⟩)) (.ret (rL tU (trimL (bt nulS (0 : Int)) (trimR (bt nulS (0 : Int)) l)), ⟨0, [], []⟩)))))))))) (by kernel_rfl) ?_
    show Gives _ (.ite l.isEmpty (.ret (.e (.c .nil), (⟨0, [], []⟩ : St))) ((slN (trimL 0 (trimR 0 l))).bind fun r => .ret (r.1, ⟨0, [], r.2⟩)))
    cases l with
    | nil => exact .tt rfl (.rtt rfl (.refl _))
    | cons x r =>
      refine .ff (by simp; omega) (.rff rfl (.ff rfl (.need rfl (.need rfl (.need rfl (.need rfl (.need rfl ?_)))))))
      rw [show bt nulS 0 = 0 by decide +kernel]
      exact .ites (fun _ => .refl _) (fun _ => .refl _)
  · rintro ⟨(l : List Int), (c : ByteArray), ⟨⟩⟩
    show LessT _ (.need _ (.ret (rL tU (trimL 0 (trimR 0 l)), (⟨0, [], []⟩ : St))))
    refine .rneed fun h => .need h (.ite (fun hz => ?_) (fun _ => .ite (fun hz => ?_) (fun hz => ?_)))
    · have : l = [] := List.isEmpty_iff.1 hz
      subst this
      exact .ret ⟨fun M β v hv => EVR.nilL (β := β) (t := tU) hv, rfl, rfl, fun _ _ h => h⟩
    · have : trimL 0 (trimR 0 l) = [] := List.isEmpty_iff.1 hz
      rw [this]
      exact .ret ⟨fun M β v hv => EVR.nilL (β := β) (t := tU) hv, rfl, rfl, fun _ _ h => h⟩
    · exact .ret (.refl _)
theorem trimL_nil {l : List Int} : trimL 0 l = [] ↔ l.all (· == 0) = true := by
  induction l with
  | nil => simp [trimL]
  | cons x r ih =>
    rw [trimL]
    split
    · rename_i h; rw [ih, List.all_cons, h, Bool.true_and]
    · rename_i h; simp [h]
theorem all_rev {l : List Int} : (l.reverse).all (· == (0 : Int)) = l.all (· == 0) := by simp
theorem trim_zero (l : List Int) : trimL 0 (trimR 0 l) = [] ↔ l.all (· == 0) = true := by
  rw [trimL_nil]
  unfold trimR
  rw [all_rev]
  have key : ∀ m : List Int, (trimL 0 m).all (· == 0) = m.all (· == 0) := fun m => by
    induction m with
    | nil => rfl
    | cons x r ih =>
      rw [trimL]
      split
      · rename_i h; rw [ih, List.all_cons, h, Bool.true_and]
      · rfl
  rw [key, all_rev]
noncomputable def fn52 := mkFn Tryz.f54
def C52 : Cx := ⟨T, [], [(92, trimCtr)], [], []⟩
theorem C52_ok : CxOk Tryz.prog C52 := ⟨T_ok, .nil _, .cons trim_ok (.nil _), .nil _⟩
def zeroF (l : List Int) : Bool := l.all (· == 0)
def zeroCtr : Ctr := ctr (one (aVal tB)) fun a => ans (rB (zeroF a.1))
theorem zero_ok : CtrOk Tryz.prog 54 zeroCtr := by
  refine .mk C52_ok mixed (q := fn52) (.of Tryz.func54 (by kernel_rfl)) (N := 0) (nr := []) .none (by decide) ?_
  rintro ⟨(l : List Int), ⟨⟩⟩ hb
  refine Gives.of_eq (t' := .need true (.ret (rB ((((List.length (trimL (0 : Int) (trimR (0 : Int) l))) : Nat) : Int) == (0 : Int)), ⟨0, [], []⟩))) (by kernel_rfl) ?_
  refine .need rfl ?_
  have e : ((((trimL 0 (trimR 0 l)).length : Nat) : Int) == (0 : Int)) = zeroF l := by
    rw [Bool.eq_iff_iff, beq_iff_eq]
    unfold zeroF
    rw [← trim_zero, ← List.length_eq_zero_iff]; omega
  rw [e]; exact .refl _

/-! ### tar.number -/
def nextN (n c : Int) : Int := IntKind.wrap .i64 ((BitVec.toNat (BitVec.ofInt 64 (IntKind.wrap .i64 (n * 2 ^ 3)) ||| BitVec.ofInt 64 (IntKind.wrap .i64 (IntKind.wrap .u8 (c - 48)))) : Nat) : Int)
def numL : Int → List Int → Int × Bool
  | n, [] => (n, true)
  | n, c :: r => if c < 48 ∨ 55 < c ∨ 65536 < n then (0, false) else numL (nextN n c) r
noncomputable def fn68 := mkFn Tryz.f93
def q68 : Frm := ⟨31, [(4, .dat tI), (7, .dat tB), (8, .dat tI), (9, .dat tI)], []⟩
def R68 : q68.V → Tr (Ex × St) := fun (((n : Int), (l : List Int), (m : Int), (k : Int), _), _) =>
  .need (decide (m = l.length ∧ m ≤ 9223372036854775807 ∧ 0 ≤ k ∧ k ≤ m)) (.ite (numL n (l.drop k.toNat)).2 (.ret (.ex 0, ⟨31, [(4, rI (numL n (l.drop k.toNat)).1)], []⟩)) (.ret (.rt, ⟨31, [(2, rI 0), (3, .e (.c (.kb false)))], []⟩)))
def lp68 : LP := [(0, sumP q68 R68)]
theorem lp68_ok : LpsOk 0 C0 [] lp68 fn68.loops := by
  refine .all (by kernel_rfl) ?_
  simp only [lp68, List.forall_mem_cons, List.not_mem_nil, false_imp_iff, implies_true, and_true]
  refine .pat q68 R68 (fun v => (v.1.2.2.1 - v.1.2.2.2.1).toNat) ?_
  rintro ⟨⟨(n : Int), (l : List Int), (m : Int), (k : Int), ⟨⟩⟩, ⟨⟩⟩ ih
  refine Gives.run (t' := .ite (decide (k < m)) (.need (inR k (List.length l)) (.ite (decide ((List.getD l (Int.toNat k) (0 : Int)) < (48 : Int))) (.ret (.rt, ⟨31, [(2, rI (0 : Int)), (3, .e (.c (.kb false)))], []⟩)) (.ite (decide ((55 : Int) < (List.getD l (Int.toNat k) (0 : Int)))) (.ret (.rt, ⟨31, [(2, rI (0 : Int)), (3, .e (.c (.kb false)))], []⟩)) (.ite (decide ((65536 : Int) < n)) (.ret (.rt, ⟨31, [(2, rI (0 : Int)), (3, .e (.c (.kb false)))], []⟩)) (.need true (.need (decide (((-(9223372036854775808 : Int) : Int) ≤ (k + (1 : Int) : Int)) ∧ ((k + (1 : Int) : Int) ≤ (9223372036854775807 : Int)))) (.ret (.nx, ⟨31, [(4, rI (IntKind.wrap IntKind.i64 (((BitVec.toNat (HOr.hOr (BitVec.ofInt (IntKind.bits IntKind.i64) (IntKind.wrap IntKind.i64 (n * ((2 : Int) ^ (Min.min 3 (IntKind.bits IntKind.i64)) : Int) : Int))) (BitVec.ofInt (IntKind.bits IntKind.i64) (IntKind.wrap IntKind.i64 (IntKind.wrap IntKind.u8 ((List.getD l (Int.toNat k) (0 : Int)) - (48 : Int) : Int)))))) : Nat) : Int))), (7, rL tU l), (8, rI m), (9, rI (k + (1 : Int) : Int))], []⟩)))))))) (.ret (.ex 0, ⟨31, [(4, rI n)], []⟩))) (by kernel_rfl) ?_
  refine .rnd fun ⟨h1, h2, h3, h4⟩ => ?_
  refine .lif (fun hk => ?_) (fun hk => ?_)
  · have e : (k + 1).toNat = k.toNat + 1 := by omega
    rw [drop_at l k.toNat 0 (by omega)]
    refine .lneed (inR_of h3 (by omega)) ?_
    generalize l.getD k.toNat 0 = x
    have hbad : (x < 48 ∨ 55 < x ∨ 65536 < n) → (numL n (x :: l.drop (k.toNat + 1))).2 = false := fun h => by rw [numL, if_pos h]
    refine .lif (fun hx => ?_) (fun hx => ?_)
    · exact .rff (hbad (.inl hx)) (.refl _)
    refine .lif (fun hy => ?_) (fun hy => ?_)
    · exact .rff (hbad (.inr (.inl hy))) (.refl _)
    refine .lif (fun hz => ?_) (fun hz => ?_)
    · exact .rff (hbad (.inr (.inr hz))) (.refl _)
    have hg : numL n (x :: l.drop (k.toNat + 1)) = numL (nextN n x) (l.drop (k.toNat + 1)) := by
      rw [numL, if_neg (by rw [not_or, not_or]; exact ⟨hx, hy, hz⟩)]
    rw [hg]
    refine .lneed rfl (.lnd (by omega) ?_)
    refine Gives.next (σ' := q68.st ((nextN n x, l, m, k + 1, ()), ())) (by kernel_rfl) ((ih ((nextN n x, l, m, k + 1, ()), ()) (by simp only; omega)).trans ?_)
    refine .nd ⟨h1, h2, by omega, by omega⟩ ?_
    rw [e]; exact .refl _
  · rw [List.drop_eq_nil_of_le (by omega)]
    exact .rtt rfl (.refl _)
theorem numL_bad : ∀ {l : List Int} {n : Int}, (numL n l).2 = false → (numL n l).1 = 0
  | [], _, h => by cases h
  | c :: r, n, h => by
    rw [numL] at h ⊢
    split at h
    · rename_i hc; rw [if_pos hc]
    · rename_i hc; rw [if_neg hc]; exact numL_bad h
def tnumCtr : Ctr := ctr (one (aVal tB)) fun a => .ret (.tup [eI (numL 0 a.1).1, eB (numL 0 a.1).2], [])
theorem tnum_ok : CtrOk Tryz.prog 93 tnumCtr := by
  refine .mk C0_ok mixed (q := fn68) (.of Tryz.func93 (by kernel_rfl)) lp68_ok (by decide) ?_
  rintro ⟨(l : List Int), ⟨⟩⟩ hb
  have hl : l.length ≤ 9223372036854775807 := hb.1.1
  refine Gives.of_eq (t' := .need (decide (((((List.length l) : Nat) : Int) = (((List.length l) : Nat) : Int)) ∧ (((((List.length l) : Nat) : Int) ≤ (9223372036854775807 : Int)) ∧ (((0 : Int) ≤ (0 : Int)) ∧ ((0 : Int) ≤ (((List.length l) : Nat) : Int)))))) (.ite ((numL (0 : Int) (List.drop 0 l))).2 (.ret (.tup [.c (.d (.v (.int .i64 ((numL (0 : Int) (List.drop 0 l))).1))), .c (.d (.v (.bool true)))], ⟨0, [], []⟩)) (.ret (.tup [.c (.d (.v (.int .i64 (0 : Int)))), .c (.d (.v (.bool false)))], ⟨0, [], []⟩)))) (by kernel_rfl) ?_
  show Gives _ (.ret (SV.tup [eI (numL 0 l).1, eB (numL 0 l).2], (⟨0, [], []⟩ : St)))
  rw [List.drop_zero]
  refine .nd (by omega) (.ite (fun h => ?_) (fun h => ?_))
  · rw [h]; exact .refl _
  · rw [h, numL_bad h]; exact .refl _
theorem wrap_i64n {n : Int} (h : 0 ≤ n ∧ n ≤ 9223372036854775807) : IntKind.wrap .i64 n = n := wrap_i64 (by omega)
theorem or_sum {n d : Int} (hn : 0 ≤ n ∧ n ≤ 1000000) {k : Nat} (hk : k ≤ 8) (hd : 0 ≤ d ∧ d < 2 ^ k) : IntKind.wrap .i64 ((BitVec.toNat (BitVec.ofInt 64 (IntKind.wrap .i64 (n * 2 ^ k)) ||| BitVec.ofInt 64 (IntKind.wrap .i64 d)) : Nat) : Int) = n * 2 ^ k + d := by
  obtain ⟨a, rfl⟩ := Int.eq_ofNat_of_zero_le hn.1
  obtain ⟨b, rfl⟩ := Int.eq_ofNat_of_zero_le hd.1
  have hp : (2 : Nat) ^ k ≤ 256 := by
    have := Nat.pow_le_pow_right (show 0 < 2 by omega) hk
    simpa using this
  have ha : a ≤ 1000000 := by omega
  have hb : b < 2 ^ k := by exact_mod_cast hd.2
  have hab : a * 2 ^ k ≤ 256000000 := by
    calc a * 2 ^ k ≤ 1000000 * 256 := Nat.mul_le_mul ha hp
      _ = 256000000 := rfl
  rw [show ((a : Int) * 2 ^ k) = ((a * 2 ^ k : Nat) : Int) by push_cast; rfl]
  rw [wrap_i64n (n := ((a * 2 ^ k : Nat) : Int)) (by omega), wrap_i64n (n := (b : Int)) (by omega)]
  rw [BitVec.toNat_or, BitVec.toNat_ofInt, BitVec.toNat_ofInt]
  have e1 : (((a * 2 ^ k : Nat) : Int) % ((2 ^ 64 : Nat) : Int)).toNat = a * 2 ^ k := by omega
  have e2 : (((b : Nat) : Int) % ((2 ^ 64 : Nat) : Int)).toNat = b := by omega
  rw [e1, e2]
  have e3 : a * 2 ^ k ||| b = a * 2 ^ k + b := by
    rw [← Nat.shiftLeft_eq, Nat.shiftLeft_add_eq_or_of_lt hb]
  rw [e3, wrap_i64n (by omega)]
  push_cast; rfl
theorem nextN_eq {n c : Int} (hn : 0 ≤ n ∧ n ≤ 65536) (hc : 48 ≤ c ∧ c ≤ 55) : nextN n c = n * 8 + (c - 48) := by
  have hw : IntKind.wrap .u8 (c - 48) = c - 48 := by
    have e : IntKind.wrap .u8 (c - 48) = (c - 48) % 256 := by simp [IntKind.wrap, IntKind.bits, IntKind.signed]
    omega
  unfold nextN
  rw [hw]
  exact or_sum (k := 3) (by omega) (by omega) (by omega)
theorem numL_le : ∀ (l : List Int) (n : Int), 0 ≤ n ∧ n ≤ 524295 → (numL n l).2 = true → 0 ≤ (numL n l).1 ∧ (numL n l).1 ≤ 524295
  | [], n, h, _ => h
  | c :: r, n, h, h2 => by
    rw [numL] at h2 ⊢
    split at h2
    · cases h2
    · rename_i hc
      rw [not_or, not_or] at hc
      rw [if_neg (by rw [not_or, not_or]; exact hc)]
      have e := nextN_eq (n := n) (c := c) (by omega) (by omega)
      exact numL_le r (nextN n c) (by omega) h2

/-! ### bytes.Cut, at a nought -/
noncomputable def fn88 := mkFn Tryz.f167
def idxBCtr : Ctr := ctr (two (aVal tB) aU) fun a => ans (rI (idxB a.1 a.2.1))
def C88 : Cx := ⟨T, [], [(241, idxBCtr)], [], []⟩
theorem C88_ok : CxOk Tryz.prog C88 := ⟨T_ok, .nil _, .cons idxB_ok (.nil _), .nil _⟩
def nulCtr : Ctr := ctr (two (aVal tB) (aVal tB)) fun a => .need (decide (a.2.1 = [0])) (ans (rI (idxB a.1 0)))
theorem bindex_ok : CtrOk Tryz.prog 167 nulCtr := by
  refine .mk C88_ok mixed (q := fn88) (.of Tryz.func167 (by kernel_rfl)) (N := 0) (nr := []) .none (by decide) ?_
  rintro ⟨(l : List Int), (c : List Int), ⟨⟩⟩ -
  show Gives _ (.need _ (.ret (rI (idxB l 0), (⟨0, [], []⟩ : St))))
  refine .rnd fun h => ?_
  have h : c = [0] := h
  subst h
  refine Gives.of_eq (t' := .ite false (.ret (rI (0 : Int), ⟨0, [], []⟩)) (.ite true (.need true (.ret (rI (idxB l (List.getD [(0 : Int)] 0 (0 : Int))), ⟨0, [], []⟩))) (.ite ((((List.length [(0 : Int)]) : Nat) : Int) == (((List.length l) : Nat) : Int)) (.fail) (.need (decide ((((List.length l) : Nat) : Int) < (((List.length [(0 : Int)]) : Nat) : Int))) (.ret (rI (-(1 : Int) : Int), ⟨0, [], []⟩)))))) (by kernel_rfl) ?_
  exact .ff rfl (.tt rfl (.need rfl (.refl _)))
noncomputable def fn69 := mkFn Tryz.f94
def C69 : Cx := ⟨T, [], [(167, nulCtr)], [], []⟩
theorem C69_ok : CxOk Tryz.prog C69 := ⟨T_ok, .nil _, .cons bindex_ok (.nil _), .nil _⟩
def cutN (l : List Int) : List Int := if 0 ≤ idxB l 0 then l.take (idxB l 0).toNat else l
def cutNCtr : Ctr := ctr (two (aVal tB) (aVal tB)) fun a => .need (decide (a.2.1 = [0] ∧ a.1.length ≤ 1000000)) (.ret (.tup [eL tU (cutN a.1), .c .any, .c .any], []))
theorem idxB_le (l : List Int) (c : Int) : -1 ≤ idxB l c ∧ idxB l c < l.length := by
  have := indexByte_le (Lib.bytesOf l) c.toNat.toUInt8
  rwa [show (Lib.bytesOf l).length = l.length by simp [Lib.bytesOf]] at this
theorem EVs.any23 {M : Snap} {β : Plc} {x y z : EV} {vs : List Value} (h : EVs M β [x, y, z] vs) : EVs M β [x, .c .any, .c .any] vs := by
  cases h with
  | cons h1 h2 =>
    cases h2 with
    | cons h3 h4 =>
      cases h4 with
      | cons h5 h6 => exact .cons h1 (.cons trivial (.cons trivial h6))
theorem bcut_ok : CtrOk Tryz.prog 94 cutNCtr := by
  refine CtrOk.lessC (F := fun a => .need (decide (a.2.1 = [0] ∧ a.1.length ≤ 1000000)) (.ite (decide (0 ≤ idxB a.1 0)) (.ret (.tup [eL tU (a.1.take (idxB a.1 0).toNat), eL tU (a.1.drop ((idxB a.1 0).toNat + 1)), eB true], [])) (.ret (.tup [eL tU a.1, .c .nil, eB false], [])))) ?_ ?_
  · refine .mk C69_ok mixed (q := fn69) (.of Tryz.func94 (by kernel_rfl)) (N := 0) (nr := []) .none (by decide) ?_
    rintro ⟨(l : List Int), (c : List Int), ⟨⟩⟩ -
    refine .rnd fun ⟨h, hl⟩ => ?_
    have h : c = [0] := h
    have hl : l.length ≤ 1000000 := hl
    subst h
    have hi := idxB_le l 0
    refine Gives.of_eq (t' := .need true (.ite (decide ((0 : Int) ≤ (idxB l (0 : Int)))) (.need (okB (0 : Int) (idxB l (0 : Int)) (List.length l)) (.need (decide (((-(9223372036854775808 : Int) : Int) ≤ ((idxB l (0 : Int)) + (((List.length [(0 : Int)]) : Nat) : Int) : Int)) ∧ (((idxB l (0 : Int)) + (((List.length [(0 : Int)]) : Nat) : Int) : Int) ≤ (9223372036854775807 : Int)))) (.need (okB ((idxB l (0 : Int)) + (((List.length [(0 : Int)]) : Nat) : Int) : Int) (((List.length l) : Nat) : Int) (List.length l)) (.ret (.tup [.c (.d (.sl tU (List.drop 0 (List.take (Int.toNat (idxB l (0 : Int))) l)))), .c (.d (.sl tU (List.drop (Int.toNat ((idxB l (0 : Int)) + (((List.length [(0 : Int)]) : Nat) : Int) : Int)) (List.take (List.length l) l)))), .c (.d (.v (.bool true)))], ⟨0, [], []⟩))))) (.ret (.tup [.c (.d (.sl tU l)), .c (.nil), .c (.d (.v (.bool false)))], ⟨0, [], []⟩)))) (by kernel_rfl) ?_
    refine .need rfl (.ites (fun hz => ?_) (fun _ => .refl _))
    have hz : 0 ≤ idxB l 0 := of_decide_eq_true hz
    refine .need (by simp [okB]; omega) (.nd (by simp; omega) (.need (by simp [okB]; omega) ?_))
    rw [List.drop_zero, List.take_length, show (idxB l 0 + (([(0 : Int)].length : Nat) : Int)).toNat = (idxB l 0).toNat + 1 by simp; omega]
    exact .refl _
  · rintro ⟨(l : List Int), (c : List Int), ⟨⟩⟩
    show LessT _ (.need _ (.ret (SV.tup [eL tU (cutN l), .c .any, .c .any], (⟨0, [], []⟩ : St))))
    refine .rneed fun h => .need h (.ite (fun hz => ?_) (fun hz => ?_))
    · have hz : 0 ≤ idxB l 0 := of_decide_eq_true hz
      rw [show cutN l = l.take (idxB l 0).toNat by unfold cutN; rw [if_pos hz]]
      exact .ret ⟨fun M β v hv => by obtain ⟨vs, e, h⟩ := hv; exact ⟨vs, e, h.any23⟩, rfl, rfl, fun _ _ h => h⟩
    · have hz : ¬ 0 ≤ idxB l 0 := of_decide_eq_false hz
      rw [show cutN l = l by unfold cutN; rw [if_neg hz]]
      exact .ret ⟨fun M β v hv => by obtain ⟨vs, e, h⟩ := hv; exact ⟨vs, e, h.any23⟩, rfl, rfl, fun _ _ h => h⟩
end Go.Proofs.YtjebfbkigkjboaaGreatDoor.Sy

/- Contracts: a file of an archive. -/
set_option maxRecDepth 100000
namespace Go.Proofs.YtjebfbkigkjboaaGreatDoor.Sy
open Go.RowKit Kit Go.Proofs
noncomputable def fn53 := mkFn Tryz.f55
def cloneCtr : Ctr := ctr (one (aVal tB)) fun a => .need (decide (a.1.length ≤ 140737488355328)) (ans (rL tU a.1))
def equalCtr : Ctr := ctr (two (aVal tB) (aVal tB)) fun a => .need (u8s a.1 && u8s a.2.1) (ans (rB (a.1 == a.2.1)))
noncomputable def C53 : Cx := ⟨T, FL, [(34, equalCtr), (50, octCtr), (51, sumCtr), (93, tnumCtr), (27, blocksCtr), (94, cutNCtr), (95, cloneCtr), (25, tMayCtr), (26, headCtr), (54, zeroCtr)], [], []⟩
theorem C53_ok : CxOk Tryz.prog C53 := ⟨T_ok, FL_ok, .cons equal_ok (.cons octal_ok (.cons sum_ok (.cons tnum_ok (.cons blocks_ok (.cons bcut_ok (.cons clone_ok (.cons tMay_ok (.cons head_ok (.cons zero_ok (.nil _)))))))))), .nil _⟩
abbrev eF (f : File) : EV := .agg ((split tFile f).map .d)
def sumOk (h : List Int) : Bool := ((h.take 156).drop 148) == (octal (sumF 0 h) 6 ++ [32])
def oneN (h : List Int) : Int × Bool := numL 0 ((h.take 135).drop 124)
def oneFl (h r : List Int) : File := (txt (cutN (h.take 100)), h.getD 156 0 == 53, r.take (oneN h).1.toNat)
/-- a head and what stands behind it: why it is no file's -/
def oneE (h r : List Int) : Int :=
  if sumOk h = false then 14
  else if (oneN h).2 = false ∨ (r.length : Int) < blocksF (oneN h).1 * 512 then 4
  else if tMay [oneFl h r] ≠ 0 ∨ ¬ headF (oneFl h r) = h ∨ zeroF ((r.take (blocksF (oneN h).1 * 512).toNat).drop (oneN h).1.toNat) = false then 4 else 0
def oneR (h r : List Int) : List Int := if oneE h r = 0 then r.drop (blocksF (oneN h).1 * 512).toNat else []
def oneF' (h r : List Int) : File := if oneE h r = 0 then oneFl h r else (ByteArray.empty, false, [])
def oneFCtr : Ctr := ctr (one (aVal tB)) fun a => .need (decide (u8s a.1 = true ∧ 512 ≤ a.1.length ∧ a.1.length ≤ 1000000000)) (.ret (.tup [eF (oneF' (a.1.take 512) (a.1.drop 512)), eL tU (oneR (a.1.take 512) (a.1.drop 512)), eI (oneE (a.1.take 512) (a.1.drop 512))], []))
theorem headA_u8 (f : File) : u8s (headA f) = true := by
  unfold headA
  refine u8s_cp (u8s_set (u8s_cp (u8s_cp (u8s_cp (u8s_cp (u8s_cp (u8s_cp0 (u8s_rep _) (u8s_strB _)) (octal_u8 _ _) _) (octal_u8 _ _) _) (octal_u8 _ _) _) (octal_u8 _ _) _) (octal_u8 _ _) _) _ ?_) (by decide +kernel : u8s ustar = true) _
  split <;> rfl
theorem headF_u8 (f : File) : u8s (headF f) = true := by
  unfold headF
  exact u8s_cp (headA_u8 f) (by rw [u8s_app, octal_u8]; rfl) _
set_option maxHeartbeats 4000000 in
theorem oneT_ok : CtrOk Tryz.prog 55 (ctr (one (aVal tB)) fun a => .need (decide (u8s a.1 = true ∧ 512 ≤ a.1.length ∧ a.1.length ≤ 1000000000)) (.ite (oneE (a.1.take 512) (a.1.drop 512) != 0) (.ret (.tup [.agg [.d (.v (.string ByteArray.empty)), .d (.v (.bool false)), .nil], .c .nil, eI (oneE (a.1.take 512) (a.1.drop 512))], []))
    (.ret (.tup [eF (oneFl (a.1.take 512) (a.1.drop 512)), eL tU ((a.1.drop 512).drop (blocksF (oneN (a.1.take 512)).1 * 512).toNat), eI 0], [])))) := by
  refine .mk C53_ok mixed (q := fn53) (.of Tryz.func55 (by kernel_rfl)) (N := 0) (nr := []) .none (by decide) ?_
  rintro ⟨(b : List Int), ⟨⟩⟩ -
  refine .rnd fun ⟨h1, h2, h3⟩ => ?_
  have h1 : u8s b = true := h1
  have h2 : 512 ≤ b.length := h2
  have h3 : b.length ≤ 1000000000 := h3
  have hu := u8s_take h1 512
  have hl : (b.take 512).length = 512 := by rw [List.length_take]; omega
  show Gives _ (.ite (oneE (b.take 512) (b.drop 512) != 0) (.ret (SV.tup [.agg [.d (.v (.string ByteArray.empty)), .d (.v (.bool false)), .nil], .c .nil, eI (oneE (b.take 512) (b.drop 512))], (⟨0, [], []⟩ : St)))
    (.ret (SV.tup [eF (oneFl (b.take 512) (b.drop 512)), eL tU ((b.drop 512).drop (blocksF (oneN (b.take 512)).1 * 512).toNat), eI 0], (⟨0, [], []⟩ : St))))
  refine Gives.seq (by kernel_rfl) ?_
  refine Gives.run (t' := .ret (.nx, ⟨90, [(0, rL tU b), (2, .e (.c (.np 2 0)))], [(2, .cells 89 [.d (.v (.string (ByteArray.mk (List.toArray ([] : List UInt8))))), .kb false, .nil])]⟩)) (by kernel_rfl) ?_
  refine Gives.goto rfl (Gives.seq (by kernel_rfl) ?_)
  refine Gives.run (t' := .need (okB (0 : Int) (512 : Int) (List.length b)) (.ret (.nx, ⟨90, [(0, rL tU b), (2, .e (.c (.np 2 0))), (5, rL tU (List.drop 0 (List.take 512 b)))], [(2, .cells 89 [.d (.v (.string (ByteArray.mk (List.toArray ([] : List UInt8))))), .kb false, .nil])]⟩))) (by kernel_rfl) ?_
  refine .lneed (by simp [okB]; omega) ?_
  refine Gives.goto (σ' := ⟨90, [(0, rL tU b), (2, .e (.c (.np 2 0))), (5, rL tU (b.take 512))], [(2, .cells 89 [.d (.v (.string ByteArray.empty)), .kb false, .nil])]⟩) (by rw [List.drop_zero]; kernel_rfl) ?_
  generalize b.take 512 = h at hu hl ⊢
  have ho6 := octal_len (sumF 0 h) 6
  refine Gives.seq (by kernel_rfl) ?_
  refine Gives.run (t' := .need (okB (148 : Int) (156 : Int) (List.length h)) (.need (decide (((List.length h) ≤ 1000000000000) ∧ ((u8s h) = true))) (.need true (.need true (.need true (.need ((u8s (List.drop 148 (List.take 156 h))) && (u8s ((octal (sumF 0 h) (6 : Int)) ++ [(32 : Int)]))) (.ite (!((List.drop 148 (List.take 156 h)) == ((octal (sumF 0 h) (6 : Int)) ++ [(32 : Int)]))) (.ret (.rt, ⟨90, [(2, .e (.c (.np 2 0))), (3, .e (.c (.nil))), (4, rI (14 : Int))], [(2, .cells 89 [.d (.v (.string (ByteArray.mk (List.toArray ([] : List UInt8))))), .kb false, .nil])]⟩)) (.ret (.nx, ⟨90, [(0, rL tU b), (2, .e (.c (.np 2 0))), (5, rL tU h), (22, .e (.c (.kb false)))], [(2, .cells 89 [.d (.v (.string ByteArray.empty)), .kb false, .nil]), (20, .row tU 5 ((octal (sumF 0 h) (6 : Int)) ++ [(32 : Int)]))]⟩))))))))) (by kernel_rfl) ?_
  have hbad : ∀ {E' : Int} {X : Tr (SV × St)} (E : Int), E' = E → (E != 0) = true → Gives ((Tr.ret (Ex.rt, (⟨90, [(2, .e (.c (.np 2 0))), (3, .e (.c (.nil))), (4, rI E)], [(2, .cells 89 [.d (.v (.string ByteArray.empty)), .kb false, .nil])]⟩ : St))).bind (fin C53 fn53.rs)) (.ite (E' != 0) (.ret (SV.tup [.agg [.d (.v (.string ByteArray.empty)), .d (.v (.bool false)), .nil], .c .nil, eI E'], (⟨0, [], []⟩ : St))) X) := fun E hE h0 => by
    subst hE
    exact Gives.of_eq (t' := .need true (.ret (SV.tup [.agg [.d (.v (.string ByteArray.empty)), .d (.v (.bool false)), .nil], .c .nil, eI _], (⟨0, [], []⟩ : St)))) (by kernel_rfl) (.need rfl (.rtt h0 (.refl _)))
  have hus : (u8s ((h.take 156).drop 148) && u8s (octal (sumF 0 h) 6 ++ [32])) = true := by
    rw [u8s_drop (u8s_take hu _) _, u8s_app, octal_u8]; rfl
  refine .lneed (by simp [okB]; omega) (.lnd ⟨by omega, hu⟩ (.lneed rfl (.lneed rfl (.lneed rfl (.lneed hus (.lite (fun hx => ?_) (fun hx => ?_)))))))
  · have hx : sumOk h = false := by rw [← Bool.not_eq_true']; exact hx
    exact hbad 14 (by unfold oneE; rw [if_pos hx]) rfl
  have hx : sumOk h = true := by rw [← Bool.not_eq_false']; exact hx
  refine Gives.goto rfl (Gives.seq (by kernel_rfl) ?_)
  refine Gives.run (t' := .need (okB (124 : Int) (135 : Int) (List.length h)) (.ret (.nx, ⟨90, [(0, rL tU b), (2, .e (.c (.np 2 0))), (5, rL tU h), (6, rI ((numL (0 : Int) (List.drop 124 (List.take 135 h)))).1), (7, rB ((numL (0 : Int) (List.drop 124 (List.take 135 h)))).2)], [(2, .cells 89 [.d (.v (.string ByteArray.empty)), .kb false, .nil]), (20, .row tU 5 ((octal (sumF 0 h) (6 : Int)) ++ [(32 : Int)]))]⟩))) (by kernel_rfl) ?_
  refine .lneed (by simp [okB]; omega) (Gives.goto (σ' := ⟨90, [(0, rL tU b), (2, .e (.c (.np 2 0))), (5, rL tU h), (6, rI (oneN h).1), (7, rB (oneN h).2)], [(2, .cells 89 [.d (.v (.string ByteArray.empty)), .kb false, .nil]), (20, .row tU 5 (octal (sumF 0 h) 6 ++ [32]))]⟩) rfl (Gives.seq (by kernel_rfl) ?_))
  refine Gives.run (t' := .need (okB (512 : Int) (((List.length b) : Nat) : Int) (List.length b)) (.ret (.nx, ⟨90, [(0, rL tU (List.drop 512 (List.take (List.length b) b))), (2, .e (.c (.np 2 0))), (5, rL tU h), (6, rI ((oneN h)).1), (7, rB ((oneN h)).2)], [(2, .cells 89 [.d (.v (.string ByteArray.empty)), .kb false, .nil]), (20, .row tU 5 ((octal (sumF 0 h) (6 : Int)) ++ [(32 : Int)]))]⟩))) (by kernel_rfl) ?_
  have hrl : (b.drop 512).length = b.length - 512 := List.length_drop
  refine .lneed (by simp [okB]; omega) (Gives.goto (σ' := ⟨90, [(0, rL tU (b.drop 512)), (2, .e (.c (.np 2 0))), (5, rL tU h), (6, rI (oneN h).1), (7, rB (oneN h).2)], [(2, .cells 89 [.d (.v (.string ByteArray.empty)), .kb false, .nil]), (20, .row tU 5 (octal (sumF 0 h) 6 ++ [32]))]⟩) (by rw [List.take_length]) ?_)
  have hur := u8s_drop h1 512
  generalize b.drop 512 = r at hrl hur ⊢
  have hn : (oneN h).2 = true → 0 ≤ (oneN h).1 ∧ (oneN h).1 ≤ 524295 := numL_le _ 0 (by omega)
  refine Gives.seq (by kernel_rfl) ?_
  refine Gives.run (t' := .ite (!((oneN h)).2) (.ret (.rt, ⟨90, [(2, .e (.c (.np 2 0))), (3, .e (.c (.nil))), (4, rI (4 : Int))], [(2, .cells 89 [.d (.v (.string (ByteArray.mk (List.toArray ([] : List UInt8))))), .kb false, .nil])]⟩)) (.need (decide (((0 : Int) ≤ ((oneN h)).1) ∧ (((oneN h)).1 ≤ (1000000000000000 : Int)))) (.need (decide (((-(9223372036854775808 : Int) : Int) ≤ ((blocksF ((oneN h)).1) * (512 : Int) : Int)) ∧ (((blocksF ((oneN h)).1) * (512 : Int) : Int) ≤ (9223372036854775807 : Int)))) (.ite (decide ((((List.length r) : Nat) : Int) < ((blocksF ((oneN h)).1) * (512 : Int) : Int))) (.ret (.rt, ⟨90, [(2, .e (.c (.np 2 0))), (3, .e (.c (.nil))), (4, rI (4 : Int))], [(2, .cells 89 [.d (.v (.string (ByteArray.mk (List.toArray ([] : List UInt8))))), .kb false, .nil])]⟩)) (.ret (.nx, ⟨90, [(0, rL tU r), (2, .e (.c (.np 2 0))), (5, rL tU h), (6, rI ((oneN h)).1), (41, .e (.c (.kb false)))], [(2, .cells 89 [.d (.v (.string ByteArray.empty)), .kb false, .nil]), (20, .row tU 5 ((octal (sumF 0 h) (6 : Int)) ++ [(32 : Int)]))]⟩)))))) (by kernel_rfl) ?_
  refine .lite (fun hx1 => ?_) (fun hx1 => ?_)
  · have hx1 : (oneN h).2 = false := by rw [← Bool.not_eq_true']; exact hx1
    exact hbad 4 (by unfold oneE; rw [if_neg (by rw [hx]; simp), if_pos (.inl hx1)]) rfl
  have hx1 : (oneN h).2 = true := by rw [← Bool.not_eq_false']; exact hx1
  have hn := hn hx1
  have hb := blocksF_le hn.1
  refine .lnd (by omega) (.lnd (by omega) (.lif (fun hx2 => ?_) (fun hx2 => ?_)))
  · exact hbad 4 (by unfold oneE; rw [if_neg (by rw [hx]; simp), if_pos (.inr hx2)]) rfl
  have hE : oneE h r = if tMay [oneFl h r] ≠ 0 ∨ ¬ headF (oneFl h r) = h ∨ zeroF ((r.take (blocksF (oneN h).1 * 512).toNat).drop (oneN h).1.toNat) = false then 4 else 0 := by
    unfold oneE; rw [if_neg (by rw [hx]; simp), if_neg (by rw [not_or]; exact ⟨by rw [hx1]; simp, hx2⟩)]
  refine Gives.goto rfl (Gives.seq (by kernel_rfl) ?_)
  refine Gives.run (t' := .need (okB (0 : Int) (100 : Int) (List.length h)) (.need (decide (([(0 : Int)] = [(0 : Int)]) ∧ ((List.length (List.drop 0 (List.take 100 h))) ≤ 1000000))) (.ret (.nx, ⟨90, [(0, rL tU r), (2, .e (.c (.np 2 0))), (5, rL tU h), (6, rI ((oneN h)).1), (8, rL tU (cutN (List.drop 0 (List.take 100 h))))], [(2, .cells 89 [.d (.v (.string ByteArray.empty)), .kb false, .nil]), (20, .row tU 5 ((octal (sumF 0 h) (6 : Int)) ++ [(32 : Int)]))]⟩)))) (by kernel_rfl) ?_
  refine .lneed (by simp [okB]; omega) (.lnd ⟨rfl, by rw [List.length_drop, List.length_take]; omega⟩ ?_)
  refine Gives.goto (σ' := ⟨90, [(0, rL tU r), (2, .e (.c (.np 2 0))), (5, rL tU h), (6, rI (oneN h).1), (8, rL tU (cutN (h.take 100)))], [(2, .cells 89 [.d (.v (.string ByteArray.empty)), .kb false, .nil]), (20, .row tU 5 (octal (sumF 0 h) 6 ++ [32]))]⟩) (by rw [List.drop_zero]) (Gives.seq (by kernel_rfl) ?_)
  refine Gives.run (t' := .need true (.need (inR (156 : Int) (List.length h)) (.need (okB (0 : Int) ((oneN h)).1 (List.length r)) (.need (decide ((List.length (List.drop 0 (List.take (Int.toNat ((oneN h)).1) r))) ≤ 140737488355328)) (.ret (.nx, ⟨90, [(0, rL tU r), (2, .e (.c (.np 2 0))), (5, rL tU h), (6, rI ((oneN h)).1), (11, .e (.c (.np 11 0)))], [(2, .cells 89 [.d (.v (.string ByteArray.empty)), .kb false, .nil]), (11, .cells 89 [.d (.v (.string (txt (cutN (List.take 100 h))))), .d (.v (.bool ((List.getD h 156 (0 : Int)) == (53 : Int)))), .d (.sl tU (List.drop 0 (List.take (Int.toNat ((oneN h)).1) r)))]), (20, .row tU 5 ((octal (sumF 0 h) (6 : Int)) ++ [(32 : Int)]))]⟩)))))) (by kernel_rfl) ?_
  refine .lneed rfl (.lneed (inR_of (by omega) (by omega)) (.lneed (by simp [okB]; omega) (.lnd (by rw [List.length_drop, List.length_take]; omega) ?_)))
  refine Gives.goto (σ' := ⟨90, [(0, rL tU r), (2, .e (.c (.np 2 0))), (5, rL tU h), (6, rI (oneN h).1), (11, .e (.c (.np 11 0)))], [(2, .cells 89 [.d (.v (.string ByteArray.empty)), .kb false, .nil]), (11, .cells 89 [.d (.v (.string (oneFl h r).1)), .d (.v (.bool (oneFl h r).2.1)), .d (.sl tU (oneFl h r).2.2)]), (20, .row tU 5 (octal (sumF 0 h) 6 ++ [32]))]⟩) (by rw [List.drop_zero]; rfl) ?_
  generalize hf : oneFl h r = f at hE ⊢
  obtain ⟨fp, fd, fc⟩ := f
  refine Gives.seq (by kernel_rfl) ?_
  refine Gives.run (t' := .need true (.ite ((tMay [(fp, (fd, fc))]) != (0 : Int)) (.ret (.rt, ⟨90, [(2, .e (.c (.np 2 0))), (3, .e (.c (.nil))), (4, rI (4 : Int))], [(2, .cells 89 [.d (.v (.string (ByteArray.mk (List.toArray ([] : List UInt8))))), .kb false, .nil])]⟩)) (.need true (.need (decide ((ByteArray.size fp) ≤ 99)) (.need ((u8s (headF (fp, (fd, fc)))) && (u8s h)) (.ite (!((headF (fp, (fd, fc))) == h)) (.ret (.rt, ⟨90, [(2, .e (.c (.np 2 0))), (3, .e (.c (.nil))), (4, rI (4 : Int))], [(2, .cells 89 [.d (.v (.string (ByteArray.mk (List.toArray ([] : List UInt8))))), .kb false, .nil])]⟩)) (.need (decide (((0 : Int) ≤ ((oneN h)).1) ∧ (((oneN h)).1 ≤ (1000000000000000 : Int)))) (.need (decide (((-(9223372036854775808 : Int) : Int) ≤ ((blocksF ((oneN h)).1) * (512 : Int) : Int)) ∧ (((blocksF ((oneN h)).1) * (512 : Int) : Int) ≤ (9223372036854775807 : Int)))) (.need (okB ((oneN h)).1 ((blocksF ((oneN h)).1) * (512 : Int) : Int) (List.length r)) (.ite (!(zeroF (List.drop (Int.toNat ((oneN h)).1) (List.take (Int.toNat ((blocksF ((oneN h)).1) * (512 : Int) : Int)) r)))) (.ret (.rt, ⟨90, [(2, .e (.c (.np 2 0))), (3, .e (.c (.nil))), (4, rI (4 : Int))], [(2, .cells 89 [.d (.v (.string (ByteArray.mk (List.toArray ([] : List UInt8))))), .kb false, .nil])]⟩)) (.ret (.nx, ⟨90, [(0, rL tU r), (2, .e (.c (.np 2 0))), (6, rI ((oneN h)).1), (11, .e (.c (.np 11 0))), (82, .e (.c (.kb false)))], [(2, .cells 89 [.d (.v (.string ByteArray.empty)), .kb false, .nil]), (11, .cells 89 [.d (.v (.string fp)), .d (.v (.bool fd)), .d (.sl tU fc)]), (20, .row tU 5 ((octal (sumF 0 h) (6 : Int)) ++ [(32 : Int)]))]⟩)))))))))))) (by kernel_rfl) ?_
  have hE4 : (tMay [(fp, fd, fc)] ≠ 0 ∨ ¬ headF (fp, fd, fc) = h ∨ zeroF ((r.take (blocksF (oneN h).1 * 512).toNat).drop (oneN h).1.toNat) = false) → oneE h r = 4 := fun hc => by rw [hE, if_pos hc]
  refine .lneed rfl (.lite (fun hx3 => ?_) (fun hx3 => ?_))
  · exact hbad 4 (hE4 (.inl (by simpa using hx3))) rfl
  have hx3 : tMay [(fp, fd, fc)] = 0 := by simpa using hx3
  have hsz : fp.size ≤ 99 := by
    have := (tMay_zero hx3).2.2.2.2
    have := of_decide_eq_true (List.all_eq_true.1 this _ (List.mem_singleton.2 rfl))
    exact this.1
  refine .lneed rfl (.lnd hsz (.lneed (by rw [headF_u8, hu]; rfl) (.lite (fun hx4 => ?_) (fun hx4 => ?_))))
  · exact hbad 4 (hE4 (.inr (.inl (by simpa using hx4)))) rfl
  have hx4 : headF (fp, fd, fc) = h := by simpa using hx4
  refine .lnd (by omega) (.lnd (by omega) (.lneed (by simp [okB]; omega) (.lite (fun hx5 => ?_) (fun hx5 => ?_))))
  · exact hbad 4 (hE4 (.inr (.inr (by rw [← Bool.not_eq_true']; exact hx5)))) rfl
  have hx5 : zeroF ((r.take (blocksF (oneN h).1 * 512).toNat).drop (oneN h).1.toNat) = true := by rw [← Bool.not_eq_false']; exact hx5
  have hE0 : oneE h r = 0 := by rw [hE, if_neg (by rw [not_or, not_or]; exact ⟨by simpa using hx3, by simpa using hx4, by rw [hx5]; simp⟩)]
  rw [hE0]
  refine Gives.goto rfl (Gives.seq (by kernel_rfl) ?_)
  refine Gives.run (t' := .need true (.need (decide (((0 : Int) ≤ ((oneN h)).1) ∧ (((oneN h)).1 ≤ (1000000000000000 : Int)))) (.need (decide (((-(9223372036854775808 : Int) : Int) ≤ ((blocksF ((oneN h)).1) * (512 : Int) : Int)) ∧ (((blocksF ((oneN h)).1) * (512 : Int) : Int) ≤ (9223372036854775807 : Int)))) (.need (okB ((blocksF ((oneN h)).1) * (512 : Int) : Int) (((List.length r) : Nat) : Int) (List.length r)) (.ret (.nx, ⟨90, [(2, .e (.c (.np 2 0))), (3, rL tU (List.drop (Int.toNat ((blocksF ((oneN h)).1) * (512 : Int) : Int)) (List.take (List.length r) r))), (4, rI (0 : Int))], [(2, .cells 89 [.d (.v (.string fp)), .d (.v (.bool fd)), .d (.sl tU fc)]), (11, .cells 89 [.d (.v (.string fp)), .d (.v (.bool fd)), .d (.sl tU fc)]), (20, .row tU 5 ((octal (sumF 0 h) (6 : Int)) ++ [(32 : Int)]))]⟩)))))) (by kernel_rfl) ?_
  refine .lneed rfl (.lnd (by omega) (.lnd (by omega) (.lneed (by simp [okB]; omega) ?_)))
  rw [List.take_length]
  exact Gives.of_eq (t' := .need true (.ret (SV.tup [eF (fp, fd, fc), eL tU (r.drop (blocksF (oneN h).1 * 512).toNat), eI 0], (⟨0, [], []⟩ : St)))) (by kernel_rfl) (.need rfl (.rff rfl (.refl _)))
theorem oneF_ok : CtrOk Tryz.prog 55 oneFCtr := by
  refine CtrOk.lessC oneT_ok ?_
  rintro ⟨(b : List Int), ⟨⟩⟩
  show LessT _ (.need _ (.ret (SV.tup [eF (oneF' (b.take 512) (b.drop 512)), eL tU (oneR (b.take 512) (b.drop 512)), eI (oneE (b.take 512) (b.drop 512))], (⟨0, [], []⟩ : St))))
  refine .rneed fun h => .need h (.ite (fun hz => ?_) (fun hz => ?_))
  · have hz : ¬ oneE (b.take 512) (b.drop 512) = 0 := by simpa using hz
    rw [show oneF' (b.take 512) (b.drop 512) = (ByteArray.empty, false, []) by unfold oneF'; rw [if_neg hz], show oneR (b.take 512) (b.drop 512) = [] by unfold oneR; rw [if_neg hz]]
    refine .ret ⟨fun M β v hv => ?_, rfl, rfl, fun _ _ h => h⟩
    obtain ⟨vs, e, hs⟩ := hv
    refine ⟨vs, e, ?_⟩
    generalize vs.toList = us at hs ⊢
    cases hs with
    | cons h1 h2 =>
      cases h2 with
      | cons h3 h4 =>
        refine .cons ?_ (.cons (EVR.nilL (β := β) (t := tU) h3) h4)
        obtain ⟨ws, e2, hw⟩ := h1
        refine ⟨ws, e2, ?_⟩
        generalize ws.toList = xs at hw ⊢
        cases hw with
        | cons g1 g2 g3 =>
          cases g3 with
          | cons g4 g5 g6 =>
            cases g6 with
            | cons g7 g8 g9 => cases g9; exact .cons g1 g2 (.cons g4 g5 (.cons (EVR.nilL (β := β) (t := tU) g7) g8 .nil))
  · have hz : oneE (b.take 512) (b.drop 512) = 0 := by simpa using hz
    rw [show oneF' (b.take 512) (b.drop 512) = oneFl (b.take 512) (b.drop 512) by unfold oneF'; rw [if_pos hz], show oneR (b.take 512) (b.drop 512) = (b.drop 512).drop (blocksF (oneN (b.take 512)).1 * 512).toNat by unfold oneR; rw [if_pos hz], hz]
    exact .ret (.refl _)
end Go.Proofs.YtjebfbkigkjboaaGreatDoor.Sy

/- Contracts: an archive is read. -/
set_option maxRecDepth 100000
namespace Go.Proofs.YtjebfbkigkjboaaGreatDoor.Sy
open Go.RowKit Kit Go.Proofs
noncomputable def fn29 := mkFn Tryz.f32
noncomputable def C29 : Cx := ⟨T, FL, [(54, zeroCtr), (55, oneFCtr)], [], [FA]⟩
theorem C29_ok : CxOk Tryz.prog C29 := ⟨T_ok, FL_ok, .cons zero_ok (.cons oneF_ok (.nil _)), .nil _⟩
def nr29 : List NR := [⟨5, tFile, 89⟩]
/-- the files of bytes: why there are none, they, what is left -/
def rdL : Nat → List Int → Int × List File × List Int
  | 0, _ => (4, [], [])
  | n + 1, b =>
    if b.length < 512 then (4, [], [])
    else if zeroF (b.take 512) then (0, [], b)
    else if oneE (b.take 512) (b.drop 512) ≠ 0 then (oneE (b.take 512) (b.drop 512), [], [])
    else ((rdL n (oneR (b.take 512) (b.drop 512))).1, oneF' (b.take 512) (b.drop 512) :: (rdL n (oneR (b.take 512) (b.drop 512))).2.1, (rdL n (oneR (b.take 512) (b.drop 512))).2.2)
theorem oneR_len (h r : List Int) : (oneR h r).length ≤ r.length := by
  unfold oneR
  split
  · rw [List.length_drop]; omega
  · exact Nat.zero_le _
theorem oneR_u8 {h r : List Int} (hr : u8s r = true) : u8s (oneR h r) = true := by
  unfold oneR
  split
  · exact u8s_drop hr _
  · rfl
theorem rdL_fuel : ∀ (n : Nat) (b : List Int), b.length ≤ n → rdL n b = rdL b.length b := by
  intro n
  induction n using Nat.strongRecOn with
  | ind n ih =>
    intro b hb
    cases n with
    | zero => rw [show b.length = 0 by omega]
    | succ n =>
      by_cases h0 : b.length < 512
      · have e : ∀ m, rdL m b = (4, [], []) := fun m => by
          cases m with
          | zero => rfl
          | succ m => rw [rdL, if_pos h0]
        rw [e, e]
      · obtain ⟨m, hm⟩ : ∃ m, b.length = m + 1 := ⟨b.length - 1, by omega⟩
        rw [hm, rdL, rdL]
        have hr : (oneR (b.take 512) (b.drop 512)).length ≤ m := by
          have := oneR_len (b.take 512) (b.drop 512)
          rw [List.length_drop] at this; omega
        rw [ih n (by omega) _ (by omega), ih m (by omega) _ hr]
theorem rdL_short {b : List Int} (h : b.length < 512) {m : Nat} : rdL m b = (4, [], []) := by
  cases m with
  | zero => rfl
  | succ m => rw [rdL, if_pos h]
theorem rdL_one {b : List Int} (h : 512 ≤ b.length) : rdL b.length b = if zeroF (b.take 512) then (0, [], b)
    else if oneE (b.take 512) (b.drop 512) ≠ 0 then (oneE (b.take 512) (b.drop 512), [], [])
    else ((rdL (oneR (b.take 512) (b.drop 512)).length (oneR (b.take 512) (b.drop 512))).1, oneF' (b.take 512) (b.drop 512) :: (rdL (oneR (b.take 512) (b.drop 512)).length (oneR (b.take 512) (b.drop 512))).2.1, (rdL (oneR (b.take 512) (b.drop 512)).length (oneR (b.take 512) (b.drop 512))).2.2) := by
  obtain ⟨m, hm⟩ : ∃ m, b.length = m + 1 := ⟨b.length - 1, by omega⟩
  have hr : (oneR (b.take 512) (b.drop 512)).length ≤ m := by
    have := oneR_len (b.take 512) (b.drop 512)
    rw [List.length_drop] at this; omega
  conv => lhs; rw [hm, rdL]
  rw [if_neg (by omega), rdL_fuel m _ hr]
def q29 : Frm := ⟨44, [(0, .dat tB), (4, .dat tI), (5, .row 5)], [(5, .row tFile 89)]⟩
def R29 : q29.V → Tr (Ex × St) := fun (((b : List Int), (w : Int), _), (acc : List File), _) =>
  .need (decide (u8s b = true ∧ acc.length + b.length ≤ 1000000000)) (.ite ((rdL b.length b).1 != 0) (.ret (.rt, ⟨44, [(2, .e (.c .nil)), (3, rI (rdL b.length b).1)], []⟩))
    (.ret (.ex 0, ⟨44, [(0, rL tU (rdL b.length b).2.2), (4, rI w), (5, .e (.c (.row 5)))], [(5, .row tFile 89 (acc ++ (rdL b.length b).2.1))]⟩)))
def lp29 : LP := [(0, sumP q29 R29)]
theorem lp29_ok : LpsOk 0 C29 nr29 lp29 fn29.loops := by
  refine .all (by kernel_rfl) ?_
  simp only [lp29, List.forall_mem_cons, List.not_mem_nil, false_imp_iff, implies_true, and_true]
  refine .pat q29 R29 (fun v => v.1.1.length) ?_
  rintro ⟨⟨(b : List Int), (w : Int), ⟨⟩, ⟨⟩⟩, ⟨(acc : List File), ⟨⟩⟩⟩ ih
  refine Gives.run (t' := .ite (decide ((((List.length b) : Nat) : Int) < (512 : Int))) (.ret (.rt, ⟨44, [(2, .e (.c (.nil))), (3, rI (4 : Int))], []⟩)) (.need (okB (0 : Int) (512 : Int) (List.length b)) (.ite (zeroF (List.drop 0 (List.take 512 b))) (.ret (.ex 0, ⟨44, [(0, rL tU b), (4, rI w), (5, .e (.c (.row 5)))], [(5, .row tFile 89 acc)]⟩)) (.need (decide (((u8s b) = true) ∧ ((512 ≤ (List.length b)) ∧ ((List.length b) ≤ 1000000000)))) (.ite ((oneE (List.take 512 b) (List.drop 512 b)) != (0 : Int)) (.ret (.rt, ⟨44, [(2, .e (.c (.nil))), (3, rI (oneE (List.take 512 b) (List.drop 512 b)))], []⟩)) (.need true (.need true (.need (decide ((((List.length acc) + (List.length [(oneF' (List.take 512 b) (List.drop 512 b))]) : Nat) * (Lay.bytes L89) : Nat) ≤ 140737488355328)) (.ret (.nx, ⟨44, [(0, rL tU (oneR (List.take 512 b) (List.drop 512 b))), (4, rI w), (5, .e (.c (.row 29)))], [(6, .cells 89 [.d (.v (.string ((oneF' (List.take 512 b) (List.drop 512 b))).1)), .d (.v (.bool (((oneF' (List.take 512 b) (List.drop 512 b))).2).1)), .d (.sl tU (((oneF' (List.take 512 b) (List.drop 512 b))).2).2)]), (29, .row tFile 89 (acc ++ [(oneF' (List.take 512 b) (List.drop 512 b))]))]⟩)))))))))) (by kernel_rfl) ?_
  refine .rnd fun ⟨h1, h2⟩ => ?_
  refine .lif (fun hk => ?_) (fun hk => ?_)
  · rw [rdL_short (by omega)]; exact .rtt rfl (.refl _)
  have hk : 512 ≤ b.length := by omega
  have hr := rdL_one hk
  rw [List.drop_zero]
  refine .lneed (by simp [okB]; omega) (.lite (fun hz => ?_) (fun hz => ?_))
  · rw [if_pos hz] at hr
    rw [hr]
    simp only [List.append_nil]
    exact .rff rfl (.refl _)
  rw [if_neg (by rw [hz]; exact Bool.false_ne_true)] at hr
  refine .lnd ⟨h1, hk, by omega⟩ (.lite (fun he => ?_) (fun he => ?_))
  · rw [if_pos (by simpa using he)] at hr
    rw [hr]; exact .rtt he (.refl _)
  have he0 : oneE (b.take 512) (b.drop 512) = 0 := by simpa using he
  rw [if_neg (by simpa using he)] at hr
  have hl := oneR_len (b.take 512) (b.drop 512)
  rw [List.length_drop] at hl
  have hu := oneR_u8 (h := b.take 512) (u8s_drop h1 512)
  refine .lneed rfl (.lneed rfl (.lnd (by show (acc.length + 1) * 48 ≤ _; omega) ?_))
  rw [hr]
  generalize oneR (b.take 512) (b.drop 512) = r at hl hu ⊢
  generalize oneF' (b.take 512) (b.drop 512) = f
  refine Gives.next (σ' := q29.st ((r, w, (), ()), (acc ++ [f], ()))) (by kernel_rfl) ((ih ((r, w, (), ()), (acc ++ [f], ())) (by show r.length < b.length; omega)).trans ?_)
  refine .nd ⟨hu, by rw [List.length_append]; simp; omega⟩ ?_
  rw [List.append_assoc]
  exact .refl _
/-- the files of an archive -/
def readT (b : List Int) : Int × List File :=
  if (rdL b.length b).1 ≠ 0 then ((rdL b.length b).1, [])
  else if (rdL b.length b).2.2.length ≠ 1024 ∨ zeroF (rdL b.length b).2.2 = false ∨ 65536 < b.length then (4, []) else (0, (rdL b.length b).2.1)
def tReadCtr : Ctr := ctr (one (aVal tB)) fun a => .need (decide (u8s a.1 = true ∧ a.1.length ≤ 1000000000)) (.ret (.tup [eL tFile (readT a.1).2, eI (readT a.1).1], []))
theorem tRead_ok : CtrOk Tryz.prog 32 tReadCtr := by
  refine CtrOk.lessC (F := fun a => .need (decide (u8s a.1 = true ∧ a.1.length ≤ 1000000000)) (.ite ((readT a.1).1 != 0) (.ret (.tup [.c .nil, eI (readT a.1).1], [])) (.ret (.tup [eL tFile (readT a.1).2, eI 0], [])))) ?_ ?_
  · refine .mk C29_ok mixed (q := fn29) (.of Tryz.func32 (by kernel_rfl)) lp29_ok (by decide) ?_
    rintro ⟨(b : List Int), ⟨⟩⟩ -
    refine Gives.of_eq (t' := .need (decide (((u8s b) = true) ∧ (((List.length ([] : List (Prod (Ty.El Ty.str) (Ty.El (Ty.pair Ty.bool tB))))) + (List.length b) : Nat) ≤ 1000000000))) (.ite (((rdL (List.length b) b)).1 != (0 : Int)) (.ret (.tup [.c (.nil), .c (.d (.v (.int .i64 ((rdL (List.length b) b)).1)))], ⟨0, [], []⟩)) (.ite ((((List.length (((rdL (List.length b) b)).2).2) : Nat) : Int) != (1024 : Int)) (.ret (.tup [.c (.nil), .c (.d (.v (.int .i64 (4 : Int))))], ⟨0, [], []⟩)) (.ite (!(zeroF (((rdL (List.length b) b)).2).2)) (.ret (.tup [.c (.nil), .c (.d (.v (.int .i64 (4 : Int))))], ⟨0, [], []⟩)) (.ite (decide ((65536 : Int) < (((List.length b) : Nat) : Int))) (.ret (.tup [.c (.nil), .c (.d (.v (.int .i64 (4 : Int))))], ⟨0, [], []⟩)) (.ret (.tup [.c (.d (.sl tFile (([] : List (Prod (Ty.El Ty.str) (Ty.El (Ty.pair Ty.bool tB)))) ++ (((rdL (List.length b) b)).2).1))), .c (.d (.v (.int .i64 (0 : Int))))], ⟨0, [], []⟩))))))) (by kernel_rfl) ?_
    show Gives _ (.need _ (.ite ((readT b).1 != 0) (.ret (SV.tup [.c .nil, eI (readT b).1], (⟨0, [], []⟩ : St))) (.ret (SV.tup [eL tFile (readT b).2, eI 0], (⟨0, [], []⟩ : St)))))
    refine .rnd fun ⟨h1, h2⟩ => ?_
    have h1 : u8s b = true := h1
    have h2 : b.length ≤ 1000000000 := h2
    unfold readT
    refine .nd ⟨h1, by simpa using h2⟩ (.ite (fun hz => ?_) (fun hz => ?_))
    · rw [if_pos (by simpa using hz)]; exact .rtt hz (.refl _)
    rw [if_neg (by simpa using hz)]
    refine .ite (fun hx => ?_) (fun hx => ?_)
    · rw [if_pos (.inl (by have := bne_iff_ne.1 hx; omega))]; exact .rtt rfl (.refl _)
    refine .ite (fun hy => ?_) (fun hy => ?_)
    · rw [if_pos (.inr (.inl (by rw [← Bool.not_eq_true']; exact hy)))]; exact .rtt rfl (.refl _)
    refine .if_ (fun hw => ?_) (fun hw => ?_)
    · rw [if_pos (.inr (.inr (by omega)))]; exact .rtt rfl (.refl _)
    rw [if_neg (by
      rw [not_or, not_or]
      exact ⟨by have := bne_eq_false_iff_eq.1 hx; omega, by rw [show zeroF (rdL b.length b).2.2 = true by rw [← Bool.not_eq_false']; exact hy]; simp, by omega⟩), List.nil_append]
    exact .rff rfl (.refl _)
  · rintro ⟨(b : List Int), ⟨⟩⟩
    show LessT _ (.need _ (.ret (SV.tup [eL tFile (readT b).2, eI (readT b).1], (⟨0, [], []⟩ : St))))
    refine .rneed fun h => .need h (.ite (fun hz => ?_) (fun hz => ?_))
    · have hz : ¬ (readT b).1 = 0 := by simpa using hz
      have : (readT b).2 = [] := by
        unfold readT at hz ⊢
        split
        · rfl
        · split
          · rfl
          · rename_i h1 h2; rw [if_neg h1, if_neg h2] at hz; exact absurd rfl hz
      rw [this]
      exact .ret (Less.tup1 fun M β v hv => EVR.nilL (β := β) (t := tFile) hv)
    · have hz : (readT b).1 = 0 := by simpa using hz
      rw [hz]; exact .ret (.refl _)
end Go.Proofs.YtjebfbkigkjboaaGreatDoor.Sy
