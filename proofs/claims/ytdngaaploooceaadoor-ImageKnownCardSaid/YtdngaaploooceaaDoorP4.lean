/- Contracts: small functions; instructions; programs that may not be written. -/
import Derived.Lib.BytesEntry
import Derived.Lib.IndexLaws
import Derived.Test.YtdngaaploooceaaDoorP3
set_option maxRecDepth 100000
namespace Go.Proofs.YtdngaaploooceaaDoor.Sy
open Go.RowKit Kit Go.Proofs

abbrev one {α : Type} (A : Arg α) : Args (α × Unit) := .cons A .nil
abbrev two {α β : Type} (A : Arg α) (B : Arg β) : Args (α × β × Unit) := .cons A (.cons B .nil)
abbrev three {α β γ : Type} (A : Arg α) (B : Arg β) (C : Arg γ) : Args (α × β × γ × Unit) := .cons A (.cons B (.cons C .nil))
abbrev aI : Arg Int := aVal tI
abbrev aL : Arg (List Int) := aVal tB
abbrev aS : Arg ByteArray := aVal .str
abbrev aB : Arg Bool := aVal .bool
abbrev ans (x : SV) : Ans := .ret (x, [])

noncomputable def fn38 := mkFn Tryd.f23
theorem fits_ok : CtrOk Tryd.prog 23 (ctr (two aI aI) fun a => ans (rB (decide (0 ≤ a.1) && decide (a.1 ≤ a.2.1)))) := by
  refine .mk C0_ok mixed (q := fn38) (.of Tryd.func23 (by kernel_rfl)) (N := 0) (nr := []) .none (by decide) ?_
  rintro ⟨a, b, -⟩ -
  refine Gives.of_eq (t' := .ite (decide ((0 : Int) ≤ a)) (.ret (rB (decide (a ≤ b)), ⟨0, [], []⟩)) (.ret (rB false, ⟨0, [], []⟩))) (by kernel_rfl) ?_
  refine .ite (fun h => ?_) (fun h => ?_)
  · rw [h]; exact .refl _
  · rw [h]; exact .refl _

def truth (b : Bool) : Int := if b then 1 else 0
noncomputable def fn45 := mkFn Tryd.f27
theorem truth_ok : CtrOk Tryd.prog 27 (ctr (one aB) fun a => ans (rU (truth a.1))) := by
  refine .mk C0_ok mixed (q := fn45) (.of Tryd.func27 (by kernel_rfl)) (N := 0) (nr := []) .none (by decide) ?_
  rintro ⟨b, -⟩ -
  refine Gives.of_eq (t' := .ite b (.ret (rU (1 : Int), ⟨0, [], []⟩)) (.ret (rU (0 : Int), ⟨0, [], []⟩))) (by kernel_rfl) ?_
  refine .ite (fun h => ?_) (fun h => ?_)
  · rw [h]; exact .refl _
  · rw [h]; exact .refl _

/-- what an instruction takes, gives, and below which number its operand lies -/
def iTabL : List (Int × (Int × Int × Int)) :=
  [(1, 0, 1, 65536), (2, 1, 0, 1), (24, 1, 0, 1), (25, 1, 0, 1), (26, 1, 0, 1), (3, 1, 2, 1), (4, 2, 2, 1), (5, 2, 1, 1), (6, 2, 1, 1), (7, 2, 1, 1), (8, 2, 1, 1), (9, 2, 1, 1), (10, 2, 1, 1), (11, 2, 1, 1), (12, 2, 1, 1), (13, 2, 1, 1), (14, 2, 1, 1), (15, 2, 1, 1), (16, 2, 1, 1), (31, 2, 1, 1), (38, 2, 1, 1), (41, 2, 1, 1), (17, 1, 1, 1), (20, 1, 1, 1), (28, 1, 1, 1), (32, 1, 1, 1), (39, 1, 1, 1), (18, 0, 1, 8), (19, 1, 0, 8), (21, 2, 0, 1), (22, 0, 0, 96), (23, 1, 0, 96), (29, 3, 1, 1), (30, 3, 1, 1), (27, 0, 1, 8), (33, 0, 1, 8), (35, 0, 1, 8), (36, 0, 1, 8), (37, 0, 1, 8), (34, 0, 1, 64), (40, 0, 1, 1)]
def lookI (x : Int) : List (Int × (Int × Int × Int)) → Option (Int × Int × Int)
  | [] => none
  | (k, v) :: r => if x = k then some v else lookI x r
def iTab (x : Int) : Option (Int × Int × Int) := lookI x iTabL
abbrev tK : Ty := .pair tI (.pair tI tI)
def kindA (o : Option (Int × Int × Int)) : Ans := .ret (.tup [.agg ((split tK (o.getD (0, 0, 0))).map .d), .c (.d (.v (.bool o.isSome)))], [])
def chainI (x : Int) : List (Int × (Int × Int × Int)) → Tr (SV × St)
  | [] => .need true (.ret (.tup [.agg ((split tK (0, 0, 0)).map .d), .c (.d (.v (.bool false)))], ⟨0, [], []⟩))
  | (k, v) :: r => .ite (x == k) (.need true (.ret (.tup [.agg ((split tK v).map .d), .c (.d (.v (.bool true)))], ⟨0, [], []⟩))) (chainI x r)
theorem chainI_gives (x : Int) : ∀ l, Gives (chainI x l) ((kindA (lookI x l)).bind fun r => .ret (r.1, ⟨0, [], r.2⟩))
  | [] => .need rfl (.refl _)
  | (k, v) :: r => by
    simp only [chainI, lookI]
    refine .ite (fun h => .need rfl ?_) (fun h => ?_)
    · rw [if_pos (by simpa using h)]; exact .refl _
    · rw [if_neg (by simpa using h)]; exact chainI_gives x r
noncomputable def fn75 := mkFn Tryd.f59
def C2 : Cx := ⟨T, [], [], [], [2]⟩
theorem C2_ok : CxOk Tryd.prog C2 := ⟨T_ok, .nil _, .nil _, .nil _⟩
theorem iTab_gives (x : Int) : Gives (chainI x iTabL) ((kindA (iTab x)).bind fun r => .ret (r.1, ⟨0, [], r.2⟩)) := chainI_gives x iTabL
theorem tab_eq (a : Int × Unit) : fn75.go 0 C2 [] [] ((one aI).sv a) St.nil = chainI a.1 iTabL := by kernel_rfl
theorem tab_gives (a : Int × Unit) : Gives (fn75.go 0 C2 [] [] ((one aI).sv a) St.nil) ((kindA (iTab a.1)).bind fun r => .ret (r.1, ⟨0, [], r.2⟩)) := by
  rw [tab_eq]; exact iTab_gives a.1
theorem tab_ok : CtrOk Tryd.prog 59 (ctr (one aI) fun a => kindA (iTab a.1)) :=
  .mk C2_ok mixed (q := fn75) (.of Tryd.func59 (by kernel_rfl)) (N := 0) (nr := []) .none (by decide) fun a _ => tab_gives a

abbrev tInst : Ty := .pair tI tI
abbrev tProg : Ty := .pair (.sl tInst) (.sl .str)
def iMay (i : Int × Int) : Bool :=
  match iTab i.1 with
  | some k => decide (0 ≤ i.2) && decide (i.2 < k.2.2)
  | none => false
noncomputable def fn58 := mkFn Tryd.f41
def C3 : Cx := ⟨T, [], [(59, ctr (one aI) fun a => kindA (iTab a.1))], [], []⟩
theorem C3_ok : CxOk Tryd.prog C3 := ⟨T_ok, .nil _, .cons tab_ok (.nil _), .nil _⟩
theorem imay_ok : CtrOk Tryd.prog 41 (ctr (one (aAgg tInst)) fun a => ans (rB (iMay a.1))) := by
  refine .mk C3_ok mixed (q := fn58) (.of Tryd.func41 (by kernel_rfl)) (N := 0) (nr := []) .none (by decide) ?_
  rintro ⟨x, -⟩ -
  refine Gives.of_eq (t' := .ite (Option.isSome (iTab (x).1)) (.ite (decide ((0 : Int) ≤ (x).2)) (.ret (rB (decide ((x).2 < (((Option.getD (iTab (x).1) ((0 : Int), ((0 : Int), (0 : Int))))).2).2)), ⟨0, [], []⟩)) (.ret (rB false, ⟨0, [], []⟩))) (.ret (rB false, ⟨0, [], []⟩))) (by kernel_rfl) ?_
  unfold iMay
  cases e : iTab x.1 with
  | none => exact .ff rfl (.refl _)
  | some k =>
    refine .tt rfl (.ite (fun h => ?_) (fun h => ?_))
    · simp only [h]; exact .refl _
    · simp only [h]; exact .refl _
end Go.Proofs.YtdngaaploooceaaDoor.Sy

/- Contracts: programs that may not be written. -/
set_option maxRecDepth 100000
namespace Go.Proofs.YtdngaaploooceaaDoor.Sy
open Go.RowKit Kit Go.Proofs

def pMay2 (L : List (Int × Int)) (N : List ByteArray) : Int :=
  if 96 < L.length ∨ 8 < N.length then 3
  else if N.any (fun s => decide (255 < s.size)) then 10
  else if L.any (fun i => !iMay i) then 5 else 0
def pMay (p : List (Int × Int) × List ByteArray) : Int := pMay2 p.1 p.2
noncomputable def fn35 := mkFn Tryd.f20
def C35 : Cx := ⟨T, [], [(41, ctr (one (aAgg tInst)) fun a => ans (rB (iMay a.1)))], [], [6]⟩
theorem C35_ok : CxOk Tryd.prog C35 := ⟨T_ok, .nil _, .cons imay_ok (.nil _), .nil _⟩
def q35a : Frm := ⟨39, [(1, .ptr tProg), (18, .dat (.sl .str)), (19, .dat tI), (20, .dat tI)], []⟩
def R35a : q35a.V → Tr (Ex × St) := fun (((p : tProg.El), (N : List ByteArray), (n : Int), (k : Int), _), _) =>
  .need (decide (n = N.length ∧ n ≤ 9223372036854775807 ∧ 0 ≤ k ∧ k ≤ n)) (.ite ((N.drop k.toNat).any fun s => decide (255 < s.size)) (.ret (.rt, ⟨39, [(2, rI 10)], []⟩)) (.ret (.ex 0, ⟨39, [(1, .e (.c (.dp (split tProg p))))], []⟩)))
def q35b : Frm := ⟨39, [(29, .dat (.sl tInst)), (30, .dat tI), (31, .dat tI)], []⟩
def R35b : q35b.V → Tr (Ex × St) := fun (((L : List (Int × Int)), (n : Int), (k : Int), _), _) =>
  .need (decide (n = L.length ∧ n ≤ 9223372036854775807 ∧ 0 ≤ k ∧ k ≤ n)) (.ite ((L.drop k.toNat).any fun i => !iMay i) (.ret (.rt, ⟨39, [(2, rI 5)], []⟩)) (.ret (.ex 2, ⟨39, [], []⟩)))
def lp35 : LP := [(0, sumP q35a R35a), (2, sumP q35b R35b)]
theorem lp35_ok : LpsOk 0 C35 [] lp35 fn35.loops := by
  refine .all (by kernel_rfl) ?_
  simp only [lp35, List.forall_mem_cons, List.not_mem_nil, false_imp_iff, implies_true, and_true]
  constructor
  · refine .pat q35a R35a (fun v => (v.1.2.2.1 - v.1.2.2.2.1).toNat) ?_
    rintro ⟨⟨⟨(pL : List (Int × Int)), (pN : List ByteArray)⟩, (N : List ByteArray), (n : Int), (k : Int), ⟨⟩⟩, ⟨⟩⟩ ih
    refine Gives.run (t' := .ite (decide (k < n)) (.need (inR k (List.length N)) (.ite (decide ((255 : Int) < (((ByteArray.size (List.getD N (Int.toNat k) ByteArray.empty)) : Nat) : Int))) (.ret (.rt, ⟨39, [(2, rI (10 : Int))], []⟩)) (.need (decide (((-(9223372036854775808 : Int) : Int) ≤ (k + (1 : Int) : Int)) ∧ ((k + (1 : Int) : Int) ≤ (9223372036854775807 : Int)))) (.ret (.nx, ⟨39, [(1, .e (.c (.dp [.sl tInst pL, .sl Ty.str pN]))), (18, rL Ty.str N), (19, rI n), (20, rI (k + (1 : Int) : Int))], []⟩))))) (.ret (.ex 0, ⟨39, [(1, .e (.c (.dp [.sl tInst pL, .sl Ty.str pN])))], []⟩))) (by kernel_rfl) ?_
    refine .rnd fun ⟨h1, h2, h3, h4⟩ => ?_
    refine .lif (fun hk => ?_) (fun hk => ?_)
    · have e : (k + 1).toNat = k.toNat + 1 := by omega
      rw [drop_at N k.toNat ByteArray.empty (by omega)]
      refine .lneed (inR_of h3 (by omega)) ?_
      refine .lif (fun hs => ?_) (fun hs => ?_)
      · exact .rtt (any_t (decide_eq_true (by omega))) (.refl _)
      · refine .rb (any_f (decide_eq_false (by omega))) ?_
        refine .lnd (by omega) ?_
        refine Gives.next (σ' := q35a.st (((pL, pN), N, n, k + 1, ()), ())) (by kernel_rfl) ((ih _ (by simp only; omega)).trans ?_)
        refine .nd (by omega) ?_
        rw [e]
        exact .refl _
    · rw [List.drop_eq_nil_of_le (by omega)]
      exact .rff rfl (.refl _)
  · refine .pat q35b R35b (fun v => (v.1.2.1 - v.1.2.2.1).toNat) ?_
    rintro ⟨⟨(L : List (Int × Int)), (n : Int), (k : Int), ⟨⟩⟩, ⟨⟩⟩ ih
    refine Gives.run (t' := .ite (decide (k < n)) (.need (inR k (List.length L)) (.need true (.need true (.ite (!(iMay (List.getD L (Int.toNat k) ((0 : Int), (0 : Int))))) (.ret (.rt, ⟨39, [(2, rI (5 : Int))], []⟩)) (.need (decide (((-(9223372036854775808 : Int) : Int) ≤ (k + (1 : Int) : Int)) ∧ ((k + (1 : Int) : Int) ≤ (9223372036854775807 : Int)))) (.ret (.nx, ⟨39, [(29, rL tInst L), (30, rI n), (31, rI (k + (1 : Int) : Int))], [(6, .cells 24 [.d (.v (.int .i64 ((List.getD L (Int.toNat k) ((0 : Int), (0 : Int)))).1)), .d (.v (.int .i64 ((List.getD L (Int.toNat k) ((0 : Int), (0 : Int)))).2))])]⟩))))))) (.ret (.ex 2, ⟨39, [], []⟩))) (by kernel_rfl) ?_
    refine .rnd fun ⟨h1, h2, h3, h4⟩ => ?_
    refine .lif (fun hk => ?_) (fun hk => ?_)
    · have e : (k + 1).toNat = k.toNat + 1 := by omega
      rw [drop_at L k.toNat (0, 0) (by omega)]
      refine .lneed (inR_of h3 (by omega)) (.lneed rfl (.lneed rfl ?_))
      refine .lite (fun hs => ?_) (fun hs => ?_)
      · exact .rtt (any_t hs) (.refl _)
      · refine .rb (any_f hs) ?_
        refine .lnd (by omega) ?_
        refine Gives.next (σ' := q35b.st ((L, n, k + 1, ()), ())) (by kernel_rfl) ((ih _ (by simp only; omega)).trans ?_)
        refine .nd (by omega) ?_
        rw [e]
        exact .refl _
    · rw [List.drop_eq_nil_of_le (by omega)]
      exact .rff rfl (.refl _)
theorem pmay_ok : CtrOk Tryd.prog 20 (ctr (one (aAgg tProg)) fun a => ans (rI (pMay a.1))) := by
  refine .mk C35_ok mixed (q := fn35) (.of Tryd.func20 (by kernel_rfl)) lp35_ok (by decide) ?_
  rintro ⟨⟨(L : List (Int × Int)), (N : List ByteArray)⟩, ⟨⟩⟩ hb
  have hN : N.length ≤ 9223372036854775807 := hb.1.2.1
  have hL : L.length ≤ 9223372036854775807 := hb.1.1.1
  refine Gives.of_eq (t' := .ite (decide ((96 : Int) < (((List.length L) : Nat) : Int))) (.ret (rI (3 : Int), ⟨0, [], []⟩)) (.ite (decide ((8 : Int) < (((List.length N) : Nat) : Int))) (.ret (rI (3 : Int), ⟨0, [], []⟩)) (.need (decide (((((List.length N) : Nat) : Int) = (((List.length N) : Nat) : Int)) ∧ (((((List.length N) : Nat) : Int) ≤ (9223372036854775807 : Int)) ∧ (((0 : Int) ≤ (0 : Int)) ∧ ((0 : Int) ≤ (((List.length N) : Nat) : Int)))))) (.ite (List.any (List.drop 0 N) (fun s => (decide (255 < (ByteArray.size s))))) (.ret (rI (10 : Int), ⟨0, [], []⟩)) (.need (decide (((((List.length L) : Nat) : Int) = (((List.length L) : Nat) : Int)) ∧ (((((List.length L) : Nat) : Int) ≤ (9223372036854775807 : Int)) ∧ (((0 : Int) ≤ (0 : Int)) ∧ ((0 : Int) ≤ (((List.length L) : Nat) : Int)))))) (.ite (List.any (List.drop 0 L) (fun i => (!(iMay i)))) (.ret (rI (5 : Int), ⟨0, [], []⟩)) (.ret (rI (0 : Int), ⟨0, [], []⟩)))))))) (by kernel_rfl) ?_
  show Gives _ (.ret (rI (pMay2 L N), St.nil))
  unfold pMay2
  refine .if_ (fun h => ?_) (fun h => ?_)
  · rw [if_pos (by omega)]; exact .refl _
  refine .if_ (fun h' => ?_) (fun h' => ?_)
  · rw [if_pos (by omega)]; exact .refl _
  rw [if_neg (by omega)]
  refine .nd (by omega) (.ite (fun h1 => ?_) (fun h1 => ?_))
  · rw [List.drop_zero] at h1; rw [if_pos h1]; exact .refl _
  rw [List.drop_zero] at h1
  rw [if_neg (by simp [h1])]
  refine .nd (by omega) (.ite (fun h2 => ?_) (fun h2 => ?_))
  · rw [List.drop_zero] at h2; rw [if_pos h2]; exact .refl _
  · rw [List.drop_zero] at h2; rw [if_neg (by simp [h2])]; exact .refl _
end Go.Proofs.YtdngaaploooceaaDoor.Sy

/- Contracts: the search of a byte, where the library has no body of its own. -/
set_option maxRecDepth 100000
namespace Go.Proofs.YtdngaaploooceaaDoor.Sy
open Go.RowKit Kit Go.Proofs

theorem run_indexByteCells {P : Program} (w : World) (ad : Addr) (c : Nat) (xs : List Int) (hc : ∀ j x, xs[j]? = some x → w.cell? (ad.add j) = some (.int .u8 x)) (cv : Int) :
    (Extern.BytealgIndexByte.indexByte #[.slice (some ad) xs.length c, .int .u8 cv]).run P w = .ok (.int .i64 (Lib.indexByte (Lib.bytesOf xs) cv.toNat.toUInt8)) w := by
  have hl := Lib.run_loadBytesX (P := P) w xs ad .empty hc
  have hs := Lib.run_indexByteString (P := P) ⟨(Lib.bytesOf xs).toArray⟩ cv w
  have he : (⟨ByteArray.empty.data ++ (Lib.bytesOf xs).toArray⟩ : ByteArray) = ⟨(Lib.bytesOf xs).toArray⟩ := by
    apply ByteArray.ext
    show (#[] : Array UInt8) ++ (Lib.bytesOf xs).toArray = (Lib.bytesOf xs).toArray
    simp
  rw [he] at hl
  change Sem.run P (do
    let b ← Extern.Bytes.bytesOf (.slice (some ad) xs.length c)
    let c ← Extern.Bytes.asByte (.int .u8 cv)
    match (List.range b.size).find? fun i => b[i]! == c with
    | some i => pure (goInt i)
    | none => pure (goInt (-1))) w = _
  change Sem.run P (do
    let b ← Extern.Bytes.bytesOf (.string ⟨(Lib.bytesOf xs).toArray⟩)
    let c ← Extern.Bytes.asByte (.int .u8 cv)
    match (List.range b.size).find? fun i => b[i]! == c with
    | some i => pure (goInt i)
    | none => pure (goInt (-1))) w = _ at hs
  simp only [Extern.Bytes.bytesOf, Sem.run_bind, Sem.run_pure, hl, Result.andThen] at hs ⊢
  exact hs
def idxS (s : ByteArray) (c : Int) : Int := Lib.indexByte s.data.toList c.toNat.toUInt8
def idxB (l : List Int) (c : Int) : Int := Lib.indexByte (Lib.bytesOf l) c.toNat.toUInt8
abbrev aU : Arg Int := aVal tU
theorem Entered.of {P : Program} {f : Nat} {fn : Func} (h : P.funcs[f]? = some fn) (h2 : fnOk fn = true) : Entered P f := by
  obtain ⟨fn, c, h1, h2, h3, _⟩ := (Is.of h h2).out
  exact ⟨fn, c, h1, h2, h3⟩
set_option maxHeartbeats 1000000 in
theorem idxS_calls (s : ByteArray) (c : Int) (w : World) :
    Calls Tryd.prog 58 #[.string s, .int .u8 c] w fun e w' => e = .returned (.int .i64 (idxS s c)) ∧ w' = w := by
  go_enter Tryd.func58, Tryd.ntmps58
  go_wp2
  rw [run_callFunc_extern Tryd.func73 (by kernel_rfl) (by kernel_rfl) (by kernel_rfl) (e := Extern.BytealgIndexByte.indexByte) (by kernel_rfl), Lib.run_indexByteString]
  simp only [Result.andThen]
  rw [Oper.upon_value]
  go_wp2
  go_ret
  exact ⟨rfl, rfl⟩
set_option maxHeartbeats 1000000 in
theorem idxB_calls (v : Value) (n : Int) (c : Int) (w : World) (h : (Extern.BytealgIndexByte.indexByte #[v, .int .u8 c]).run Tryd.prog w = .ok (.int .i64 n) w) :
    Calls Tryd.prog 68 #[v, .int .u8 c] w fun e w' => e = .returned (.int .i64 n) ∧ w' = w := by
  go_enter Tryd.func68, Tryd.ntmps68
  go_wp2
  rw [run_callFunc_extern Tryd.func83 (by kernel_rfl) (by kernel_rfl) (by kernel_rfl) (e := Extern.BytealgIndexByte.indexByte) (by kernel_rfl), h]
  simp only [Result.andThen]
  rw [Oper.upon_value]
  go_wp2
  go_ret
  exact ⟨rfl, rfl⟩
theorem idxS_ok : CtrOk Tryd.prog 58 (ctr (two aS aU) fun a => ans (rI (idxS a.1 a.2.1))) := by
  refine .plain (F := fun (a : ByteArray × Int × Unit) => rI (idxS a.1 a.2.1)) (.of Tryd.func58 (by kernel_rfl)) fun b M β vs a hrel hs _ => ?_
  obtain ⟨s, c, ⟨⟩⟩ := a
  cases hs with
  | cons h1 h2 =>
    cases h2 with
    | cons h2 h3 =>
      cases h3
      cases (show DR M (.v (.string s)) _ from h1)
      cases (show DR M (.v (.int .u8 c)) _ from h2)
      exact ⟨_, SVR.of rfl, idxS_calls s c _⟩
theorem idxB_ok : CtrOk Tryd.prog 68 (ctr (two (aVal tB) aU) fun a => ans (rI (idxB a.1 a.2.1))) := by
  refine .plain (F := fun (a : List Int × Int × Unit) => rI (idxB a.1 a.2.1)) (.of Tryd.func68 (by kernel_rfl)) fun b M β vs a hrel hs _ => ?_
  obtain ⟨l, c, ⟨⟩⟩ := a
  cases hs with
  | @cons _ u _ _ h1 h2 =>
    cases h2 with
    | cons h2 h3 =>
      cases h3
      have h1 : DR M (.sl tU l) u := h1
      cases (show DR M (.v (.int .u8 c)) _ from h2)
      obtain ⟨A, n, k, rfl⟩ := h1.slice
      obtain ⟨rfl, _, _, xs, hf, hA⟩ := Flat.of_dr h1
      have hxs := flat_bytes hf
      refine ⟨_, SVR.of rfl, idxB_calls _ _ _ _ ?_⟩
      by_cases hne : l = []
      · subst hne
        cases A with
        | none => exact Lib.run_indexByteNil _ _ _ _
        | some ad => exact run_indexByteCells _ ad k [] (fun j x hj => by simp at hj) c
      · obtain ⟨ad, rfl, hc⟩ := hA hne
        refine run_indexByteCells _ ad k l (fun j x hj => ?_) c
        refine Snap.cell_world hrel.snap (hc j _ ?_)
        rw [hxs]; simp [hj]
end Go.Proofs.YtdngaaploooceaaDoor.Sy

/- Contracts: sums, digits, noughts. -/
set_option maxRecDepth 100000
namespace Go.Proofs.YtdngaaploooceaaDoor.Sy
open Go.RowKit Kit Go.Proofs

def u8 (x : Int) : Bool := decide (0 ≤ x ∧ x ≤ 255)
def u8s (l : List Int) : Bool := l.all u8
theorem u8_iff {x : Int} : u8 x = true ↔ 0 ≤ x ∧ x ≤ 255 := by simp [u8]
theorem u8s_at {l : List Int} (h : u8s l = true) (k : Nat) : 0 ≤ l.getD k 0 ∧ l.getD k 0 ≤ 255 := by
  by_cases hk : k < l.length
  · have := List.all_eq_true.1 h _ (List.getElem_mem hk)
    rw [List.getD_eq_getElem?_getD, List.getElem?_eq_getElem hk]
    exact u8_iff.1 this
  · rw [List.getD_eq_getElem?_getD, List.getElem?_eq_none (by omega)]; simp

/-! ### tar.Sum -/
def sumF : Nat → List Int → Int
  | _, [] => 0
  | k, x :: r => (if 148 ≤ k ∧ k < 156 then 32 else x) + sumF (k + 1) r
noncomputable def fn63 := mkFn Tryd.f32
def q63 : Frm := ⟨25, [(3, .dat tI), (6, .dat tB), (7, .dat tI), (8, .dat tI)], []⟩
def R63 : q63.V → Tr (Ex × St) := fun (((n : Int), (l : List Int), (m : Int), (k : Int), _), _) =>
  .need (decide (m = l.length ∧ m ≤ 1000000000000 ∧ 0 ≤ k ∧ k ≤ m ∧ 0 ≤ n ∧ n ≤ 255 * k ∧ u8s l = true)) (.ret (.ex 0, ⟨25, [(3, rI (n + sumF k.toNat (l.drop k.toNat)))], []⟩))
def lp63 : LP := [(0, sumP q63 R63)]
theorem lp63_ok : LpsOk 0 C0 [] lp63 fn63.loops := by
  refine .all (by kernel_rfl) ?_
  simp only [lp63, List.forall_mem_cons, List.not_mem_nil, false_imp_iff, implies_true, and_true]
  refine .pat q63 R63 (fun v => (v.1.2.2.1 - v.1.2.2.2.1).toNat) ?_
  rintro ⟨⟨(n : Int), (l : List Int), (m : Int), (k : Int), ⟨⟩⟩, ⟨⟩⟩ ih
  refine Gives.run (t' := .ite (decide (k < m)) (.need (inR k (List.length l)) (.ite (decide ((148 : Int) ≤ k)) (.ite (decide (k < (156 : Int))) (.need (decide (((-(9223372036854775808 : Int) : Int) ≤ (n + (IntKind.wrap IntKind.i64 (32 : Int)) : Int)) ∧ ((n + (IntKind.wrap IntKind.i64 (32 : Int)) : Int) ≤ (9223372036854775807 : Int)))) (.need (decide (((-(9223372036854775808 : Int) : Int) ≤ (k + (1 : Int) : Int)) ∧ ((k + (1 : Int) : Int) ≤ (9223372036854775807 : Int)))) (.ret (.nx, ⟨25, [(3, rI (n + (IntKind.wrap IntKind.i64 (32 : Int)) : Int)), (6, rL tU l), (7, rI m), (8, rI (k + (1 : Int) : Int))], []⟩)))) (.need (decide (((-(9223372036854775808 : Int) : Int) ≤ (n + (IntKind.wrap IntKind.i64 (List.getD l (Int.toNat k) (0 : Int))) : Int)) ∧ ((n + (IntKind.wrap IntKind.i64 (List.getD l (Int.toNat k) (0 : Int))) : Int) ≤ (9223372036854775807 : Int)))) (.need (decide (((-(9223372036854775808 : Int) : Int) ≤ (k + (1 : Int) : Int)) ∧ ((k + (1 : Int) : Int) ≤ (9223372036854775807 : Int)))) (.ret (.nx, ⟨25, [(3, rI (n + (IntKind.wrap IntKind.i64 (List.getD l (Int.toNat k) (0 : Int))) : Int)), (6, rL tU l), (7, rI m), (8, rI (k + (1 : Int) : Int))], []⟩))))) (.need (decide (((-(9223372036854775808 : Int) : Int) ≤ (n + (IntKind.wrap IntKind.i64 (List.getD l (Int.toNat k) (0 : Int))) : Int)) ∧ ((n + (IntKind.wrap IntKind.i64 (List.getD l (Int.toNat k) (0 : Int))) : Int) ≤ (9223372036854775807 : Int)))) (.need (decide (((-(9223372036854775808 : Int) : Int) ≤ (k + (1 : Int) : Int)) ∧ ((k + (1 : Int) : Int) ≤ (9223372036854775807 : Int)))) (.ret (.nx, ⟨25, [(3, rI (n + (IntKind.wrap IntKind.i64 (List.getD l (Int.toNat k) (0 : Int))) : Int)), (6, rL tU l), (7, rI m), (8, rI (k + (1 : Int) : Int))], []⟩)))))) (.ret (.ex 0, ⟨25, [(3, rI n)], []⟩))) (by kernel_rfl) ?_
  refine .rnd fun ⟨h1, h2, h3, h4, h5, h6, h7⟩ => ?_
  refine .lif (fun hk => ?_) (fun hk => ?_)
  · have e : (k + 1).toNat = k.toNat + 1 := by omega
    have hx := u8s_at h7 k.toNat
    rw [drop_at l k.toNat 0 (by omega)]
    refine .lneed (inR_of h3 (by omega)) ?_
    generalize l.getD k.toNat 0 = x at hx ⊢
    have go : ∀ y : Int, 0 ≤ y → y ≤ 255 → (if 148 ≤ k.toNat ∧ k.toNat < 156 then 32 else x) = y → Gives
        ((Tr.need (decide (((-9223372036854775808 : Int) ≤ n + y) ∧ (n + y ≤ (9223372036854775807 : Int))))
            (Tr.need (decide (((-9223372036854775808 : Int) ≤ k + 1) ∧ (k + 1 ≤ (9223372036854775807 : Int))))
              (.ret (Ex.nx, ⟨25, [(3, rI (n + y)), (6, rL tU l), (7, rI m), (8, rI (k + 1))], []⟩)))).bind (again (m - k).toNat ((fn63.at 0).f 0 C0 [] lp63) ((fn63.at 0).h [])))
        (.ret (.ex 0, ⟨25, [(3, rI (n + sumF k.toNat (x :: l.drop (k.toNat + 1))))], []⟩)) := by
      intro y hy0 hy hxy
      refine .lnd (by omega) (.lnd (by omega) ?_)
      refine Gives.next (σ' := q63.st ((n + y, l, m, k + 1, ()), ())) (by kernel_rfl) ((ih ((n + y, l, m, k + 1, ()), ()) (by simp only; omega)).trans ?_)
      refine .nd ⟨h1, h2, by omega, by omega, by omega, by omega, h7⟩ ?_
      rw [e]
      simp only [sumF, hxy, Int.add_assoc]
      exact .refl _
    refine .lif (fun ha => ?_) (fun ha => ?_)
    · refine .lif (fun hb => ?_) (fun hb => ?_)
      · have e1 : (if 148 ≤ k.toNat ∧ k.toNat < 156 then 32 else x) = 32 := if_pos (by omega)
        exact go 32 (by decide) (by decide) e1
      · rw [wrap_i64 (n := x) (by omega)]
        exact go _ hx.1 hx.2 (if_neg (by omega))
    · rw [wrap_i64 (n := x) (by omega)]
      exact go _ hx.1 hx.2 (if_neg (by omega))
  · rw [List.drop_eq_nil_of_le (by omega)]
    simp only [sumF, Int.add_zero]
    exact .refl _
theorem sum_ok : CtrOk Tryd.prog 32 (ctr (one (aVal tB)) fun a => .need (decide (a.1.length ≤ 1000000000000 ∧ u8s a.1 = true)) (ans (rI (sumF 0 a.1)))) := by
  refine .mk C0_ok mixed (q := fn63) (.of Tryd.func32 (by kernel_rfl)) lp63_ok (by decide) ?_
  rintro ⟨(l : List Int), ⟨⟩⟩ hb
  refine Gives.of_eq (t' := .need (decide (((((List.length l) : Nat) : Int) = (((List.length l) : Nat) : Int)) ∧ (((((List.length l) : Nat) : Int) ≤ (1000000000000 : Int)) ∧ (((0 : Int) ≤ (0 : Int)) ∧ (((0 : Int) ≤ (((List.length l) : Nat) : Int)) ∧ (((0 : Int) ≤ (0 : Int)) ∧ (((0 : Int) ≤ ((255 : Int) * (0 : Int) : Int)) ∧ ((u8s l) = true)))))))) (.ret (rI ((0 : Int) + (sumF 0 (List.drop 0 l)) : Int), ⟨0, [], []⟩))) (by kernel_rfl) ?_
  show Gives _ (.need _ (.ret (rI (sumF 0 l), St.nil)))
  refine .rnd fun ⟨h1, h2⟩ => by
    have h1 : l.length ≤ 1000000000000 := h1
    refine .nd ⟨rfl, by omega, by omega, by omega, by omega, by omega, h2⟩ ?_
    rw [List.drop_zero, Int.zero_add]; exact .refl _

/-! ### tar.octal -/
noncomputable def fn62 := mkFn Tryd.f31
def q62 : Frm := ⟨30, [(0, .dat tI), (1, .dat tI), (5, .row 9), (10, .dat tI), (11, .dat tI)], [(9, .row tU 5)]⟩
/-- digit k of a number, as it is written -/
def octV (n k : Int) : Int := IntKind.wrap .u8 (48 + IntKind.wrap .u8 (IntKind.wrap .i64 (((BitVec.toNat (BitVec.ofInt (IntKind.bits .i64) (Int.fdiv n ((2 : Int) ^ (min (Int.toNat (IntKind.wrap .u64 (3 * k))) (IntKind.bits .i64)))) &&& BitVec.ofInt (IntKind.bits .i64) 7)) : Nat) : Int)))
def octR (n d : Int) : Nat → Int → List Int → List Int
  | 0, _, b => b
  | s + 1, k, b => octR n d s (k + 1) (b.set (d - 1 - k).toNat (octV n k))
def octal (n d : Int) : List Int := octR n d d.toNat 0 (List.replicate (d + 1).toNat 0)
def R62 : q62.V → Tr (Ex × St) := fun (((n : Int), (d : Int), _, (m : Int), (k : Int), _), (b : List Int), _) =>
  .need (decide (m = d ∧ d ≤ 100 ∧ 0 ≤ k ∧ k ≤ d ∧ (b.length : Int) = d + 1)) (.ret (.ex 0, ⟨30, [(5, .e (.c (.row 9)))], [(9, .row tU 5 (octR n d (d - k).toNat k b))]⟩))
def lp62 : LP := [(0, sumP q62 R62)]
theorem wrap_u64 {n : Int} (h : 0 ≤ n ∧ n < 18446744073709551616) : IntKind.wrap .u64 n = n := by
  have e : IntKind.wrap .u64 n = n % 18446744073709551616 := by simp [IntKind.wrap, IntKind.bits, IntKind.signed]
  omega
theorem lp62_ok : LpsOk 0 C0 [] lp62 fn62.loops := by
  refine .all (by kernel_rfl) ?_
  simp only [lp62, List.forall_mem_cons, List.not_mem_nil, false_imp_iff, implies_true, and_true]
  refine .pat q62 R62 (fun v => (v.1.2.2.2.1 - v.1.2.2.2.2.1).toNat) ?_
  rintro ⟨⟨(n : Int), (d : Int), ⟨⟩, (m : Int), (k : Int), ⟨⟩⟩, ⟨(b : List Int), ⟨⟩⟩⟩ ih
  refine Gives.run (t' := .ite (decide (k < m)) (.need (decide (((-(9223372036854775808 : Int) : Int) ≤ (d - (1 : Int) : Int)) ∧ ((d - (1 : Int) : Int) ≤ (9223372036854775807 : Int)))) (.need (decide (((-(9223372036854775808 : Int) : Int) ≤ ((d - (1 : Int) : Int) - k : Int)) ∧ (((d - (1 : Int) : Int) - k : Int) ≤ (9223372036854775807 : Int)))) (.need (decide (((-(9223372036854775808 : Int) : Int) ≤ ((3 : Int) * k : Int)) ∧ (((3 : Int) * k : Int) ≤ (9223372036854775807 : Int)))) (.need (decide ((0 : Int) ≤ (IntKind.wrap IntKind.u64 ((3 : Int) * k : Int)))) (.need (inR ((d - (1 : Int) : Int) - k : Int) (List.length b)) (.need (decide ((Int.toNat ((d - (1 : Int) : Int) - k : Int)) < (List.length b))) (.need (decide (((-(9223372036854775808 : Int) : Int) ≤ (k + (1 : Int) : Int)) ∧ ((k + (1 : Int) : Int) ≤ (9223372036854775807 : Int)))) (.ret (.nx, ⟨30, [(0, rI n), (1, rI d), (5, .e (.c (.row 9))), (10, rI m), (11, rI (k + (1 : Int) : Int))], [(9, .row tU 5 (List.set b (Int.toNat ((d - (1 : Int) : Int) - k : Int)) (IntKind.wrap IntKind.u8 ((48 : Int) + (IntKind.wrap IntKind.u8 (IntKind.wrap IntKind.i64 (((BitVec.toNat (HAnd.hAnd (BitVec.ofInt (IntKind.bits IntKind.i64) (Int.fdiv n ((2 : Int) ^ (Min.min (Int.toNat (IntKind.wrap IntKind.u64 ((3 : Int) * k : Int))) (IntKind.bits IntKind.i64)) : Int))) (BitVec.ofInt (IntKind.bits IntKind.i64) (7 : Int)))) : Nat) : Int))) : Int))))]⟩))))))))) (.ret (.ex 0, ⟨30, [(5, .e (.c (.row 9)))], [(9, .row tU 5 b)]⟩))) (by kernel_rfl) ?_
  refine .rnd fun ⟨h1, h2, h3, h4, h5⟩ => ?_
  refine .lif (fun hk => ?_) (fun hk => ?_)
  · have e : (d - k).toNat = (d - (k + 1)).toNat + 1 := by omega
    rw [e, octR]
    refine .lnd (by omega) (.lnd (by omega) (.lnd (by omega) (.lnd (by rw [wrap_u64 (by omega)]; omega) (.lneed (inR_of (by omega) (by omega)) (.lnd (by omega) (.lnd (by omega) ?_))))))
    refine Gives.next (σ' := q62.st ((n, d, (), m, k + 1, ()), (b.set (d - 1 - k).toNat (octV n k), ()))) (by kernel_rfl) ((ih ((n, d, (), m, k + 1, ()), (b.set (d - 1 - k).toNat (octV n k), ())) (by simp only; omega)).trans ?_)
    exact .nd ⟨h1, h2, by omega, by omega, by rw [List.length_set]; exact h5⟩ (.refl _)
  · rw [show (d - k).toNat = 0 by omega]
    exact .refl _
theorem octal_ok : CtrOk Tryd.prog 31 (ctr (two aI aI) fun a => .need (decide (0 ≤ a.2.1 ∧ a.2.1 ≤ 100)) (.ret (.e (.c (.row 9)), [(9, .row tU 5 (octal a.1 a.2.1))]))) := by
  refine .mk C0_ok mixed (q := fn62) (.of Tryd.func31 (by kernel_rfl)) lp62_ok (by decide) ?_
  rintro ⟨(n : Int), (d : Int), ⟨⟩⟩ hb
  refine Gives.of_eq (t' := .need (decide (((-(9223372036854775808 : Int) : Int) ≤ (d + (1 : Int) : Int)) ∧ ((d + (1 : Int) : Int) ≤ (9223372036854775807 : Int)))) (.need (decide (((0 : Int) ≤ (d + (1 : Int) : Int)) ∧ (((d + (1 : Int) : Int) = (d + (1 : Int) : Int)) ∧ (((((Lay.bytes L5) : Nat) : Int) * (d + (1 : Int) : Int) : Int) ≤ (281474976710656 : Int))))) (.need (decide ((d = d) ∧ ((d ≤ (100 : Int)) ∧ (((0 : Int) ≤ (0 : Int)) ∧ (((0 : Int) ≤ d) ∧ ((((List.length (List.replicate (Int.toNat (d + (1 : Int) : Int)) (0 : Int))) : Nat) : Int) = (d + (1 : Int) : Int))))))) (.ret (.e (.c (.row 9)), ⟨0, [], [(9, .row tU 5 (octR n d (Int.toNat (d - (0 : Int) : Int)) (0 : Int) (List.replicate (Int.toNat (d + (1 : Int) : Int)) (0 : Int))))]⟩))))) (by kernel_rfl) ?_
  show Gives _ (.need _ (.ret (SV.e (.c (.row 9)), (⟨0, [], [(9, .row tU 5 (octal n d))]⟩ : St))))
  refine .rnd fun ⟨h1, h2⟩ => ?_
  have h1 : 0 ≤ d := h1
  have h2 : d ≤ 100 := h2
  refine .nd (by omega) (.nd ⟨by omega, rfl, by show ((1 : Nat) : Int) * (d + 1) ≤ _; omega⟩ (.nd ⟨rfl, h2, by omega, h1, by rw [List.length_replicate]; omega⟩ ?_))
  rw [show d - 0 = d by omega]
  exact .refl _

/-! ### bytes.trimLeftByte, trimRightByte -/
noncomputable def fn81 := mkFn Tryd.f46
def q81 : Frm := ⟨21, [(0, .dat tB), (1, .dat tU)], []⟩
def trimL (c : Int) : List Int → List Int
  | [] => []
  | x :: r => if x == c then trimL c r else x :: r
def R81 : q81.V → Tr (Ex × St) := fun (((l : List Int), (c : Int), _), _) => .ret (.ex 0, ⟨21, [(0, rL tU (trimL c l))], []⟩)
def lp81 : LP := [(0, sumP q81 R81)]
theorem lp81_ok : LpsOk 0 C0 [] lp81 fn81.loops := by
  refine .all (by kernel_rfl) ?_
  simp only [lp81, List.forall_mem_cons, List.not_mem_nil, false_imp_iff, implies_true, and_true]
  refine .pat q81 R81 (fun v => v.1.1.length) ?_
  rintro ⟨⟨(l : List Int), (c : Int), ⟨⟩⟩, ⟨⟩⟩ ih
  refine Gives.run (t' := .ite (decide ((0 : Int) < (((List.length l) : Nat) : Int))) (.need (inR (0 : Int) (List.length l)) (.ite ((List.getD l 0 (0 : Int)) == c) (.need (okB (1 : Int) (((List.length l) : Nat) : Int) (List.length l)) (.ret (.nx, ⟨21, [(0, rL tU (List.drop 1 (List.take (List.length l) l))), (1, rU c)], []⟩))) (.ret (.ex 0, ⟨21, [(0, rL tU l)], []⟩)))) (.ret (.ex 0, ⟨21, [(0, rL tU l)], []⟩))) (by kernel_rfl) ?_
  show Gives _ (Tr.ret (Ex.ex 0, (⟨21, [(0, rL tU (trimL c l))], []⟩ : St)))
  cases l with
  | nil => exact .lif (fun h => absurd h (by simp)) (fun _ => .refl _)
  | cons x r =>
    refine .lif (fun _ => ?_) (fun h => absurd (by simp) h)
    refine .lneed (inR_of (by omega) (by simp)) ?_
    refine .lite (fun hx => ?_) (fun hx => ?_)
    · have hx : (x == c) = true := hx
      rw [trimL, if_pos hx]
      refine .lneed (by simp [okB]; omega) ?_
      exact Gives.next (σ' := q81.st ((r, c, ()), ())) (by rw [List.take_length]; kernel_rfl) (ih ((r, c, ()), ()) (Nat.lt_succ_self _))
    · rw [trimL, if_neg (by rw [show (x == c) = false from hx]; exact Bool.false_ne_true)]
      exact .refl _
abbrev slN (l : List Int) : Ans := .ite l.isEmpty (.ret (.e (.c .nil), [])) (.ret (rL tU l, []))
theorem slN_gives (l : List Int) : Gives (.ite (((l.length : Nat) : Int) == (0 : Int)) (.ret ((.e (.c .nil) : SV), (⟨0, [], []⟩ : St))) (.ret (rL tU l, ⟨0, [], []⟩))) ((slN l).bind fun r => .ret (r.1, ⟨0, [], r.2⟩)) := by
  cases l with
  | nil => exact .tt rfl (.rtt rfl (.refl _))
  | cons x r => exact .ff (by simp; omega) (.rff rfl (.refl _))
theorem trimL_ok : CtrOk Tryd.prog 46 (ctr (two (aVal tB) aU) fun a => slN (trimL a.2.1 a.1)) := by
  refine .mk C0_ok mixed (q := fn81) (.of Tryd.func46 (by kernel_rfl)) lp81_ok (by decide) ?_
  rintro ⟨(l : List Int), (c : Int), ⟨⟩⟩ hb
  refine Gives.of_eq (t' := .ite ((((List.length (trimL c l)) : Nat) : Int) == (0 : Int)) (.ret (.e (.c (.nil)), ⟨0, [], []⟩)) (.ret (rL tU (trimL c l), ⟨0, [], []⟩))) (by kernel_rfl) ?_
  exact slN_gives _
noncomputable def fn82 := mkFn Tryd.f47
def q82 : Frm := ⟨24, [(0, .dat tB), (1, .dat tU)], []⟩
def trimR (c : Int) (l : List Int) : List Int := (trimL c l.reverse).reverse
theorem last_split (l : List Int) (h : l ≠ []) : l = l.take (l.length - 1) ++ [l.getD (l.length - 1) 0] := by
  have hl : 0 < l.length := List.length_pos_iff.2 h
  conv => lhs; rw [← List.take_append_drop (l.length - 1) l]
  rw [drop_at l (l.length - 1) 0 (by omega), List.drop_eq_nil_of_le (by omega)]
def R82 : q82.V → Tr (Ex × St) := fun (((l : List Int), (c : Int), _), _) => .need (decide (l.length ≤ 9223372036854775807)) (.ret (.ex 0, ⟨24, [(0, rL tU (trimR c l))], []⟩))
def lp82 : LP := [(0, sumP q82 R82)]
theorem lp82_ok : LpsOk 0 C0 [] lp82 fn82.loops := by
  refine .all (by kernel_rfl) ?_
  simp only [lp82, List.forall_mem_cons, List.not_mem_nil, false_imp_iff, implies_true, and_true]
  refine .pat q82 R82 (fun v => v.1.1.length) ?_
  rintro ⟨⟨(l : List Int), (c : Int), ⟨⟩⟩, ⟨⟩⟩ ih
  refine Gives.run (t' := .ite (decide ((0 : Int) < (((List.length l) : Nat) : Int))) (.need (decide (((-(9223372036854775808 : Int) : Int) ≤ ((((List.length l) : Nat) : Int) - (1 : Int) : Int)) ∧ (((((List.length l) : Nat) : Int) - (1 : Int) : Int) ≤ (9223372036854775807 : Int)))) (.need (inR ((((List.length l) : Nat) : Int) - (1 : Int) : Int) (List.length l)) (.ite ((List.getD l (Int.toNat ((((List.length l) : Nat) : Int) - (1 : Int) : Int)) (0 : Int)) == c) (.need (decide (((-(9223372036854775808 : Int) : Int) ≤ ((((List.length l) : Nat) : Int) - (1 : Int) : Int)) ∧ (((((List.length l) : Nat) : Int) - (1 : Int) : Int) ≤ (9223372036854775807 : Int)))) (.need (okB (0 : Int) ((((List.length l) : Nat) : Int) - (1 : Int) : Int) (List.length l)) (.ret (.nx, ⟨24, [(0, rL tU (List.drop 0 (List.take (Int.toNat ((((List.length l) : Nat) : Int) - (1 : Int) : Int)) l))), (1, rU c)], []⟩)))) (.ret (.ex 0, ⟨24, [(0, rL tU l)], []⟩))))) (.ret (.ex 0, ⟨24, [(0, rL tU l)], []⟩))) (by kernel_rfl) ?_
  refine .rnd fun h1 => ?_
  show Gives _ (Tr.ret (Ex.ex 0, (⟨24, [(0, rL tU (trimR c l))], []⟩ : St)))
  by_cases hl : l = []
  · subst hl
    exact .lif (fun h => absurd h (by simp)) (fun _ => .refl _)
  · have hp := List.length_pos_iff.2 hl
    refine .lif (fun _ => ?_) (fun h => absurd (by omega) h)
    refine .lnd (by omega) (.lneed (inR_of (by omega) (by omega)) ?_)
    have e : ((l.length : Int) - 1).toNat = l.length - 1 := by omega
    rw [e]
    have hs : trimR c l = if (l.getD (l.length - 1) 0) == c then trimR c (l.take (l.length - 1)) else l := by
      conv => lhs; rw [last_split l hl]
      unfold trimR
      rw [List.reverse_append, List.reverse_singleton, List.singleton_append, trimL]
      split
      · rfl
      · rw [List.reverse_cons, List.reverse_reverse, ← last_split l hl]
    rw [hs]
    refine .lite (fun hx => ?_) (fun hx => ?_)
    · rw [if_pos hx]
      refine .lnd (by omega) (.lneed (by simp [okB]; omega) ?_)
      refine Gives.next (σ' := q82.st ((l.take (l.length - 1), c, ()), ())) (by rw [List.drop_zero]; kernel_rfl) ((ih ((l.take (l.length - 1), c, ()), ()) (by show (l.take (l.length - 1)).length < l.length; rw [List.length_take]; omega)).trans ?_)
      exact .nd (by rw [List.length_take]; omega) (.refl _)
    · rw [if_neg (by rw [show (l.getD (l.length - 1) 0 == c) = false from hx]; exact Bool.false_ne_true)]
      exact .refl _
theorem trimR_ok : CtrOk Tryd.prog 47 (ctr (two (aVal tB) aU) fun a => ans (rL tU (trimR a.2.1 a.1))) := by
  refine .mk C0_ok mixed (q := fn82) (.of Tryd.func47 (by kernel_rfl)) lp82_ok (by decide) ?_
  rintro ⟨(l : List Int), (c : Int), ⟨⟩⟩ hb
  have h1 : l.length ≤ 9223372036854775807 := hb.1.1
  refine Gives.of_eq (t' := .need (decide ((List.length l) ≤ 9223372036854775807)) (.ret (rL tU (trimR c l), ⟨0, [], []⟩))) (by kernel_rfl) ?_
  exact .nd h1 (.refl _)

end Go.Proofs.YtdngaaploooceaaDoor.Sy

/- Contracts: bytes.Clone. -/
set_option maxRecDepth 100000
namespace Go.Proofs.YtdngaaploooceaaDoor.Sy
open Go.RowKit Kit Go.Proofs
noncomputable def fn70 := mkFn Tryd.f35
def C70 : Cx := ⟨T, [], [], [], [5, FA]⟩
theorem C70_ok : CxOk Tryd.prog C70 := ⟨T_ok, .nil _, .nil _, .nil _⟩
theorem clone_ok : CtrOk Tryd.prog 35 (ctr (one (aVal tB)) fun a => .need (decide (a.1.length ≤ 140737488355328)) (ans (rL tU a.1))) := by
  refine .words (F := ctr (one (aVal tB)) fun a => .need (decide (a.1.length ≤ 140737488355328)) (.ite a.1.isEmpty (.both (ans (.e (.c .nil))) (ans (rL tU a.1))) (ans (rL tU a.1)))) ?_ fun xs τ K hk => ?_
  · refine .mk C70_ok mixed (q := fn70) (.of Tryd.func35 (by kernel_rfl)) (N := 0) (nr := []) .none (by decide) ?_
    rintro ⟨(l : List Int), ⟨⟩⟩ hb
    refine Gives.of_eq (t' := .ite (List.isEmpty l) (.both (.ite true (.ret (.e (.c (.nil)), ⟨0, [], []⟩)) (.need true (.need (decide ((((List.length ([] : List Int)) + (List.length l) : Nat) * (Lay.bytes L5) : Nat) ≤ 140737488355328)) (.ret (rL (Ty.int IntKind.u8) (([] : List Int) ++ l), ⟨0, [], []⟩))))) (.ite false (.ret (.e (.c (.nil)), ⟨0, [], []⟩)) (.need true (.need (decide ((((List.length ([] : List Int)) + (List.length l) : Nat) * (Lay.bytes L5) : Nat) ≤ 140737488355328)) (.ret (rL (Ty.int IntKind.u8) (([] : List Int) ++ l), ⟨0, [], []⟩)))))) (.ite false (.ret (.e (.c (.nil)), ⟨0, [], []⟩)) (.need true (.need (decide ((((List.length ([] : List Int)) + (List.length l) : Nat) * (Lay.bytes L5) : Nat) ≤ 140737488355328)) (.ret (rL (Ty.int IntKind.u8) (([] : List Int) ++ l), ⟨0, [], []⟩)))))) (by kernel_rfl) ?_
    refine .rnd fun h1 => ?_
    have h1 : l.length ≤ 140737488355328 := h1
    have hb1 : (([] : List Int).length + l.length) * L5.bytes ≤ 140737488355328 := by show (0 + l.length) * 1 ≤ _; omega
    refine .ites (fun _ => .boths ?_ ?_) (fun _ => ?_)
    · exact .tt rfl (.refl _)
    · exact .ff rfl (.need rfl (.nd hb1 (.refl _)))
    · exact .ff rfl (.need rfl (.nd hb1 (.refl _)))
  · obtain ⟨tn, te, to⟩ := τ
    unfold ctr at hk ⊢
    cases te with
    | cons => exact hk.elim
    | nil =>
      cases to with
      | cons => exact hk.elim
      | nil =>
        cases e : (one (aVal tB)).de xs with
        | none => simp only [e] at hk; exact hk.elim
        | some a =>
          simp only [e] at hk ⊢
          obtain ⟨(l : List Int), ⟨⟩⟩ := a
          by_cases hl : l.length ≤ 140737488355328
          · have hk' : K (rL tU l, ⟨0, [], []⟩) := hk.1 (decide_eq_true hl)
            refine ⟨fun _ => ⟨fun hem => ⟨?_, ?_⟩, fun _ => ?_⟩, fun h' => absurd (decide_eq_true hl) (by rw [h']; simp)⟩
            · refine ⟨rL tU l, hk', fun M β v hv => ?_⟩
              have : l = [] := List.isEmpty_iff.1 hem
              subst this
              have hv : v = .slice none 0 0 := hv
              subst hv
              exact DR.nil tU
            · exact ⟨_, hk', fun _ _ _ h => h⟩
            · exact ⟨_, hk', fun _ _ _ h => h⟩
          · exact (hk.2 (decide_eq_false hl)).elim
end Go.Proofs.YtdngaaploooceaaDoor.Sy

/- Contracts: bytes.Equal. -/
set_option maxRecDepth 100000
namespace Go.Proofs.YtdngaaploooceaaDoor.Sy
open Go.RowKit Kit Go.Proofs
theorem txt_inj : ∀ {l m : List Int}, u8s l = true → u8s m = true → ((l.map fun n => UInt8.ofNat n.toNat) = m.map fun n => UInt8.ofNat n.toNat) → l = m
  | [], [], _, _, _ => rfl
  | [], _ :: _, _, _, h => by simp at h
  | _ :: _, [], _, _, h => by simp at h
  | x :: l, y :: m, hl, hm, h => by
    simp only [u8s, List.all_cons, Bool.and_eq_true] at hl hm
    simp only [List.map_cons, List.cons.injEq] at h
    have hx := u8_iff.1 hl.1
    have hy := u8_iff.1 hm.1
    have e := congrArg UInt8.toNat h.1
    rw [UInt8.toNat_ofNat', UInt8.toNat_ofNat'] at e
    have : x = y := by omega
    rw [this, txt_inj hl.2 hm.2 h.2]
theorem txt_eq {l m : List Int} (hl : u8s l = true) (hm : u8s m = true) : (txt l = txt m) ↔ l = m := by
  refine ⟨fun h => txt_inj hl hm ?_, fun h => by rw [h]⟩
  have := congrArg (fun s : ByteArray => s.data.toList) h
  simpa [txt, strOfNums] using this
noncomputable def fn31 := mkFn Tryd.f16
theorem equal_ok : CtrOk Tryd.prog 16 (ctr (two (aVal tB) (aVal tB)) fun a => .need (u8s a.1 && u8s a.2.1) (ans (rB (a.1 == a.2.1)))) := by
  refine .mk C0_ok mixed (q := fn31) (.of Tryd.func16 (by kernel_rfl)) (N := 0) (nr := []) .none (by decide) ?_
  rintro ⟨(l : List Int), (m : List Int), ⟨⟩⟩ hb
  refine Gives.of_eq (t' := .need true (.need true (.ret (rB (decide ((txt l) = (txt m))), ⟨0, [], []⟩)))) (by kernel_rfl) ?_
  refine .rneed fun h => ?_
  simp only [Bool.and_eq_true] at h
  have e : decide (txt l = txt m) = (l == m) := by
    rw [Bool.eq_iff_iff, decide_eq_true_iff, txt_eq h.1 h.2, beq_iff_eq]
  rw [e]
  exact .need rfl (.need rfl (.refl _))
end Go.Proofs.YtdngaaploooceaaDoor.Sy

/- Contracts: places of files; rows of failures; parts of names; small sums. -/
set_option maxRecDepth 100000
namespace Go.Proofs.YtdngaaploooceaaDoor.Sy
open Go.RowKit Kit Go.Proofs
abbrev tEnt : Ty := .pair .str (.pair .bool tI)
abbrev tCls : Ty := .pair (.sl tEnt) (.pair (.sl tI) (.pair tI (.pair tI tI)))
abbrev Ent : Type := ByteArray × Bool × Int

/-! ### class.Files -/
def filesK : Int → List Ent → List Int
  | _, [] => []
  | k, x :: r => if x.2.1 then filesK (k + 1) r else k :: filesK (k + 1) r
noncomputable def fn37 := mkFn Tryd.f22
def C37 : Cx := ⟨T, [], [], [], [FA]⟩
theorem C37_ok : CxOk Tryd.prog C37 := ⟨T_ok, .nil _, .nil _, .nil _⟩
def nr37 : List NR := [⟨3, tI, 3⟩]
def q37 : Frm := ⟨23, [(3, .row 3), (7, .dat (.sl tEnt)), (8, .dat tI), (9, .dat tI)], [(3, .row tI 3)]⟩
def R37 : q37.V → Tr (Ex × St) := fun ((_, (L : List Ent), (n : Int), (k : Int), _), (acc : List Int), _) =>
  .need (decide (n = L.length ∧ n ≤ 1000000 ∧ 0 ≤ k ∧ k ≤ n ∧ acc.length ≤ k)) (.ret (.ex 0, ⟨23, [(3, .e (.c (.row 3)))], [(3, .row tI 3 (acc ++ filesK k (L.drop k.toNat)))]⟩))
def lp37 : LP := [(0, sumP q37 R37)]
theorem lp37_ok : LpsOk 0 C37 nr37 lp37 fn37.loops := by
  refine .all (by kernel_rfl) ?_
  simp only [lp37, List.forall_mem_cons, List.not_mem_nil, false_imp_iff, implies_true, and_true]
  refine .pat q37 R37 (fun v => (v.1.2.2.1 - v.1.2.2.2.1).toNat) ?_
  rintro ⟨⟨⟨⟩, (L : List Ent), (n : Int), (k : Int), ⟨⟩⟩, ⟨(acc : List Int), ⟨⟩⟩⟩ ih
  refine Gives.run (t' := .ite (decide (k < n)) (.need (inR k (List.length L)) (.need true (.ite (!(((List.getD L (Int.toNat k) (ByteArray.empty, (false, (0 : Int))))).2).1) (.need true (.need (decide ((((List.length acc) + (List.length [k]) : Nat) * (Lay.bytes L3) : Nat) ≤ 140737488355328)) (.need (decide (((-(9223372036854775808 : Int) : Int) ≤ (k + (1 : Int) : Int)) ∧ ((k + (1 : Int) : Int) ≤ (9223372036854775807 : Int)))) (.ret (.nx, ⟨23, [(3, .e (.c (.row 20))), (7, rL tEnt L), (8, rI n), (9, rI (k + (1 : Int) : Int))], [(5, .cells 30 [.d (.v (.string ((List.getD L (Int.toNat k) (ByteArray.empty, (false, (0 : Int))))).1)), .d (.v (.bool (((List.getD L (Int.toNat k) (ByteArray.empty, (false, (0 : Int))))).2).1)), .d (.v (.int .i64 (((List.getD L (Int.toNat k) (ByteArray.empty, (false, (0 : Int))))).2).2))]), (20, .row tI 3 (acc ++ [k]))]⟩))))) (.need (decide (((-(9223372036854775808 : Int) : Int) ≤ (k + (1 : Int) : Int)) ∧ ((k + (1 : Int) : Int) ≤ (9223372036854775807 : Int)))) (.ret (.nx, ⟨23, [(3, .e (.c (.row 3))), (7, rL tEnt L), (8, rI n), (9, rI (k + (1 : Int) : Int))], [(3, .row tI 3 acc), (5, .cells 30 [.d (.v (.string ((List.getD L (Int.toNat k) (ByteArray.empty, (false, (0 : Int))))).1)), .d (.v (.bool (((List.getD L (Int.toNat k) (ByteArray.empty, (false, (0 : Int))))).2).1)), .d (.v (.int .i64 (((List.getD L (Int.toNat k) (ByteArray.empty, (false, (0 : Int))))).2).2))])]⟩)))))) (.ret (.ex 0, ⟨23, [(3, .e (.c (.row 3)))], [(3, .row tI 3 acc)]⟩))) (by kernel_rfl) ?_
  refine .rnd fun ⟨h1, h2, h3, h4, h5⟩ => ?_
  refine .lif (fun hk => ?_) (fun hk => ?_)
  · have e : (k + 1).toNat = k.toNat + 1 := by omega
    rw [drop_at L k.toNat (ByteArray.empty, false, 0) (by omega)]
    refine .lneed (inR_of h3 (by omega)) (.lneed rfl ?_)
    generalize L.getD k.toNat (ByteArray.empty, false, 0) = x
    refine .lite (fun hx => ?_) (fun hx => ?_)
    · have hx : x.2.1 = false := by simpa using hx
      have e1 : filesK k (x :: L.drop (k.toNat + 1)) = k :: filesK (k + 1) (L.drop (k.toNat + 1)) := by rw [filesK, hx]; rfl
      refine .lneed rfl (.lnd (by show (acc.length + 1) * 8 ≤ _; omega) (.lnd (by omega) ?_))
      refine Gives.next (σ' := q37.st (((), L, n, k + 1, ()), (acc ++ [k], ()))) (by kernel_rfl) ((ih (((), L, n, k + 1, ()), (acc ++ [k], ())) (by simp only; omega)).trans ?_)
      refine .nd ⟨h1, h2, by omega, by omega, by rw [List.length_append]; simp; omega⟩ ?_
      rw [e1, e, List.append_assoc]; exact .refl _
    · have hx : x.2.1 = true := by simpa using hx
      have e1 : filesK k (x :: L.drop (k.toNat + 1)) = filesK (k + 1) (L.drop (k.toNat + 1)) := by rw [filesK, hx]; rfl
      refine .lnd (by omega) ?_
      refine Gives.next (σ' := q37.st (((), L, n, k + 1, ()), (acc, ()))) (by kernel_rfl) ((ih (((), L, n, k + 1, ()), (acc, ())) (by simp only; omega)).trans ?_)
      refine .nd ⟨h1, h2, by omega, by omega, by omega⟩ ?_
      rw [e1, e]; exact .refl _
  · rw [List.drop_eq_nil_of_le (by omega)]
    simp only [filesK, List.append_nil]
    exact .refl _
theorem files_ok : CtrOk Tryd.prog 22 (ctr (one (aAgg tCls)) fun a => .need (decide (a.1.1.length ≤ 1000000)) (ans (rL tI (filesK 0 a.1.1)))) := by
  refine .mk C37_ok mixed (q := fn37) (.of Tryd.func22 (by kernel_rfl)) lp37_ok (by decide) ?_
  rintro ⟨⟨(L : List Ent), c⟩, ⟨⟩⟩ hb
  refine Gives.of_eq (t' := .need (decide (((((List.length L) : Nat) : Int) = (((List.length L) : Nat) : Int)) ∧ (((((List.length L) : Nat) : Int) ≤ (1000000 : Int)) ∧ (((0 : Int) ≤ (0 : Int)) ∧ (((0 : Int) ≤ (((List.length L) : Nat) : Int)) ∧ ((((List.length ([] : List Int)) : Nat) : Int) ≤ (0 : Int))))))) (.ret (rL tI (([] : List Int) ++ (filesK (0 : Int) (List.drop 0 L))), ⟨0, [], []⟩))) (by kernel_rfl) ?_
  show Gives _ (.need _ (.ret (rL tI (filesK 0 L), St.nil)))
  refine .rnd fun h => ?_
  have h : L.length ≤ 1000000 := h
  exact .nd ⟨rfl, by omega, by omega, by omega, by simp⟩ (.refl _)

/-! ### fails.May -/
def trues : List Bool → Int
  | [] => 0
  | b :: r => (if b then 1 else 0) + trues r
noncomputable def fn39 := mkFn Tryd.f24
def q39 : Frm := ⟨33, [(0, .dat (.sl .bool)), (1, .dat tI), (2, .dat tI), (7, .dat tI), (10, .dat (.sl .bool)), (11, .dat tI), (12, .dat tI)], []⟩
def R39 : q39.V → Tr (Ex × St) := fun (((l0 : List Bool), (a : Int), (b : Int), (m : Int), (l : List Bool), (n : Int), (k : Int), _), _) =>
  .need (decide (n = l.length ∧ n ≤ 9223372036854775807 ∧ 0 ≤ k ∧ k ≤ n ∧ 0 ≤ m ∧ m ≤ k)) (.ret (.ex 0, ⟨33, [(0, rL .bool l0), (1, rI a), (2, rI b), (7, rI (m + trues (l.drop k.toNat)))], []⟩))
def lp39 : LP := [(0, sumP q39 R39)]
theorem lp39_ok : LpsOk 0 C0 [] lp39 fn39.loops := by
  refine .all (by kernel_rfl) ?_
  simp only [lp39, List.forall_mem_cons, List.not_mem_nil, false_imp_iff, implies_true, and_true]
  refine .pat q39 R39 (fun v => (v.1.2.2.2.2.2.1 - v.1.2.2.2.2.2.2.1).toNat) ?_
  rintro ⟨⟨(l0 : List Bool), (a : Int), (b : Int), (m : Int), (l : List Bool), (n : Int), (k : Int), ⟨⟩⟩, ⟨⟩⟩ ih
  refine Gives.run (t' := .ite (decide (k < n)) (.need (inR k (List.length l)) (.ite (List.getD l (Int.toNat k) false) (.need (decide (((-(9223372036854775808 : Int) : Int) ≤ (m + (1 : Int) : Int)) ∧ ((m + (1 : Int) : Int) ≤ (9223372036854775807 : Int)))) (.need (decide (((-(9223372036854775808 : Int) : Int) ≤ (k + (1 : Int) : Int)) ∧ ((k + (1 : Int) : Int) ≤ (9223372036854775807 : Int)))) (.ret (.nx, ⟨33, [(0, rL Ty.bool l0), (1, rI a), (2, rI b), (7, rI (m + (1 : Int) : Int)), (10, rL Ty.bool l), (11, rI n), (12, rI (k + (1 : Int) : Int))], []⟩)))) (.need (decide (((-(9223372036854775808 : Int) : Int) ≤ (k + (1 : Int) : Int)) ∧ ((k + (1 : Int) : Int) ≤ (9223372036854775807 : Int)))) (.ret (.nx, ⟨33, [(0, rL Ty.bool l0), (1, rI a), (2, rI b), (7, rI m), (10, rL Ty.bool l), (11, rI n), (12, rI (k + (1 : Int) : Int))], []⟩))))) (.ret (.ex 0, ⟨33, [(0, rL Ty.bool l0), (1, rI a), (2, rI b), (7, rI m)], []⟩))) (by kernel_rfl) ?_
  refine .rnd fun ⟨h1, h2, h3, h4, h5, h6⟩ => ?_
  refine .lif (fun hk => ?_) (fun hk => ?_)
  · have e : (k + 1).toNat = k.toNat + 1 := by omega
    rw [drop_at l k.toNat false (by omega)]
    refine .lneed (inR_of h3 (by omega)) ?_
    generalize l.getD k.toNat false = x
    refine .lite (fun hx => ?_) (fun hx => ?_)
    · subst hx
      refine .lnd (by omega) (.lnd (by omega) ?_)
      refine Gives.next (σ' := q39.st ((l0, a, b, m + 1, l, n, k + 1, ()), ())) (by kernel_rfl) ((ih ((l0, a, b, m + 1, l, n, k + 1, ()), ()) (by simp only; omega)).trans ?_)
      refine .nd ⟨h1, h2, by omega, by omega, by omega, by omega⟩ ?_
      rw [e]; simp only [trues, if_true, Int.add_assoc]; exact .refl _
    · subst hx
      refine .lnd (by omega) ?_
      refine Gives.next (σ' := q39.st ((l0, a, b, m, l, n, k + 1, ()), ())) (by kernel_rfl) ((ih ((l0, a, b, m, l, n, k + 1, ()), ()) (by simp only; omega)).trans ?_)
      refine .nd ⟨h1, h2, by omega, by omega, by omega, by omega⟩ ?_
      rw [e]; simp only [trues, Bool.false_eq_true, if_false, Int.zero_add]; exact .refl _
  · rw [List.drop_eq_nil_of_le (by omega)]
    simp only [trues, Int.add_zero]
    exact .refl _
theorem fmay_ok : CtrOk Tryd.prog 24 (ctr (three (aVal (.sl .bool)) aI aI) fun a => ans (rB (decide (((a.1.length : Nat) : Int) = a.2.1) && decide (a.2.1 ≤ 6) && decide (trues a.1 ≤ a.2.2.1)))) := by
  refine .mk C0_ok mixed (q := fn39) (.of Tryd.func24 (by kernel_rfl)) lp39_ok (by decide) ?_
  rintro ⟨(l : List Bool), (a : Int), (b : Int), ⟨⟩⟩ hb
  have hl : l.length ≤ 9223372036854775807 := hb.1.1
  refine Gives.of_eq (t' := .need (decide (((((List.length l) : Nat) : Int) = (((List.length l) : Nat) : Int)) ∧ (((((List.length l) : Nat) : Int) ≤ (9223372036854775807 : Int)) ∧ (((0 : Int) ≤ (0 : Int)) ∧ (((0 : Int) ≤ (((List.length l) : Nat) : Int)) ∧ (((0 : Int) ≤ (0 : Int)) ∧ ((0 : Int) ≤ (0 : Int)))))))) (.ite ((((List.length l) : Nat) : Int) == a) (.ite (decide (a ≤ (6 : Int))) (.ret (rB (decide (((0 : Int) + (trues (List.drop 0 l)) : Int) ≤ b)), ⟨0, [], []⟩)) (.ret (rB false, ⟨0, [], []⟩))) (.ret (rB false, ⟨0, [], []⟩)))) (by kernel_rfl) ?_
  show Gives _ (.ret (rB (decide (((l.length : Nat) : Int) = a) && decide (a ≤ 6) && decide (trues l ≤ b)), (⟨0, [], []⟩ : St)))
  refine .nd (by omega) (.ite (fun h => ?_) (fun h => ?_))
  · have h : (l.length : Int) = a := by simpa using h
    rw [decide_eq_true h]
    refine .if_ (fun h' => ?_) (fun h' => ?_)
    · rw [decide_eq_true h', Int.zero_add]; exact .refl _
    · rw [decide_eq_false h']; exact .refl _
  · have h : ¬ (l.length : Int) = a := by simpa using h
    rw [decide_eq_false h]; exact .refl _

/-! ### parts of names -/
def letter (s : Int) : Bool := (decide (97 ≤ s) && decide (s ≤ 122)) || (decide (48 ≤ s) && decide (s ≤ 57)) || s == 46 || s == 95
noncomputable def fn107 := mkFn Tryd.f86
theorem letter_ok : CtrOk Tryd.prog 86 (ctr (one aU) fun a => ans (rB (letter a.1))) := by
  refine .mk C0_ok mixed (q := fn107) (.of Tryd.func86 (by kernel_rfl)) (N := 0) (nr := []) .none (by decide) ?_
  rintro ⟨(s : Int), ⟨⟩⟩ -
  refine Gives.of_eq (t' := .ite (decide ((97 : Int) ≤ s)) (.ite (decide (s ≤ (122 : Int))) (.ret (rB true, ⟨0, [], []⟩)) (.ite (decide ((48 : Int) ≤ s)) (.ite (decide (s ≤ (57 : Int))) (.ret (rB true, ⟨0, [], []⟩)) (.ite (s == (46 : Int)) (.ret (rB true, ⟨0, [], []⟩)) (.ret (rB (s == (95 : Int)), ⟨0, [], []⟩)))) (.ite (s == (46 : Int)) (.ret (rB true, ⟨0, [], []⟩)) (.ret (rB (s == (95 : Int)), ⟨0, [], []⟩))))) (.ite (decide ((48 : Int) ≤ s)) (.ite (decide (s ≤ (57 : Int))) (.ret (rB true, ⟨0, [], []⟩)) (.ite (s == (46 : Int)) (.ret (rB true, ⟨0, [], []⟩)) (.ret (rB (s == (95 : Int)), ⟨0, [], []⟩)))) (.ite (s == (46 : Int)) (.ret (rB true, ⟨0, [], []⟩)) (.ret (rB (s == (95 : Int)), ⟨0, [], []⟩))))) (by kernel_rfl) ?_
  show Gives _ (.ret (rB (letter s), (⟨0, [], []⟩ : St)))
  repeat' first
    | refine .if_ (fun h => ?_) (fun h => ?_)
    | refine .ite (fun h => ?_) (fun h => ?_)
  all_goals first
    | (rw [show letter s = true by simp_all [letter]]; exact .refl _)
    | (rw [show letter s = (s == 95) by simp_all [letter]; omega]; exact .refl _)
noncomputable def fn91 := mkFn Tryd.f75
def C91 : Cx := ⟨T, [], [(86, ctr (one aU) fun a => ans (rB (letter a.1)))], [], []⟩
theorem C91_ok : CxOk Tryd.prog C91 := ⟨T_ok, .nil _, .cons letter_ok (.nil _), .nil _⟩
theorem bt_strB (s : ByteArray) (k : Int) : bt s k = (strB s).getD k.toNat 0 := by
  unfold bt strB
  simp only [List.getD_eq_getElem?_getD, List.getElem?_map]
  cases s.data.toList[k.toNat]? <;> rfl
def q91 : Frm := ⟨25, [(0, .dat .str), (5, .dat tI), (6, .dat tI)], []⟩
def R91 : q91.V → Tr (Ex × St) := fun (((s : ByteArray), (n : Int), (k : Int), _), _) =>
  .need (decide (n = s.size ∧ n ≤ 9223372036854775807 ∧ 0 ≤ k ∧ k ≤ n)) (.ite (((strB s).drop k.toNat).all letter) (.ret (.ex 0, ⟨25, [(0, rS s)], []⟩)) (.ret (.rt, ⟨25, [(2, .e (.c (.kb false)))], []⟩)))
def lp91 : LP := [(0, sumP q91 R91)]
theorem lp91_ok : LpsOk 0 C91 [] lp91 fn91.loops := by
  refine .all (by kernel_rfl) ?_
  simp only [lp91, List.forall_mem_cons, List.not_mem_nil, false_imp_iff, implies_true, and_true]
  refine .pat q91 R91 (fun v => (v.1.2.1 - v.1.2.2.1).toNat) ?_
  rintro ⟨⟨(s : ByteArray), (n : Int), (k : Int), ⟨⟩⟩, ⟨⟩⟩ ih
  refine Gives.run (t' := .ite (decide (k < n)) (.need (inR k (ByteArray.size s)) (.ite (!(letter (bt s k))) (.ret (.rt, ⟨25, [(2, .e (.c (.kb false)))], []⟩)) (.need (decide (((-(9223372036854775808 : Int) : Int) ≤ (k + (1 : Int) : Int)) ∧ ((k + (1 : Int) : Int) ≤ (9223372036854775807 : Int)))) (.ret (.nx, ⟨25, [(0, rS s), (5, rI n), (6, rI (k + (1 : Int) : Int))], []⟩))))) (.ret (.ex 0, ⟨25, [(0, rS s)], []⟩))) (by kernel_rfl) ?_
  refine .rnd fun ⟨h1, h2, h3, h4⟩ => ?_
  have hs := strB_length s
  refine .lif (fun hk => ?_) (fun hk => ?_)
  · have e : (k + 1).toNat = k.toNat + 1 := by omega
    rw [drop_at (strB s) k.toNat 0 (by omega)]
    refine .lneed (inR_of h3 (by omega)) ?_
    rw [bt_strB]
    generalize (strB s).getD k.toNat 0 = x
    refine .lite (fun hx => ?_) (fun hx => ?_)
    · exact .rff (all_f (by simpa using hx)) (.refl _)
    · refine .rb (all_t (by simpa using hx)) (.lnd (by omega) ?_)
      refine Gives.next (σ' := q91.st ((s, n, k + 1, ()), ())) (by kernel_rfl) ((ih ((s, n, k + 1, ()), ()) (by simp only; omega)).trans ?_)
      refine .nd ⟨h1, h2, by omega, by omega⟩ ?_
      rw [e]; exact .refl _
  · rw [List.drop_eq_nil_of_le (by omega)]
    exact .rtt rfl (.refl _)
def partF (s : ByteArray) : Bool := (strB s).all letter && !decide (s = "".toByteArray) && !decide (s = ".".toByteArray) && !decide (s = "..".toByteArray)
theorem partF_ok : CtrOk Tryd.prog 75 (ctr (one aS) fun a => .need (decide (a.1.size ≤ 1000000)) (ans (rB (partF a.1)))) := by
  refine .mk C91_ok mixed (q := fn91) (.of Tryd.func75 (by kernel_rfl)) lp91_ok (by decide) ?_
  rintro ⟨(s : ByteArray), ⟨⟩⟩ hb
  refine Gives.of_eq (t' := .need (decide (((((ByteArray.size s) : Nat) : Int) = (((ByteArray.size s) : Nat) : Int)) ∧ (((((ByteArray.size s) : Nat) : Int) ≤ (9223372036854775807 : Int)) ∧ (((0 : Int) ≤ (0 : Int)) ∧ ((0 : Int) ≤ (((ByteArray.size s) : Nat) : Int)))))) (.ite (List.all (List.drop 0 (strB s)) letter) (.ite (!(decide (s = (ByteArray.mk (List.toArray ([] : List UInt8)))))) (.ite (!(decide (s = (ByteArray.mk (List.toArray [(46 : UInt8)]))))) (.ret (rB (!(decide (s = (ByteArray.mk (List.toArray [(46 : UInt8), (46 : UInt8)]))))), ⟨0, [], []⟩)) (.ret (rB false, ⟨0, [], []⟩))) (.ret (rB false, ⟨0, [], []⟩))) (.ret (rB false, ⟨0, [], []⟩)))) (by kernel_rfl) ?_
  show Gives _ (.need _ (.ret (rB (partF s), (⟨0, [], []⟩ : St))))
  refine .rnd fun h => ?_
  have h : s.size ≤ 1000000 := h
  refine .nd ⟨rfl, by omega, by omega, by omega⟩ ?_
  unfold partF
  rw [List.drop_zero]
  refine .ite (fun h1 => ?_) (fun h1 => ?_)
  · rw [h1]
    refine .ite (fun h2 => ?_) (fun h2 => ?_)
    · rw [show (!decide (s = "".toByteArray)) = true from h2]
      refine .ite (fun h3 => ?_) (fun h3 => ?_)
      · rw [show (!decide (s = ".".toByteArray)) = true from h3]; exact .refl _
      · rw [show (!decide (s = ".".toByteArray)) = false from h3]; exact .refl _
    · rw [show (!decide (s = "".toByteArray)) = false from h2]; exact .refl _
  · rw [h1]; exact .refl _
end Go.Proofs.YtdngaaploooceaaDoor.Sy

/- Contracts: names, and trees of names. -/
set_option maxRecDepth 100000
namespace Go.Proofs.YtdngaaploooceaaDoor.Sy
open Go.RowKit Kit Go.Proofs

/-! ### a text cut at a stroke -/
def slash : ByteArray := "/".toByteArray
abbrev ans2 (x y : EV) : Ans := .ret (.tup [x, y], [])
abbrev eI (n : Int) : EV := .c (.d (.v (.int .i64 n)))
abbrev eS (s : ByteArray) : EV := .c (.d (.v (.string s)))
abbrev eB (b : Bool) : EV := .c (.d (.v (.bool b)))
abbrev eL (t : Ty) (l : List t.El) : EV := .c (.d (.sl t l))
/-- where the first stroke is; -1: none -/
def stroke (s : ByteArray) : Int := idxS s 47
theorem indexByte_le (l : List UInt8) (c : UInt8) : -1 ≤ Lib.indexByte l c ∧ Lib.indexByte l c < l.length := by
  have h := Lib.indexByte_ge l c
  refine ⟨h, ?_⟩
  by_cases h0 : 0 ≤ Lib.indexByte l c
  · have := (Lib.indexByte_some (o := (Lib.indexByte l c).toNat) (by omega : Lib.indexByte l c = _)).1
    have := (List.getElem?_eq_some_iff.1 this).1
    omega
  · omega
theorem stroke_le (s : ByteArray) : -1 ≤ stroke s ∧ stroke s < s.size := indexByte_le _ _
def idxCtr : Ctr := ctr (two aS aU) fun a => ans (rI (idxS a.1 a.2.1))
noncomputable def fn117 := mkFn Tryd.f92
def C117 : Cx := ⟨T, [], [(58, idxCtr)], [], []⟩
theorem C117_ok : CxOk Tryd.prog C117 := ⟨T_ok, .nil _, .cons idxS_ok (.nil _), .nil _⟩
def strokeCtr : Ctr := ctr (two aS aS) fun a => .need (decide (a.2.1 = slash)) (ans (rI (stroke a.1)))
theorem index_ok : CtrOk Tryd.prog 92 strokeCtr := by
  refine .mk C117_ok mixed (q := fn117) (.of Tryd.func92 (by kernel_rfl)) (N := 0) (nr := []) .none (by decide) ?_
  rintro ⟨(s : ByteArray), (c : ByteArray), ⟨⟩⟩ -
  show Gives _ (.need _ (.ret (rI (stroke s), (⟨0, [], []⟩ : St))))
  refine .rnd fun h => ?_
  have h : c = slash := h
  subst h
  refine Gives.of_eq (t' := .ite false (.ret (rI (0 : Int), ⟨0, [], []⟩)) (.ite (decide (slash = s)) (.ret (rI (0 : Int), ⟨0, [], []⟩)) (.ite true (.need true (.ret (rI (idxS s (bt slash (0 : Int))), ⟨0, [], []⟩))) (.need (decide ((((ByteArray.size s) : Nat) : Int) ≤ (((ByteArray.size slash) : Nat) : Int))) (.ret (rI (-(1 : Int) : Int), ⟨0, [], []⟩)))))) (by kernel_rfl) ?_
  refine .ff rfl (.if_ (fun h => ?_) (fun _ => .tt rfl (.need rfl (.refl _))))
  rw [← h, show stroke slash = 0 by decide +kernel]; exact .refl _

/-- a text's two parts, and whether there are two -/
def cut2 (s : ByteArray) : ByteArray × ByteArray × Bool :=
  if 0 ≤ stroke s then (s.extract 0 (stroke s).toNat, s.extract ((stroke s).toNat + 1) s.size, true) else (s, ByteArray.empty, false)
abbrev cutA (s : ByteArray) : Ans := .ret (.tup [eS (cut2 s).1, eS (cut2 s).2.1, eB (cut2 s).2.2], [])
def cutCtr : Ctr := ctr (two aS aS) fun a => .need (decide (a.2.1 = slash ∧ a.1.size ≤ 1000000)) (cutA a.1)
noncomputable def fn106 := mkFn Tryd.f85
def C106 : Cx := ⟨T, [], [(92, strokeCtr)], [], []⟩
theorem C106_ok : CxOk Tryd.prog C106 := ⟨T_ok, .nil _, .cons index_ok (.nil _), .nil _⟩
theorem cut0_ok : CtrOk Tryd.prog 85 cutCtr := by
  refine .mk C106_ok mixed (q := fn106) (.of Tryd.func85 (by kernel_rfl)) (N := 0) (nr := []) .none (by decide) ?_
  rintro ⟨(s : ByteArray), (c : ByteArray), ⟨⟩⟩ hb
  show Gives _ (.need _ (.ret (SV.tup [eS (cut2 s).1, eS (cut2 s).2.1, eB (cut2 s).2.2], (⟨0, [], []⟩ : St))))
  refine .rnd fun ⟨h, hz⟩ => ?_
  have h : c = slash := h
  have hz : s.size ≤ 1000000 := hz
  subst h
  have hl := stroke_le s
  have h1 : slash.size = 1 := rfl
  refine Gives.of_eq (t' := .need true (.ite (decide ((0 : Int) ≤ (stroke s))) (.need (okB (0 : Int) (stroke s) (ByteArray.size s)) (.need (decide (((-(9223372036854775808 : Int) : Int) ≤ ((stroke s) + (((ByteArray.size slash) : Nat) : Int) : Int)) ∧ (((stroke s) + (((ByteArray.size slash) : Nat) : Int) : Int) ≤ (9223372036854775807 : Int)))) (.need (okB ((stroke s) + (((ByteArray.size slash) : Nat) : Int) : Int) (((ByteArray.size s) : Nat) : Int) (ByteArray.size s)) (.ret (.tup [.c (.d (.v (.string (ByteArray.extract s 0 (Int.toNat (stroke s)))))), .c (.d (.v (.string (ByteArray.extract s (Int.toNat ((stroke s) + (((ByteArray.size slash) : Nat) : Int) : Int)) (ByteArray.size s))))), .c (.d (.v (.bool true)))], ⟨0, [], []⟩))))) (.ret (.tup [.c (.d (.v (.string s))), .c (.d (.v (.string (ByteArray.mk (List.toArray ([] : List UInt8)))))), .c (.d (.v (.bool false)))], ⟨0, [], []⟩)))) (by kernel_rfl) ?_
  refine .need (by decide +kernel) (.if_ (fun h => ?_) (fun h => ?_))
  · simp only [cut2, if_pos h]
    rw [h1]
    refine .need (by simp [okB]; omega) (.nd (by omega) (.need (by simp [okB]; omega) ?_))
    rw [show (stroke s + ((1 : Nat) : Int)).toNat = (stroke s).toNat + 1 by omega]; exact .refl _
  · simp only [cut2, if_neg h]; exact .refl _
noncomputable def fn90 := mkFn Tryd.f74
def C90 : Cx := ⟨T, [], [(85, cutCtr)], [], []⟩
theorem C90_ok : CxOk Tryd.prog C90 := ⟨T_ok, .nil _, .cons cut0_ok (.nil _), .nil _⟩
theorem cut_ok : CtrOk Tryd.prog 74 cutCtr := by
  refine .mk C90_ok mixed (q := fn90) (.of Tryd.func74 (by kernel_rfl)) (N := 0) (nr := []) .none (by decide) ?_
  rintro ⟨(s : ByteArray), (c : ByteArray), ⟨⟩⟩ hb
  show Gives _ (.need _ (.ret (SV.tup [eS (cut2 s).1, eS (cut2 s).2.1, eB (cut2 s).2.2], (⟨0, [], []⟩ : St))))
  refine .rnd fun ⟨h, hz⟩ => ?_
  refine Gives.of_eq (t' := .need (decide ((c = slash) ∧ ((ByteArray.size s) ≤ 1000000))) (.ret (.tup [.c (.d (.v (.string ((cut2 s)).1))), .c (.d (.v (.string (((cut2 s)).2).1))), .c (.d (.v (.bool (((cut2 s)).2).2)))], ⟨0, [], []⟩))) (by kernel_rfl) ?_
  exact .nd ⟨h, hz⟩ (.refl _)

/-! ### names -/
def nameF (s : ByteArray) : Bool := decide (s.size ≤ 8) && partF (cut2 s).1 && (!(cut2 s).2.2 || partF (cut2 s).2.1)
def nameCtr : Ctr := ctr (one aS) fun a => ans (rB (nameF a.1))
noncomputable def fn76 := mkFn Tryd.f60
def partCtr : Ctr := ctr (one aS) fun a => .need (decide (a.1.size ≤ 1000000)) (ans (rB (partF a.1)))
def C76 : Cx := ⟨T, [], [(74, cutCtr), (75, partCtr)], [], []⟩
theorem C76_ok : CxOk Tryd.prog C76 := ⟨T_ok, .nil _, .cons cut_ok (.cons partF_ok (.nil _)), .nil _⟩
theorem cut2_size (s : ByteArray) : (cut2 s).1.size ≤ s.size ∧ (cut2 s).2.1.size ≤ s.size := by
  unfold cut2
  split
  · simp only [ByteArray.size_extract]; omega
  · exact ⟨Nat.le_refl _, Nat.zero_le _⟩
theorem name0_ok : CtrOk Tryd.prog 60 nameCtr := by
  refine .mk C76_ok mixed (q := fn76) (.of Tryd.func60 (by kernel_rfl)) (N := 0) (nr := []) .none (by decide) ?_
  rintro ⟨(s : ByteArray), ⟨⟩⟩ hb
  show Gives _ (.ret (rB (nameF s), (⟨0, [], []⟩ : St)))
  have hc := cut2_size s
  refine Gives.of_eq (t' := .ite (decide ((8 : Int) < (((ByteArray.size s) : Nat) : Int))) (.ret (rB false, ⟨0, [], []⟩)) (.need (decide (((ByteArray.mk (List.toArray [(47 : UInt8)])) = slash) ∧ ((ByteArray.size s) ≤ 1000000))) (.need (decide ((ByteArray.size ((cut2 s)).1) ≤ 1000000)) (.ite (partF ((cut2 s)).1) (.ite (!(((cut2 s)).2).2) (.ret (rB true, ⟨0, [], []⟩)) (.need (decide ((ByteArray.size (((cut2 s)).2).1) ≤ 1000000)) (.ret (rB (partF (((cut2 s)).2).1), ⟨0, [], []⟩)))) (.ret (rB false, ⟨0, [], []⟩)))))) (by kernel_rfl) ?_
  unfold nameF
  refine .if_ (fun h => ?_) (fun h => ?_)
  · rw [decide_eq_false (by omega)]; exact .refl _
  rw [decide_eq_true (show s.size ≤ 8 by omega)]
  refine .nd ⟨by decide +kernel, by omega⟩ (.nd (by omega) (.ite (fun h1 => ?_) (fun h1 => ?_)))
  · rw [h1]
    refine .ite (fun h2 => ?_) (fun h2 => ?_)
    · rw [h2]; exact .refl _
    · rw [h2]; exact .nd (by omega) (.refl _)
  · rw [h1]; exact .refl _
noncomputable def fn59 := mkFn Tryd.f42
def C59 : Cx := ⟨T, [], [(60, nameCtr)], [], []⟩
theorem C59_ok : CxOk Tryd.prog C59 := ⟨T_ok, .nil _, .cons name0_ok (.nil _), .nil _⟩
theorem name_ok : CtrOk Tryd.prog 42 nameCtr := by
  refine .mk C59_ok mixed (q := fn59) (.of Tryd.func42 (by kernel_rfl)) (N := 0) (nr := []) .none (by decide) ?_
  rintro ⟨(s : ByteArray), ⟨⟩⟩ hb
  refine Gives.of_eq (t' := .ret (rB (nameF s), ⟨0, [], []⟩)) (by kernel_rfl) ?_
  exact .refl _
/-- a name's directory, and its last part -/
def splitF (s : ByteArray) : ByteArray × ByteArray :=
  if nameF s then (if (cut2 s).2.2 then ((cut2 s).1, (cut2 s).2.1) else (ByteArray.empty, (cut2 s).1)) else (ByteArray.empty, ByteArray.empty)
def splitCtr : Ctr := ctr (one aS) fun a => ans2 (eS (splitF a.1).1) (eS (splitF a.1).2)
noncomputable def fn92 := mkFn Tryd.f76
def C92 : Cx := ⟨T, [], [(74, cutCtr), (42, nameCtr)], [], []⟩
theorem C92_ok : CxOk Tryd.prog C92 := ⟨T_ok, .nil _, .cons cut_ok (.cons name_ok (.nil _)), .nil _⟩
theorem nameF_size {s : ByteArray} (h : nameF s = true) : s.size ≤ 8 := by
  simp only [nameF, Bool.and_eq_true, decide_eq_true_eq] at h; exact h.1.1
theorem split_ok : CtrOk Tryd.prog 76 splitCtr := by
  refine .mk C92_ok mixed (q := fn92) (.of Tryd.func76 (by kernel_rfl)) (N := 0) (nr := []) .none (by decide) ?_
  rintro ⟨(s : ByteArray), ⟨⟩⟩ hb
  show Gives _ (.ret (SV.tup [eS (splitF s).1, eS (splitF s).2], (⟨0, [], []⟩ : St)))
  refine Gives.of_eq (t' := .ite (!(nameF s)) (.ret (.tup [.c (.d (.v (.string (ByteArray.mk (List.toArray ([] : List UInt8)))))), .c (.d (.v (.string (ByteArray.mk (List.toArray ([] : List UInt8))))))], ⟨0, [], []⟩)) (.need (decide (((ByteArray.mk (List.toArray [(47 : UInt8)])) = slash) ∧ ((ByteArray.size s) ≤ 1000000))) (.ite (!(((cut2 s)).2).2) (.ret (.tup [.c (.d (.v (.string (ByteArray.mk (List.toArray ([] : List UInt8)))))), .c (.d (.v (.string ((cut2 s)).1)))], ⟨0, [], []⟩)) (.ret (.tup [.c (.d (.v (.string ((cut2 s)).1))), .c (.d (.v (.string (((cut2 s)).2).1)))], ⟨0, [], []⟩))))) (by kernel_rfl) ?_
  unfold splitF
  refine .ite (fun h => ?_) (fun h => ?_)
  · rw [if_neg (by simpa using h)]; exact .refl _
  have h : nameF s = true := by simpa using h
  rw [if_pos h]
  have := nameF_size h
  refine .nd ⟨by decide +kernel, by omega⟩ (.ite (fun h1 => ?_) (fun h1 => ?_))
  · rw [if_neg (by simpa using h1)]; exact .refl _
  · rw [if_pos (by simpa using h1)]; exact .refl _

/-! ### trees -/
def FL : List Nat := [24, 30, 42, 125]
theorem FL_ok : FlatOk Tryd.prog FL := .cons (by kernel_rfl) (by kernel_rfl) (.cons (by kernel_rfl) (by kernel_rfl) (.cons (by kernel_rfl) (by kernel_rfl) (.cons (by kernel_rfl) (by kernel_rfl) (.nil _))))
noncomputable def fn77 := mkFn Tryd.f61
noncomputable def fn78 := mkFn Tryd.f62
noncomputable def fn60 := mkFn Tryd.f43
noncomputable def fn36 := mkFn Tryd.f21
abbrev tKey : Ty := .pair .str .str
abbrev tVal : Ty := .pair tI .bool
abbrev Key : Type := ByteArray × ByteArray
abbrev TMap : Type := List (Key × (Int × Bool))
def C77 : Cx := ⟨T, FL, [(76, splitCtr)], [], []⟩
theorem C77_ok : CxOk Tryd.prog C77 := ⟨T_ok, FL_ok, .cons split_ok (.nil _), .nil _⟩
noncomputable def A77 : Ctr := auto fn77 C77 0 []
theorem A77_ok : CtrOk Tryd.prog 61 A77 := auto_ok C77_ok mixed (.of Tryd.func61 (by kernel_rfl))
def C78 : Cx := ⟨T, FL, [], [], []⟩
theorem C78_ok : CxOk Tryd.prog C78 := ⟨T_ok, FL_ok, .nil _, .nil _⟩
/-- a tree that is lent -/
def qTree : Frm := ⟨0, [(GH, .np LB 0), (GH + 1, .mp (LB + 1))], [(LB, .cells 103 [.mp (LB + 1), .dat tI]), (LB + 1, .map true true tKey tVal)]⟩
abbrev eH (n : Int) : EV := .c (.d (.v (.int .u16 n)))
def isE (s : ByteArray) : Bool := decide (s = ByteArray.empty)
/-- why a path's directory is none -/
def aboveF (m : TMap) (k : Key) : Int :=
  if isE k.2 then 65282 else if isE k.1 then 0 else
  match lookV tKey (β := Int × Bool) (ByteArray.empty, k.1) m with
  | none => 65282
  | some x => if x.2 then 0 else 65300
def aboveL (a : Unit × Key × Unit) (v : qTree.V) : Tr (SV × St) := .ret (.e (eH (aboveF v.2.2.1 a.2.1)), qTree.st v)
theorem above_ok : CtrOk Tryd.prog 62 (ctrL (two (aNp LB 0) (aAgg tKey)) qTree aboveL) := by
  refine .mkL C78_ok mixed (q := fn78) (.of Tryd.func62 (by kernel_rfl)) (N := 0) (nr := []) .none (by decide) ?_
  rintro ⟨⟨⟩, ⟨(d : ByteArray), (l : ByteArray)⟩, ⟨⟩⟩ ⟨⟨⟨⟩, ⟨⟩, ⟨⟩⟩, ⟨⟨⟩, (nx : Int), ⟨⟩⟩, (m : TMap), ⟨⟩⟩
  refine Gives.of_eq (t' := .ite (decide (l = (ByteArray.mk (List.toArray ([] : List UInt8))))) (.ret (.e (.c (.d (.v (.int .u16 (65282 : Int))))), ⟨0, [(100000, .e (.c (.np 1000000000000 0))), (100001, .e (.c (.mp 1000000000001)))], [(1000000000000, .cells 103 [.mp 1000000000001, .d (.v (.int .i64 nx))]), (1000000000001, .map true true tKey tVal m)]⟩)) (.ite (decide (d = (ByteArray.mk (List.toArray ([] : List UInt8))))) (.ret (.e (.c (.d (.v (.int .u16 (0 : Int))))), ⟨0, [(100000, .e (.c (.np 1000000000000 0))), (100001, .e (.c (.mp 1000000000001)))], [(1000000000000, .cells 103 [.mp 1000000000001, .d (.v (.int .i64 nx))]), (1000000000001, .map true true tKey tVal m)]⟩)) (.ite (!(Option.isSome (lookV tKey ((ByteArray.mk (List.toArray ([] : List UInt8))), d) m))) (.ret (.e (.c (.d (.v (.int .u16 (65282 : Int))))), ⟨0, [(100000, .e (.c (.np 1000000000000 0))), (100001, .e (.c (.mp 1000000000001)))], [(1000000000000, .cells 103 [.mp 1000000000001, .d (.v (.int .i64 nx))]), (1000000000001, .map true true tKey tVal m)]⟩)) (.ite (!((Option.getD (lookV tKey ((ByteArray.mk (List.toArray ([] : List UInt8))), d) m) ((0 : Int), false))).2) (.ret (.e (.c (.d (.v (.int .u16 (65300 : Int))))), ⟨0, [(100000, .e (.c (.np 1000000000000 0))), (100001, .e (.c (.mp 1000000000001)))], [(1000000000000, .cells 103 [.mp 1000000000001, .d (.v (.int .i64 nx))]), (1000000000001, .map true true tKey tVal m)]⟩)) (.ret (.e (.c (.d (.v (.int .u16 (0 : Int))))), ⟨0, [(100000, .e (.c (.np 1000000000000 0))), (100001, .e (.c (.mp 1000000000001)))], [(1000000000000, .cells 103 [.mp 1000000000001, .d (.v (.int .i64 nx))]), (1000000000001, .map true true tKey tVal m)]⟩)))))) (by kernel_rfl) ?_
  show Gives _ (Tr.ret (SV.e (eH (aboveF m (d, l))), qTree.st (((), (), ()), ((), nx, ()), m, ())))
  unfold aboveF
  refine .ite (fun h => ?_) (fun h => ?_)
  · rw [if_pos (show isE l = true from h)]; exact .refl _
  rw [if_neg (by rw [show isE l = false from h]; exact Bool.false_ne_true)]
  refine .ite (fun h => ?_) (fun h => ?_)
  · rw [if_pos (show isE d = true from h)]; exact .refl _
  rw [if_neg (by rw [show isE d = false from h]; exact Bool.false_ne_true)]
  show Gives (.ite (!(lookV tKey (β := Int × Bool) (ByteArray.empty, d) m).isSome) _ (.ite (!((lookV tKey (β := Int × Bool) (ByteArray.empty, d) m).getD (0, false)).2) _ _)) _
  cases lookV tKey (β := Int × Bool) (ByteArray.empty, d) m with
  | none => exact .tt rfl (.refl _)
  | some x =>
    obtain ⟨i, b⟩ := x
    refine .ff rfl ?_
    cases b
    · exact .tt rfl (.refl _)
    · exact .ff rfl (.refl _)
/-- what a tree is told to make: a number, why not, the tree -/
def mkF (m : TMap) (nx : Int) (path : ByteArray) (dir : Bool) : (Int × Int) × TMap × Int :=
  if aboveF m (splitF path) ≠ 0 then ((-1, aboveF m (splitF path)), m, nx)
  else if (lookV tKey (β := Int × Bool) (splitF path) m).isSome then ((-1, 65297), m, nx)
  else if dir && !isE (splitF path).1 then ((-1, 65302), m, nx)
  else if 8 ≤ m.length then ((-1, 65308), m, nx)
  else ((nx, 0), setV tKey (splitF path) (nx, dir) m, nx + 1)
def makeL (a : Unit × ByteArray × Bool × Unit) (v : qTree.V) : Tr (SV × St) :=
  .need (decide (0 ≤ v.2.1.2.1 ∧ v.2.1.2.1 ≤ 1000000)) (.ret (.tup [eI (mkF v.2.2.1 v.2.1.2.1 a.2.1 a.2.2.1).1.1, eH (mkF v.2.2.1 v.2.1.2.1 a.2.1 a.2.2.1).1.2], qTree.st (v.1, ((), (mkF v.2.2.1 v.2.1.2.1 a.2.1 a.2.2.1).2.2, ()), (mkF v.2.2.1 v.2.1.2.1 a.2.1 a.2.2.1).2.1, ())))
noncomputable def C60 : Cx := ⟨T, FL, [(61, A77)], [(62, ctrL (two (aNp LB 0) (aAgg tKey)) qTree aboveL)], []⟩
theorem C60_ok : CxOk Tryd.prog C60 := ⟨T_ok, FL_ok, .cons A77_ok (.nil _), .cons above_ok (.nil _)⟩
theorem make_ok : CtrOk Tryd.prog 43 (ctrL (three (aNp LB 0) aS aB) qTree makeL) := by
  refine .mkL C60_ok mixed (q := fn60) (.of Tryd.func43 (by kernel_rfl)) (N := 0) (nr := []) .none (by decide) ?_
  rintro ⟨⟨⟩, (path : ByteArray), (dir : Bool), ⟨⟩⟩ ⟨⟨⟨⟩, ⟨⟩, ⟨⟩⟩, ⟨⟨⟩, (nx : Int), ⟨⟩⟩, (m : TMap), ⟨⟩⟩
  refine Gives.of_eq (t' := .ite false (.ret (.tup [.c (.d (.v (.int .i64 (0 : Int)))), .c (.d (.v (.int .u16 (0 : Int))))], ⟨0, [(100000, .e (.c (.np 1000000000000 0))), (100001, .e (.c (.mp 1000000000001)))], [(1000000000000, .cells 103 [.mp 1000000000001, .d (.v (.int .i64 nx))]), (1000000000001, .map true true tKey tVal m)]⟩)) (.need true (.need true (.ite ((aboveF m (splitF path)) != (0 : Int)) (.ret (.tup [.c (.d (.v (.int .i64 (-(1 : Int) : Int)))), .c (.d (.v (.int .u16 (aboveF m (splitF path)))))], ⟨0, [(100000, .e (.c (.np 1000000000000 0))), (100001, .e (.c (.mp 1000000000001)))], [(1000000000000, .cells 103 [.mp 1000000000001, .d (.v (.int .i64 nx))]), (1000000000001, .map true true tKey tVal m)]⟩)) (.need true (.need true (.ite (Option.isSome (lookV tKey (splitF path) m)) (.ret (.tup [.c (.d (.v (.int .i64 (-(1 : Int) : Int)))), .c (.d (.v (.int .u16 (65297 : Int))))], ⟨0, [(100000, .e (.c (.np 1000000000000 0))), (100001, .e (.c (.mp 1000000000001)))], [(1000000000000, .cells 103 [.mp 1000000000001, .d (.v (.int .i64 nx))]), (1000000000001, .map true true tKey tVal m)]⟩)) (.ite dir (.ite (!(decide (((splitF path)).1 = (ByteArray.mk (List.toArray ([] : List UInt8)))))) (.ret (.tup [.c (.d (.v (.int .i64 (-(1 : Int) : Int)))), .c (.d (.v (.int .u16 (65302 : Int))))], ⟨0, [(100000, .e (.c (.np 1000000000000 0))), (100001, .e (.c (.mp 1000000000001)))], [(1000000000000, .cells 103 [.mp 1000000000001, .d (.v (.int .i64 nx))]), (1000000000001, .map true true tKey tVal m)]⟩)) (.ite (decide ((8 : Int) ≤ (((List.length m) : Nat) : Int))) (.ret (.tup [.c (.d (.v (.int .i64 (-(1 : Int) : Int)))), .c (.d (.v (.int .u16 (65308 : Int))))], ⟨0, [(100000, .e (.c (.np 1000000000000 0))), (100001, .e (.c (.mp 1000000000001)))], [(1000000000000, .cells 103 [.mp 1000000000001, .d (.v (.int .i64 nx))]), (1000000000001, .map true true tKey tVal m)]⟩)) (.need true (.need (decide (((-(9223372036854775808 : Int) : Int) ≤ (nx + (1 : Int) : Int)) ∧ ((nx + (1 : Int) : Int) ≤ (9223372036854775807 : Int)))) (.need (decide (((-(9223372036854775808 : Int) : Int) ≤ ((nx + (1 : Int) : Int) - (1 : Int) : Int)) ∧ (((nx + (1 : Int) : Int) - (1 : Int) : Int) ≤ (9223372036854775807 : Int)))) (.ret (.tup [.c (.d (.v (.int .i64 ((nx + (1 : Int) : Int) - (1 : Int) : Int)))), .c (.d (.v (.int .u16 (0 : Int))))], ⟨0, [(100000, .e (.c (.np 1000000000000 0))), (100001, .e (.c (.mp 1000000000001)))], [(1000000000000, .cells 103 [.mp 1000000000001, .d (.v (.int .i64 (nx + (1 : Int) : Int)))]), (1000000000001, .map true true tKey tVal (setV tKey (splitF path) (nx, dir) m))]⟩))))))) (.ite (decide ((8 : Int) ≤ (((List.length m) : Nat) : Int))) (.ret (.tup [.c (.d (.v (.int .i64 (-(1 : Int) : Int)))), .c (.d (.v (.int .u16 (65308 : Int))))], ⟨0, [(100000, .e (.c (.np 1000000000000 0))), (100001, .e (.c (.mp 1000000000001)))], [(1000000000000, .cells 103 [.mp 1000000000001, .d (.v (.int .i64 nx))]), (1000000000001, .map true true tKey tVal m)]⟩)) (.need true (.need (decide (((-(9223372036854775808 : Int) : Int) ≤ (nx + (1 : Int) : Int)) ∧ ((nx + (1 : Int) : Int) ≤ (9223372036854775807 : Int)))) (.need (decide (((-(9223372036854775808 : Int) : Int) ≤ ((nx + (1 : Int) : Int) - (1 : Int) : Int)) ∧ (((nx + (1 : Int) : Int) - (1 : Int) : Int) ≤ (9223372036854775807 : Int)))) (.ret (.tup [.c (.d (.v (.int .i64 ((nx + (1 : Int) : Int) - (1 : Int) : Int)))), .c (.d (.v (.int .u16 (0 : Int))))], ⟨0, [(100000, .e (.c (.np 1000000000000 0))), (100001, .e (.c (.mp 1000000000001)))], [(1000000000000, .cells 103 [.mp 1000000000001, .d (.v (.int .i64 (nx + (1 : Int) : Int)))]), (1000000000001, .map true true tKey tVal (setV tKey (splitF path) (nx, dir) m))]⟩)))))))))))))) (by kernel_rfl) ?_
  show Gives _ (.need _ (.ret (SV.tup [eI (mkF m nx path dir).1.1, eH (mkF m nx path dir).1.2], qTree.st (((), (), ()), ((), (mkF m nx path dir).2.2, ()), (mkF m nx path dir).2.1, ()))))
  refine .rnd fun ⟨h1, h2⟩ => ?_
  have h1 : 0 ≤ nx := h1
  have h2 : nx ≤ 1000000 := h2
  refine .ff rfl (.need rfl (.need rfl ?_))
  unfold mkF
  refine .ite (fun h => ?_) (fun h => ?_)
  · rw [if_pos (by simpa using h)]; exact .refl _
  rw [if_neg (by simpa using h)]
  refine .need rfl (.need rfl (.ite (fun h => ?_) (fun h => ?_)))
  · rw [if_pos h]; exact .refl _
  rw [if_neg (by rw [h]; exact Bool.false_ne_true)]
  have last : Gives (.ite (decide ((8 : Int) ≤ ((m.length : Nat) : Int)))
      (.ret (SV.tup [eI (-1), eH 65308], qTree.st (((), (), ()), ((), nx, ()), m, ())))
      (.need true (.need (decide (((-9223372036854775808 : Int) ≤ nx + 1) ∧ (nx + 1 ≤ (9223372036854775807 : Int)))) (.need (decide (((-9223372036854775808 : Int) ≤ nx + 1 - 1) ∧ (nx + 1 - 1 ≤ (9223372036854775807 : Int))))
        (.ret (SV.tup [eI (nx + 1 - 1), eH 0], qTree.st (((), (), ()), ((), nx + 1, ()), setV tKey (splitF path) (nx, dir) m, ())))))))
      (.ret (SV.tup [eI (if 8 ≤ m.length then (((-1 : Int), (65308 : Int)), m, nx) else ((nx, 0), setV tKey (splitF path) (nx, dir) m, nx + 1)).1.1, eH (if 8 ≤ m.length then (((-1 : Int), (65308 : Int)), m, nx) else ((nx, 0), setV tKey (splitF path) (nx, dir) m, nx + 1)).1.2], qTree.st (((), (), ()), ((), (if 8 ≤ m.length then (((-1 : Int), (65308 : Int)), m, nx) else ((nx, 0), setV tKey (splitF path) (nx, dir) m, nx + 1)).2.2, ()), (if 8 ≤ m.length then (((-1 : Int), (65308 : Int)), m, nx) else ((nx, 0), setV tKey (splitF path) (nx, dir) m, nx + 1)).2.1, ()))) := by
    refine .if_ (fun h => ?_) (fun h => ?_)
    · rw [if_pos (by omega)]; exact .refl _
    · rw [if_neg (by omega)]
      refine .need rfl (.nd (by omega) (.nd (by omega) ?_))
      rw [show nx + 1 - 1 = nx by omega]; exact .refl _
  cases dir
  · exact .ff rfl last
  · refine .tt rfl (.ite (fun h => ?_) (fun h => ?_))
    · rw [if_pos (show (true && !isE (splitF path).1) = true from h)]; exact .refl _
    · rw [if_neg (show ¬ (true && !isE (splitF path).1) = true by rw [show (true && !isE (splitF path).1) = false from h]; exact Bool.false_ne_true)]
      exact last
noncomputable def C36 : Cx := ⟨T, FL, [(42, nameCtr)], [(43, ctrL (three (aNp LB 0) aS aB) qTree makeL)], [14]⟩
theorem C36_ok : CxOk Tryd.prog C36 := ⟨T_ok, FL_ok, .cons name_ok (.nil _), .cons make_ok (.nil _)⟩
def q36 : Frm := ⟨38, [(4, .np 14 0), (15, .dat (.sl tEnt)), (16, .dat tI), (17, .dat tI)], [(12, .map true true tKey tVal), (14, .cells 103 [.mp 12, .dat tI])]⟩
/-- the tree of these entries; none: there is none -/
def treeF : TMap → Int → List Ent → Option (TMap × Int)
  | m, nx, [] => some (m, nx)
  | m, nx, x :: r => if !nameF x.1 then none else if (mkF m nx x.1 x.2.1).1.2 != 0 then none else treeF (mkF m nx x.1 x.2.1).2.1 (mkF m nx x.1 x.2.1).2.2 r
def R36 : q36.V → Tr (Ex × St) := fun ((_, (L : List Ent), (n : Int), (k : Int), _), (m : TMap), (_, (nx : Int), _), _) =>
  .need (decide (n = L.length ∧ n ≤ 8 ∧ 0 ≤ k ∧ k ≤ n ∧ 0 ≤ nx ∧ nx ≤ k)) <|
  .ite (treeF m nx (L.drop k.toNat)).isNone (.ret (.rt, ⟨38, [(2, .e (.c (.nilp))), (3, rI 11)], []⟩))
  (.ret (.ex 0, ⟨38, [(4, .e (.c (.np 14 0)))], [(12, .map true true tKey tVal ((treeF m nx (L.drop k.toNat)).getD ([], 0)).1), (14, .cells 103 [.mp 12, .d (.v (.int .i64 ((treeF m nx (L.drop k.toNat)).getD ([], 0)).2))])]⟩))
def lp36 : LP := [(0, sumP q36 R36)]
theorem lp36_ok : LpsOk 0 C36 [] lp36 fn36.loops := by
  refine .all (by kernel_rfl) ?_
  simp only [lp36, List.forall_mem_cons, List.not_mem_nil, false_imp_iff, implies_true, and_true]
  refine .pat q36 R36 (fun v => (v.1.2.2.1 - v.1.2.2.2.1).toNat) ?_
  rintro ⟨⟨⟨⟩, (L : List Ent), (n : Int), (k : Int), ⟨⟩⟩, ⟨(m : TMap), ⟨⟨⟩, (nx : Int), ⟨⟩⟩, ⟨⟩⟩⟩ ih
  refine Gives.run (t' := .ite (decide (k < n)) (.need (inR k (List.length L)) (.need true (.ite (!(nameF ((List.getD L (Int.toNat k) (ByteArray.empty, (false, (0 : Int))))).1)) (.ret (.rt, ⟨38, [(2, .e (.c (.nilp))), (3, rI (11 : Int))], []⟩)) (.need (decide (((0 : Int) ≤ nx) ∧ (nx ≤ (1000000 : Int)))) (.ite ((((mkF m nx ((List.getD L (Int.toNat k) (ByteArray.empty, (false, (0 : Int))))).1 (((List.getD L (Int.toNat k) (ByteArray.empty, (false, (0 : Int))))).2).1)).1).2 != (0 : Int)) (.ret (.rt, ⟨38, [(2, .e (.c (.nilp))), (3, rI (11 : Int))], []⟩)) (.need (decide (((-(9223372036854775808 : Int) : Int) ≤ (k + (1 : Int) : Int)) ∧ ((k + (1 : Int) : Int) ≤ (9223372036854775807 : Int)))) (.ret (.nx, ⟨38, [(4, .e (.c (.np 14 0))), (15, rL tEnt L), (16, rI n), (17, rI (k + (1 : Int) : Int))], [(6, .cells 30 [.d (.v (.string ((List.getD L (Int.toNat k) (ByteArray.empty, (false, (0 : Int))))).1)), .d (.v (.bool (((List.getD L (Int.toNat k) (ByteArray.empty, (false, (0 : Int))))).2).1)), .d (.v (.int .i64 (((List.getD L (Int.toNat k) (ByteArray.empty, (false, (0 : Int))))).2).2))]), (12, .map true true tKey tVal (((mkF m nx ((List.getD L (Int.toNat k) (ByteArray.empty, (false, (0 : Int))))).1 (((List.getD L (Int.toNat k) (ByteArray.empty, (false, (0 : Int))))).2).1)).2).1), (14, .cells 103 [.mp 12, .d (.v (.int .i64 (((mkF m nx ((List.getD L (Int.toNat k) (ByteArray.empty, (false, (0 : Int))))).1 (((List.getD L (Int.toNat k) (ByteArray.empty, (false, (0 : Int))))).2).1)).2).2))])]⟩)))))))) (.ret (.ex 0, ⟨38, [(4, .e (.c (.np 14 0)))], [(12, .map true true tKey tVal m), (14, .cells 103 [.mp 12, .d (.v (.int .i64 nx))])]⟩))) (by kernel_rfl) ?_
  refine .rnd fun ⟨h1, h2, h3, h4, h5, h6⟩ => ?_
  refine .lif (fun hk => ?_) (fun hk => ?_)
  · have e : (k + 1).toNat = k.toNat + 1 := by omega
    rw [drop_at L k.toNat (ByteArray.empty, false, 0) (by omega)]
    refine .lneed (inR_of h3 (by omega)) (.lneed rfl ?_)
    generalize L.getD k.toNat (ByteArray.empty, false, 0) = x
    obtain ⟨p, d, c⟩ := x
    refine .lite (fun hx => ?_) (fun hx => ?_)
    · simp only [treeF, show (!nameF p) = true from hx, if_true]; exact .rtt rfl (.refl _)
    refine .lnd (by omega) (.lite (fun hy => ?_) (fun hy => ?_))
    · simp only [treeF, show (!nameF p) = false from hx, Bool.false_eq_true, if_false, show ((mkF m nx p d).1.2 != 0) = true from hy, if_true]; exact .rtt rfl (.refl _)
    · have hn : (mkF m nx p d).2.2 = nx ∨ (mkF m nx p d).2.2 = nx + 1 := by unfold mkF; (repeat' split) <;> simp
      refine .lnd (by omega) ?_
      refine Gives.next (σ' := q36.st (((), L, n, k + 1, ()), ((mkF m nx p d).2.1, ((), (mkF m nx p d).2.2, ()), ()))) (by kernel_rfl) ((ih (((), L, n, k + 1, ()), ((mkF m nx p d).2.1, ((), (mkF m nx p d).2.2, ()), ())) (by simp only; omega)).trans ?_)
      refine .nd ⟨h1, h2, by omega, by omega, by omega, by omega⟩ ?_
      rw [e]
      simp only [treeF, show (!nameF p) = false from hx, Bool.false_eq_true, if_false, show ((mkF m nx p d).1.2 != 0) = false from hy]
      exact .refl _
  · rw [List.drop_eq_nil_of_le (by omega)]
    exact .rff rfl (.refl _)
theorem EVs.any1 {M : Snap} {β : Plc} {x : EV} {l : List EV} {vs : List Value} (h : EVs M β (x :: l) vs) : EVs M β (.c .any :: l) vs := by
  cases h with
  | cons h1 h2 => exact .cons trivial h2
/-- are they a tree? -/
def treeOk (L : List Ent) : Bool := decide (L.length ≤ 8) && (treeF [] 0 L).isSome
def treeErr (L : List Ent) : Int := if treeOk L then 0 else 11
def newCtr : Ctr := ctr (one (aVal (.sl tEnt))) fun a => .ret (.tup [.c .any, eI (treeErr a.1)], [])
theorem new_ok : CtrOk Tryd.prog 21 newCtr := by
  refine CtrOk.lessC (F := fun a => .ite (decide (8 < a.1.length)) (.ret (.tup [.c .nilp, eI 11], []))
    (.ite (treeF [] 0 a.1).isNone (.ret (.tup [.c .nilp, eI 11], []))
    (.ret (.tup [.c (.np 14 0), eI 0], [(12, .map true true tKey tVal ((treeF [] 0 a.1).getD ([], 0)).1), (14, .cells 103 [.mp 12, .d (.v (.int .i64 ((treeF [] 0 a.1).getD ([], 0)).2))])])))) ?_ ?_
  · refine .mk C36_ok mixed (q := fn36) (.of Tryd.func21 (by kernel_rfl)) lp36_ok (by decide) ?_
    rintro ⟨(L : List Ent), ⟨⟩⟩ -
    refine Gives.of_eq (t' := .ite (decide ((8 : Int) < (((List.length L) : Nat) : Int))) (.ret (.tup [.c (.nilp), .c (.d (.v (.int .i64 (11 : Int))))], ⟨0, [], []⟩)) (.need (decide (((((List.length L) : Nat) : Int) = (((List.length L) : Nat) : Int)) ∧ (((((List.length L) : Nat) : Int) ≤ (8 : Int)) ∧ (((0 : Int) ≤ (0 : Int)) ∧ (((0 : Int) ≤ (((List.length L) : Nat) : Int)) ∧ (((0 : Int) ≤ (0 : Int)) ∧ ((0 : Int) ≤ (0 : Int)))))))) (.ite (Option.isNone (treeF ([] : List (Prod (Prod (Ty.El Ty.str) (Ty.El Ty.str)) (Prod (Ty.El (Ty.int IntKind.i64)) (Ty.El Ty.bool)))) (0 : Int) (List.drop 0 L))) (.ret (.tup [.c (.nilp), .c (.d (.v (.int .i64 (11 : Int))))], ⟨0, [], []⟩)) (.ret (.tup [.c (.np 14 0), .c (.d (.v (.int .i64 (0 : Int))))], ⟨0, [], [(12, .map true true tKey tVal ((Option.getD (treeF ([] : List (Prod (Prod (Ty.El Ty.str) (Ty.El Ty.str)) (Prod (Ty.El (Ty.int IntKind.i64)) (Ty.El Ty.bool)))) (0 : Int) (List.drop 0 L)) (([] : List (Prod Key (Prod Int Bool))), (0 : Int)))).1), (14, .cells 103 [.mp 12, .d (.v (.int .i64 ((Option.getD (treeF ([] : List (Prod (Prod (Ty.El Ty.str) (Ty.El Ty.str)) (Prod (Ty.El (Ty.int IntKind.i64)) (Ty.El Ty.bool)))) (0 : Int) (List.drop 0 L)) (([] : List (Prod Key (Prod Int Bool))), (0 : Int)))).2))])]⟩))))) (by kernel_rfl) ?_
    refine .if_ (fun h => ?_) (fun h => ?_)
    · exact .rtt (decide_eq_true (show 8 < L.length by omega)) (.refl _)
    refine .rff (decide_eq_false (show ¬ 8 < L.length by omega)) (.nd (by omega) (.ites (fun _ => ?_) (fun _ => ?_)))
    · exact .refl _
    · exact .refl _
  · rintro ⟨(L : List Ent), ⟨⟩⟩
    have hl : ∀ {x : SV × St} {e : Int} {y : EV}, x.1 = .tup [y, eI e] → x.2.n = 0 → x.2.env = [] → Less x (SV.tup [.c .any, eI e], ⟨0, [], []⟩) := fun h1 h2 h3 =>
      ⟨fun M β v hv => by rw [h1] at hv; obtain ⟨vs, e, h⟩ := hv; exact ⟨vs, e, h.any1⟩, h2.symm, h3.symm, fun _ _ h => by cases h⟩
    show LessT _ (.ret (SV.tup [.c .any, eI (treeErr L)], ⟨0, [], []⟩))
    refine .ite (fun h => ?_) (fun h => .ite (fun h' => ?_) (fun h' => ?_))
    · rw [show treeErr L = 11 by unfold treeErr treeOk; rw [decide_eq_false (by simpa using h)]; rfl]
      exact .ret (hl rfl rfl rfl)
    · rw [show treeErr L = 11 by unfold treeErr treeOk; rw [show (treeF [] 0 L).isSome = false by simpa using h', Bool.and_false]; rfl]
      exact .ret (hl rfl rfl rfl)
    · rw [show treeErr L = 0 by unfold treeErr treeOk; rw [show (treeF [] 0 L).isSome = true by simpa [Option.isSome_iff_ne_none] using h', decide_eq_true (by simpa using h)]; rfl]
      exact .ret (hl rfl rfl rfl)
end Go.Proofs.YtdngaaploooceaaDoor.Sy

/- Contracts: classes, and whether they have an input. -/
set_option maxRecDepth 100000
namespace Go.Proofs.YtdngaaploooceaaDoor.Sy
open Go.RowKit Kit Go.Proofs
abbrev Cls : Type := List Ent × List Int × Int × Int × Int
abbrev tInp : Ty := .pair (.sl tB) (.pair (.sl tB) (.sl .bool))
abbrev Inp : Type := List (List Int) × List (List Int) × List Bool
def filesCtr : Ctr := ctr (one (aAgg tCls)) fun a => .need (decide (a.1.1.length ≤ 1000000)) (ans (rL tI (filesK 0 a.1.1)))

/-! ### class.Caps -/
/-- the caps of the files -/
def capsF : List Ent → List Int
  | [] => []
  | x :: r => if x.2.1 then capsF r else x.2.2 :: capsF r
noncomputable def fn40 := mkFn Tryd.f25
def C40 : Cx := ⟨T, [], [(22, filesCtr)], [], [FA]⟩
theorem C40_ok : CxOk Tryd.prog C40 := ⟨T_ok, .nil _, .cons files_ok (.nil _), .nil _⟩
def nr40 : List NR := [⟨3, tI, 3⟩]
def q40 : Frm := ⟨27, [(1, .ptr tCls), (3, .row 3), (7, .dat (.sl tI)), (8, .dat tI), (9, .dat tI)], [(3, .row tI 3)]⟩
def capsAt (t : List Ent) (l : List Int) : List Int := l.map fun i => (t.getD i.toNat (ByteArray.empty, false, 0)).2.2
def idxIn (n : Nat) (L : List Int) : Bool := L.all fun i => decide (0 ≤ i ∧ i < n)
def R40 : q40.V → Tr (Ex × St) := fun (((c : Cls), _, (L : List Int), (n : Int), (k : Int), _), (acc : List Int), _) =>
  .need (decide (n = L.length ∧ n ≤ 1000000 ∧ 0 ≤ k ∧ k ≤ n ∧ acc.length ≤ k ∧ idxIn c.1.length L = true)) (.ret (.ex 0, ⟨27, [(1, .e (.c (.dp (split tCls c)))), (3, .e (.c (.row 3)))], [(3, .row tI 3 (acc ++ capsAt c.1 (L.drop k.toNat)))]⟩))
def lp40 : LP := [(0, sumP q40 R40)]
theorem lp40_ok : LpsOk 0 C40 nr40 lp40 fn40.loops := by
  refine .all (by kernel_rfl) ?_
  simp only [lp40, List.forall_mem_cons, List.not_mem_nil, false_imp_iff, implies_true, and_true]
  refine .pat q40 R40 (fun v => (v.1.2.2.2.1 - v.1.2.2.2.2.1).toNat) ?_
  rintro ⟨⟨⟨(t : List Ent), (ar : List Int), (c1 : Int), (c2 : Int), (c3 : Int)⟩, ⟨⟩, (L : List Int), (n : Int), (k : Int), ⟨⟩⟩, ⟨(acc : List Int), ⟨⟩⟩⟩ ih
  refine Gives.run (t' := .ite (decide (k < n)) (.need (inR k (List.length L)) (.need (inR (List.getD L (Int.toNat k) (0 : Int)) (List.length t)) (.need true (.need (decide ((((List.length acc) + (List.length [(((List.getD t (Int.toNat (List.getD L (Int.toNat k) (0 : Int))) (ByteArray.empty, (false, (0 : Int))))).2).2]) : Nat) * (Lay.bytes L3) : Nat) ≤ 140737488355328)) (.need (decide (((-(9223372036854775808 : Int) : Int) ≤ (k + (1 : Int) : Int)) ∧ ((k + (1 : Int) : Int) ≤ (9223372036854775807 : Int)))) (.ret (.nx, ⟨27, [(1, .e (.c (.dp [.sl tEnt t, .sl tI ar, .v (.int .i64 c1), .v (.int .i64 c2), .v (.int .i64 c3)]))), (3, .e (.c (.row 21))), (7, rL tI L), (8, rI n), (9, rI (k + (1 : Int) : Int))], [(21, .row tI 3 (acc ++ [(((List.getD t (Int.toNat (List.getD L (Int.toNat k) (0 : Int))) (ByteArray.empty, (false, (0 : Int))))).2).2]))]⟩))))))) (.ret (.ex 0, ⟨27, [(1, .e (.c (.dp [.sl tEnt t, .sl tI ar, .v (.int .i64 c1), .v (.int .i64 c2), .v (.int .i64 c3)]))), (3, .e (.c (.row 3)))], [(3, .row tI 3 acc)]⟩))) (by kernel_rfl) ?_
  refine .rnd fun ⟨h1, h2, h3, h4, h5, h6⟩ => ?_
  have h6 : idxIn t.length L = true := h6
  refine .lif (fun hk => ?_) (fun hk => ?_)
  · have e : (k + 1).toNat = k.toNat + 1 := by omega
    have hi := List.all_eq_true.1 h6 _ (List.getElem_mem (show k.toNat < L.length by omega))
    have hg : L.getD k.toNat 0 = L[k.toNat]'(by omega) := by simp [List.getD_eq_getElem?_getD, List.getElem?_eq_getElem (show k.toNat < L.length by omega)]
    rw [← hg] at hi
    rw [drop_at L k.toNat 0 (by omega)]
    refine .lneed (inR_of h3 (by omega)) ?_
    generalize L.getD k.toNat 0 = x at hi ⊢
    have hi := of_decide_eq_true hi
    refine .lneed (inR_of hi.1 (by have := hi.2; omega)) (.lneed rfl (.lnd (by show (acc.length + 1) * 8 ≤ _; omega) (.lnd (by omega) ?_)))
    refine Gives.next (σ' := q40.st (((t, ar, c1, c2, c3), (), L, n, k + 1, ()), (acc ++ [(t.getD x.toNat (ByteArray.empty, false, 0)).2.2], ()))) (by kernel_rfl) ((ih (((t, ar, c1, c2, c3), (), L, n, k + 1, ()), (acc ++ [(t.getD x.toNat (ByteArray.empty, false, 0)).2.2], ())) (by simp only; omega)).trans ?_)
    refine .nd ⟨h1, h2, by omega, by omega, by rw [List.length_append]; simp; omega, h6⟩ ?_
    rw [e, List.append_assoc]; exact .refl _
  · rw [List.drop_eq_nil_of_le (by omega)]
    simp only [capsAt, List.map_nil, List.append_nil]
    exact .refl _
theorem filesK_at : ∀ (t : List Ent) (k : Int), 0 ≤ k → ∀ i ∈ filesK k t, k ≤ i ∧ i < k + t.length
  | [], _, _, i, h => by cases h
  | x :: r, k, hk, i, h => by
    rw [filesK] at h
    have ih := filesK_at r (k + 1) (by omega) i
    simp only [List.length_cons]
    split at h
    · have := ih h; omega
    · rcases List.mem_cons.1 h with h | h
      · omega
      · have := ih h; omega
theorem filesK_len : ∀ (t : List Ent) (k : Int), (filesK k t).length ≤ t.length
  | [], _ => Nat.le_refl _
  | x :: r, k => by
    rw [filesK]
    have ih := filesK_len r (k + 1)
    split <;> simp only [List.length_cons] <;> omega
theorem capsAt_files (p : List Ent) : ∀ (t : List Ent), capsAt (p ++ t) (filesK p.length t) = capsF t
  | [] => rfl
  | x :: r => by
    have ih := capsAt_files (p ++ [x]) r
    rw [List.append_assoc, List.singleton_append, List.length_append] at ih
    simp only [List.length_cons, List.length_nil] at ih
    rw [filesK, capsF]
    split
    · exact ih
    · simp only [capsAt, List.map_cons]
      congr 1
      simp [List.getD_eq_getElem?_getD]
def capsC (c : Cls) : List Int := capsF c.1 ++ c.2.1
def capsCtr : Ctr := ctr (one (aAgg tCls)) fun a => .need (decide (a.1.1.length ≤ 1000000 ∧ a.1.2.1.length ≤ 1000000)) (ans (rL tI (capsC a.1)))
theorem caps_ok : CtrOk Tryd.prog 25 capsCtr := by
  refine .mk C40_ok mixed (q := fn40) (.of Tryd.func25 (by kernel_rfl)) lp40_ok (by decide) ?_
  rintro ⟨⟨(t : List Ent), (ar : List Int), (c1 : Int), (c2 : Int), (c3 : Int)⟩, ⟨⟩⟩ -
  refine Gives.of_eq (t' := .need true (.need (decide ((List.length t) ≤ 1000000)) (.need (decide (((((List.length (filesK (0 : Int) t)) : Nat) : Int) = (((List.length (filesK (0 : Int) t)) : Nat) : Int)) ∧ (((((List.length (filesK (0 : Int) t)) : Nat) : Int) ≤ (1000000 : Int)) ∧ (((0 : Int) ≤ (0 : Int)) ∧ (((0 : Int) ≤ (((List.length (filesK (0 : Int) t)) : Nat) : Int)) ∧ (((((List.length ([] : List Int)) : Nat) : Int) ≤ (0 : Int)) ∧ ((idxIn (List.length t) (filesK (0 : Int) t)) = true))))))) (.need true (.need (decide ((((List.length (([] : List Int) ++ (capsAt t (List.drop 0 (filesK (0 : Int) t))))) + (List.length ar) : Nat) * (Lay.bytes L3) : Nat) ≤ 140737488355328)) (.ret (rL tI ((([] : List Int) ++ (capsAt t (List.drop 0 (filesK (0 : Int) t)))) ++ ar), ⟨0, [], []⟩))))))) (by kernel_rfl) ?_
  show Gives _ (.need _ (.ret (rL tI (capsF t ++ ar), (⟨0, [], []⟩ : St))))
  refine .rnd fun ⟨h1, h2⟩ => ?_
  have h1 : t.length ≤ 1000000 := h1
  have h2 : ar.length ≤ 1000000 := h2
  have hf := filesK_len t 0
  have ha : capsAt t (filesK 0 t) = capsF t := capsAt_files [] t
  have hl : (capsF t).length ≤ t.length := by rw [← ha]; simpa [capsAt] using hf
  have hi : idxIn t.length (filesK 0 t) = true := List.all_eq_true.2 fun i hi => decide_eq_true (by have := filesK_at t 0 (by omega) i hi; omega)
  refine .need rfl (.nd h1 (.nd ⟨rfl, by omega, by omega, by omega, by simp, hi⟩ (.need rfl ?_)))
  rw [List.drop_zero, List.nil_append, ha]
  exact .nd (by show ((capsF t).length + ar.length) * 8 ≤ _; omega) (.refl _)

/-! ### class.May -/
def entOk (x : Ent) : Bool := decide (0 ≤ x.2.2) && decide (x.2.2 ≤ 3) && !(x.2.1 && x.2.2 != 0)
def capOk (n : Int) : Bool := decide (0 ≤ n) && decide (n ≤ 3)
def cMay (c : Cls) : Bool :=
  treeOk c.1 && decide ((filesK 0 c.1).length ≤ 4) && decide (c.2.1.length ≤ 2) && c.1.all entOk && c.2.1.all capOk &&
    (decide (0 ≤ c.2.2.1) && decide (c.2.2.1 ≤ 6)) && (decide (0 ≤ c.2.2.2.1) && decide (c.2.2.2.1 ≤ c.2.2.1)) && (decide (0 ≤ c.2.2.2.2) && decide (c.2.2.2.2 ≤ 400))
noncomputable def fn21 := mkFn Tryd.f10
def fitsCtr : Ctr := ctr (two aI aI) fun a => ans (rB (decide (0 ≤ a.1) && decide (a.1 ≤ a.2.1)))
noncomputable def C21 : Cx := ⟨T, FL, [(22, filesCtr), (21, newCtr), (23, fitsCtr)], [], []⟩
theorem C21_ok : CxOk Tryd.prog C21 := ⟨T_ok, FL_ok, .cons files_ok (.cons new_ok (.cons fits_ok (.nil _))), .nil _⟩
def q21a : Frm := ⟨76, [(1, .ptr tCls), (30, .dat (.sl tEnt)), (31, .dat tI), (32, .dat tI)], []⟩
def R21a : q21a.V → Tr (Ex × St) := fun (((c : Cls), (L : List Ent), (n : Int), (k : Int), _), _) =>
  .need (decide (n = L.length ∧ n ≤ 9223372036854775807 ∧ 0 ≤ k ∧ k ≤ n)) (.ite ((L.drop k.toNat).all entOk) (.ret (.ex 0, ⟨76, [(1, .e (.c (.dp (split tCls c))))], []⟩)) (.ret (.rt, ⟨76, [(2, .e (.c (.kb false)))], []⟩)))
def q21b : Frm := ⟨76, [(1, .ptr tCls), (51, .dat (.sl tI)), (52, .dat tI), (53, .dat tI)], []⟩
def R21b : q21b.V → Tr (Ex × St) := fun (((c : Cls), (L : List Int), (n : Int), (k : Int), _), _) =>
  .need (decide (n = L.length ∧ n ≤ 9223372036854775807 ∧ 0 ≤ k ∧ k ≤ n)) (.ite ((L.drop k.toNat).all capOk) (.ret (.ex 2, ⟨76, [(1, .e (.c (.dp (split tCls c))))], []⟩)) (.ret (.rt, ⟨76, [(2, .e (.c (.kb false)))], []⟩)))
noncomputable def lp21 : LP := [(0, sumP q21a R21a), (2, sumP q21b R21b)]
theorem lp21_ok : LpsOk 0 C21 [] lp21 fn21.loops := by
  refine .all (by kernel_rfl) ?_
  simp only [lp21, List.forall_mem_cons, List.not_mem_nil, false_imp_iff, implies_true, and_true]
  constructor
  · refine .pat q21a R21a (fun v => (v.1.2.2.1 - v.1.2.2.2.1).toNat) ?_
    rintro ⟨⟨⟨(t : List Ent), (ar : List Int), (c1 : Int), (c2 : Int), (c3 : Int)⟩, (L : List Ent), (n : Int), (k : Int), ⟨⟩⟩, ⟨⟩⟩ ih
    refine Gives.run (t' := .ite (decide (k < n)) (.need (inR k (List.length L)) (.need true (.ite (!((decide ((0 : Int) ≤ (((List.getD L (Int.toNat k) (ByteArray.empty, (false, (0 : Int))))).2).2)) && (decide ((((List.getD L (Int.toNat k) (ByteArray.empty, (false, (0 : Int))))).2).2 ≤ (3 : Int))))) (.ret (.rt, ⟨76, [(2, .e (.c (.kb false)))], []⟩)) (.ite (((List.getD L (Int.toNat k) (ByteArray.empty, (false, (0 : Int))))).2).1 (.ite ((((List.getD L (Int.toNat k) (ByteArray.empty, (false, (0 : Int))))).2).2 != (0 : Int)) (.ret (.rt, ⟨76, [(2, .e (.c (.kb false)))], []⟩)) (.need (decide (((-(9223372036854775808 : Int) : Int) ≤ (k + (1 : Int) : Int)) ∧ ((k + (1 : Int) : Int) ≤ (9223372036854775807 : Int)))) (.ret (.nx, ⟨76, [(1, .e (.c (.dp [.sl tEnt t, .sl tI ar, .v (.int .i64 c1), .v (.int .i64 c2), .v (.int .i64 c3)]))), (30, rL tEnt L), (31, rI n), (32, rI (k + (1 : Int) : Int))], [(6, .cells 30 [.d (.v (.string ((List.getD L (Int.toNat k) (ByteArray.empty, (false, (0 : Int))))).1)), .d (.v (.bool (((List.getD L (Int.toNat k) (ByteArray.empty, (false, (0 : Int))))).2).1)), .d (.v (.int .i64 (((List.getD L (Int.toNat k) (ByteArray.empty, (false, (0 : Int))))).2).2))])]⟩)))) (.need (decide (((-(9223372036854775808 : Int) : Int) ≤ (k + (1 : Int) : Int)) ∧ ((k + (1 : Int) : Int) ≤ (9223372036854775807 : Int)))) (.ret (.nx, ⟨76, [(1, .e (.c (.dp [.sl tEnt t, .sl tI ar, .v (.int .i64 c1), .v (.int .i64 c2), .v (.int .i64 c3)]))), (30, rL tEnt L), (31, rI n), (32, rI (k + (1 : Int) : Int))], [(6, .cells 30 [.d (.v (.string ((List.getD L (Int.toNat k) (ByteArray.empty, (false, (0 : Int))))).1)), .d (.v (.bool (((List.getD L (Int.toNat k) (ByteArray.empty, (false, (0 : Int))))).2).1)), .d (.v (.int .i64 (((List.getD L (Int.toNat k) (ByteArray.empty, (false, (0 : Int))))).2).2))])]⟩))))))) (.ret (.ex 0, ⟨76, [(1, .e (.c (.dp [.sl tEnt t, .sl tI ar, .v (.int .i64 c1), .v (.int .i64 c2), .v (.int .i64 c3)])))], []⟩))) (by kernel_rfl) ?_
    refine .rnd fun ⟨h1, h2, h3, h4⟩ => ?_
    refine .lif (fun hk => ?_) (fun hk => ?_)
    · have e : (k + 1).toNat = k.toNat + 1 := by omega
      rw [drop_at L k.toNat (ByteArray.empty, false, 0) (by omega)]
      refine .lneed (inR_of h3 (by omega)) (.lneed rfl ?_)
      generalize L.getD k.toNat (ByteArray.empty, false, 0) = x
      obtain ⟨p, d, c⟩ := x
      have last : ∀ σ, (fn21.at 0).h [] σ = q21a.st (((t, ar, c1, c2, c3), L, n, k + 1, ()), ()) → entOk (p, d, c) = true → Gives ((Tr.need (decide (((-9223372036854775808 : Int) ≤ k + 1) ∧ (k + 1 ≤ (9223372036854775807 : Int)))) (.ret (Ex.nx, σ))).bind (again (n - k).toNat ((fn21.at 0).f 0 C21 [] lp21) ((fn21.at 0).h [])))
          (.ite (((p, d, c) :: L.drop (k.toNat + 1)).all entOk) (.ret (.ex 0, ⟨76, [(1, .e (.c (.dp (split tCls (t, ar, c1, c2, c3)))))], []⟩)) (.ret (.rt, ⟨76, [(2, .e (.c (.kb false)))], []⟩))) := fun σ hσ hx => by
        refine .lnd (by omega) (Gives.next hσ ((ih (((t, ar, c1, c2, c3), L, n, k + 1, ()), ()) (by simp only; omega)).trans ?_))
        refine .nd ⟨h1, h2, by omega, by omega⟩ ?_
        rw [e]; exact .rb (all_t hx) (.refl _)
      refine .lite (fun hx => ?_) (fun hx => ?_)
      · have hx : (decide (0 ≤ c) && decide (c ≤ 3)) = false := by rw [← Bool.not_eq_true']; exact hx
        exact .rff (all_f (by unfold entOk; rw [hx]; rfl)) (.refl _)
      have hxx : (decide (0 ≤ c) && decide (c ≤ 3)) = true := by rw [← Bool.not_eq_false']; exact hx
      refine .lite (fun hd => ?_) (fun hd => ?_)
      · have hd : d = true := hd
        subst hd
        refine .lite (fun hc => ?_) (fun hc => ?_)
        · exact .rff (all_f (by unfold entOk; rw [hxx, show (c != 0) = true from hc]; rfl)) (.refl _)
        · exact last _ (by kernel_rfl) (by unfold entOk; rw [hxx, show (c != 0) = false from hc]; rfl)
      · have hd : d = false := hd
        subst hd
        exact last _ (by kernel_rfl) (by unfold entOk; rw [hxx]; rfl)
    · rw [List.drop_eq_nil_of_le (by omega)]
      exact .rtt rfl (.refl _)
  · refine .pat q21b R21b (fun v => (v.1.2.2.1 - v.1.2.2.2.1).toNat) ?_
    rintro ⟨⟨⟨(t : List Ent), (ar : List Int), (c1 : Int), (c2 : Int), (c3 : Int)⟩, (L : List Int), (n : Int), (k : Int), ⟨⟩⟩, ⟨⟩⟩ ih
    refine Gives.run (t' := .ite (decide (k < n)) (.need (inR k (List.length L)) (.ite (!((decide ((0 : Int) ≤ (List.getD L (Int.toNat k) (0 : Int)))) && (decide ((List.getD L (Int.toNat k) (0 : Int)) ≤ (3 : Int))))) (.ret (.rt, ⟨76, [(2, .e (.c (.kb false)))], []⟩)) (.need (decide (((-(9223372036854775808 : Int) : Int) ≤ (k + (1 : Int) : Int)) ∧ ((k + (1 : Int) : Int) ≤ (9223372036854775807 : Int)))) (.ret (.nx, ⟨76, [(1, .e (.c (.dp [.sl tEnt t, .sl tI ar, .v (.int .i64 c1), .v (.int .i64 c2), .v (.int .i64 c3)]))), (51, rL tI L), (52, rI n), (53, rI (k + (1 : Int) : Int))], []⟩))))) (.ret (.ex 2, ⟨76, [(1, .e (.c (.dp [.sl tEnt t, .sl tI ar, .v (.int .i64 c1), .v (.int .i64 c2), .v (.int .i64 c3)])))], []⟩))) (by kernel_rfl) ?_
    refine .rnd fun ⟨h1, h2, h3, h4⟩ => ?_
    refine .lif (fun hk => ?_) (fun hk => ?_)
    · have e : (k + 1).toNat = k.toNat + 1 := by omega
      rw [drop_at L k.toNat 0 (by omega)]
      refine .lneed (inR_of h3 (by omega)) ?_
      generalize L.getD k.toNat 0 = x
      refine .lite (fun hx => ?_) (fun hx => ?_)
      · exact .rff (all_f (by rw [← Bool.not_eq_true']; exact hx)) (.refl _)
      · refine .rb (all_t (by rw [← Bool.not_eq_false']; exact hx)) (.lnd (by omega) ?_)
        refine Gives.next (σ' := q21b.st (((t, ar, c1, c2, c3), L, n, k + 1, ()), ())) (by kernel_rfl) ((ih (((t, ar, c1, c2, c3), L, n, k + 1, ()), ()) (by simp only; omega)).trans ?_)
        refine .nd ⟨h1, h2, by omega, by omega⟩ ?_
        rw [e]; exact .refl _
    · rw [List.drop_eq_nil_of_le (by omega)]
      exact .rtt rfl (.refl _)
def cMayCtr : Ctr := ctr (one (aAgg tCls)) fun a => ans (rB (cMay a.1))
theorem cMay_ok : CtrOk Tryd.prog 10 cMayCtr := by
  refine .mk C21_ok mixed (q := fn21) (.of Tryd.func10 (by kernel_rfl)) lp21_ok (by decide) ?_
  rintro ⟨⟨(t : List Ent), (ar : List Int), (c1 : Int), (c2 : Int), (c3 : Int)⟩, ⟨⟩⟩ hb
  refine Gives.of_eq (t' := .ite ((treeErr t) != (0 : Int)) (.ret (rB false, ⟨0, [], []⟩)) (.need true (.need (decide ((List.length t) ≤ 1000000)) (.ite (decide ((4 : Int) < (((List.length (filesK (0 : Int) t)) : Nat) : Int))) (.ret (rB false, ⟨0, [], []⟩)) (.ite (decide ((2 : Int) < (((List.length ar) : Nat) : Int))) (.ret (rB false, ⟨0, [], []⟩)) (.need (decide (((((List.length t) : Nat) : Int) = (((List.length t) : Nat) : Int)) ∧ (((((List.length t) : Nat) : Int) ≤ (9223372036854775807 : Int)) ∧ (((0 : Int) ≤ (0 : Int)) ∧ ((0 : Int) ≤ (((List.length t) : Nat) : Int)))))) (.ite (List.all (List.drop 0 t) entOk) (.need (decide (((((List.length ar) : Nat) : Int) = (((List.length ar) : Nat) : Int)) ∧ (((((List.length ar) : Nat) : Int) ≤ (9223372036854775807 : Int)) ∧ (((0 : Int) ≤ (0 : Int)) ∧ ((0 : Int) ≤ (((List.length ar) : Nat) : Int)))))) (.ite (List.all (List.drop 0 ar) capOk) (.ite ((decide ((0 : Int) ≤ c1)) && (decide (c1 ≤ (6 : Int)))) (.ite ((decide ((0 : Int) ≤ c2)) && (decide (c2 ≤ c1))) (.ret (rB ((decide ((0 : Int) ≤ c3)) && (decide (c3 ≤ (400 : Int)))), ⟨0, [], []⟩)) (.ret (rB false, ⟨0, [], []⟩))) (.ret (rB false, ⟨0, [], []⟩))) (.ret (rB false, ⟨0, [], []⟩)))) (.ret (rB false, ⟨0, [], []⟩))))))))) (by kernel_rfl) ?_
  have hba : ar.length ≤ 9223372036854775807 := hb.1.2.1.1
  show Gives _ (.ret (rB (cMay (t, ar, c1, c2, c3)), (⟨0, [], []⟩ : St)))
  unfold cMay treeErr
  simp only [List.drop_zero]
  cases ht : treeOk t with
  | false => exact .tt rfl (.refl _)
  | true =>
    have ht8 : t.length ≤ 8 := by simp only [treeOk, Bool.and_eq_true, decide_eq_true_eq] at ht; exact ht.1
    have hf := filesK_len t 0
    refine .ff rfl (.need rfl (.nd (by omega) (.if_ (fun h => ?_) (fun h => ?_))))
    · rw [decide_eq_false (show ¬ (filesK 0 t).length ≤ 4 by omega)]; exact .refl _
    rw [decide_eq_true (show (filesK 0 t).length ≤ 4 by omega)]
    refine .if_ (fun h => ?_) (fun h => ?_)
    · rw [decide_eq_false (show ¬ ar.length ≤ 2 by omega)]; exact .refl _
    rw [decide_eq_true (show ar.length ≤ 2 by omega)]
    refine .nd ⟨trivial, by omega, by omega, by omega⟩ (.ite (fun h => ?_) (fun h => ?_))
    · rw [h]
      refine .nd ⟨trivial, by omega, by omega, by omega⟩ (.ite (fun h => ?_) (fun h => ?_))
      · rw [h]
        refine .ite (fun h => ?_) (fun h => ?_)
        · rw [h]
          refine .ite (fun h => ?_) (fun h => ?_)
          · rw [h]; exact .refl _
          · rw [h]; exact .refl _
        · rw [h]; exact .refl _
      · rw [h]; exact .refl _
    · rw [h]; exact .refl _

/-! ### class.Has -/
def fitL : List Int → List (List Int) → Bool
  | c :: cs, t :: ts => decide ((t.length : Int) ≤ c) && fitL cs ts
  | _, _ => true
def fMay (l : List Bool) (calls most : Int) : Bool := decide (((l.length : Nat) : Int) = calls) && decide (calls ≤ 6) && decide (trues l ≤ most)
def cHas (c : Cls) (i : Inp) : Bool :=
  cMay c && decide (i.1.length = (filesK 0 c.1).length) && decide (i.2.1.length = c.2.1.length) && fMay i.2.2 c.2.2.1 c.2.2.2.1 && fitL (capsC c) (i.1 ++ i.2.1)
noncomputable def fn22 := mkFn Tryd.f11
def fMayCtr : Ctr := ctr (three (aVal (.sl .bool)) aI aI) fun a => ans (rB (fMay a.1 a.2.1 a.2.2.1))
noncomputable def C22 : Cx := ⟨T, FL, [(22, filesCtr), (10, cMayCtr), (25, capsCtr), (24, fMayCtr)], [], []⟩
theorem C22_ok : CxOk Tryd.prog C22 := ⟨T_ok, FL_ok, .cons files_ok (.cons cMay_ok (.cons caps_ok (.cons fmay_ok (.nil _)))), .nil _⟩
def q22 : Frm := ⟨79, [(3, .ptr tInp), (5, .dat tI), (41, .dat (.sl tI)), (42, .dat tI), (43, .dat tI)], []⟩
def R22 : q22.V → Tr (Ex × St) := fun (((i : Inp), (m : Int), (L : List Int), (n : Int), (k : Int), _), _) =>
  .need (decide (n = L.length ∧ n ≤ 1000000 ∧ 0 ≤ k ∧ k ≤ n ∧ m = i.1.length ∧ (L.length : Int) = i.1.length + i.2.1.length)) (.ite (fitL (L.drop k.toNat) ((i.1 ++ i.2.1).drop k.toNat)) (.ret (.ex 0, ⟨79, [], []⟩)) (.ret (.rt, ⟨79, [(4, .e (.c (.kb false)))], []⟩)))
def lp22 : LP := [(0, sumP q22 R22)]
theorem lp22_ok : LpsOk 0 C22 [] lp22 fn22.loops := by
  refine .all (by kernel_rfl) ?_
  simp only [lp22, List.forall_mem_cons, List.not_mem_nil, false_imp_iff, implies_true, and_true]
  refine .pat q22 R22 (fun v => (v.1.2.2.2.1 - v.1.2.2.2.2.1).toNat) ?_
  rintro ⟨⟨⟨(fs : List (List Int)), (ar : List (List Int)), (fl : List Bool)⟩, (m : Int), (L : List Int), (n : Int), (k : Int), ⟨⟩⟩, ⟨⟩⟩ ih
  refine Gives.run (t' := .ite (decide (k < n)) (.need (inR k (List.length L)) (.ite (decide (k < m)) (.need (inR k (List.length fs)) (.ite (decide ((List.getD L (Int.toNat k) (0 : Int)) < (((List.length (List.getD fs (Int.toNat k) ([] : List Int))) : Nat) : Int))) (.ret (.rt, ⟨79, [(4, .e (.c (.kb false)))], []⟩)) (.ite (decide (m ≤ k)) (.need (decide (((-(9223372036854775808 : Int) : Int) ≤ (k - m : Int)) ∧ ((k - m : Int) ≤ (9223372036854775807 : Int)))) (.need (inR (k - m : Int) (List.length ar)) (.ite (decide ((List.getD L (Int.toNat k) (0 : Int)) < (((List.length (List.getD ar (Int.toNat (k - m : Int)) ([] : List Int))) : Nat) : Int))) (.ret (.rt, ⟨79, [(4, .e (.c (.kb false)))], []⟩)) (.need (decide (((-(9223372036854775808 : Int) : Int) ≤ (k + (1 : Int) : Int)) ∧ ((k + (1 : Int) : Int) ≤ (9223372036854775807 : Int)))) (.ret (.nx, ⟨79, [(3, .e (.c (.dp [.sl tB fs, .sl tB ar, .sl Ty.bool fl]))), (5, rI m), (41, rL tI L), (42, rI n), (43, rI (k + (1 : Int) : Int))], []⟩)))))) (.need (decide (((-(9223372036854775808 : Int) : Int) ≤ (k + (1 : Int) : Int)) ∧ ((k + (1 : Int) : Int) ≤ (9223372036854775807 : Int)))) (.ret (.nx, ⟨79, [(3, .e (.c (.dp [.sl tB fs, .sl tB ar, .sl Ty.bool fl]))), (5, rI m), (41, rL tI L), (42, rI n), (43, rI (k + (1 : Int) : Int))], []⟩)))))) (.ite (decide (m ≤ k)) (.need (decide (((-(9223372036854775808 : Int) : Int) ≤ (k - m : Int)) ∧ ((k - m : Int) ≤ (9223372036854775807 : Int)))) (.need (inR (k - m : Int) (List.length ar)) (.ite (decide ((List.getD L (Int.toNat k) (0 : Int)) < (((List.length (List.getD ar (Int.toNat (k - m : Int)) ([] : List Int))) : Nat) : Int))) (.ret (.rt, ⟨79, [(4, .e (.c (.kb false)))], []⟩)) (.need (decide (((-(9223372036854775808 : Int) : Int) ≤ (k + (1 : Int) : Int)) ∧ ((k + (1 : Int) : Int) ≤ (9223372036854775807 : Int)))) (.ret (.nx, ⟨79, [(3, .e (.c (.dp [.sl tB fs, .sl tB ar, .sl Ty.bool fl]))), (5, rI m), (41, rL tI L), (42, rI n), (43, rI (k + (1 : Int) : Int))], []⟩)))))) (.need (decide (((-(9223372036854775808 : Int) : Int) ≤ (k + (1 : Int) : Int)) ∧ ((k + (1 : Int) : Int) ≤ (9223372036854775807 : Int)))) (.ret (.nx, ⟨79, [(3, .e (.c (.dp [.sl tB fs, .sl tB ar, .sl Ty.bool fl]))), (5, rI m), (41, rL tI L), (42, rI n), (43, rI (k + (1 : Int) : Int))], []⟩)))))) (.ret (.ex 0, ⟨79, [], []⟩))) (by kernel_rfl) ?_
  refine .rnd fun ⟨h1, h2, h3, h4, h5, h6⟩ => ?_
  have h5 : m = fs.length := h5
  have h6 : (L.length : Int) = fs.length + ar.length := h6
  show Gives _ (.ite (fitL (L.drop k.toNat) ((fs ++ ar).drop k.toNat)) _ _)
  refine .lif (fun hk => ?_) (fun hk => ?_)
  · have e : (k + 1).toNat = k.toNat + 1 := by omega
    rw [drop_at L k.toNat 0 (by omega), drop_at (fs ++ ar) k.toNat [] (by rw [List.length_append]; omega)]
    refine .lneed (inR_of h3 (by omega)) ?_
    have hgo : Gives ((Tr.need (decide (((-9223372036854775808 : Int) ≤ k + 1) ∧ (k + 1 ≤ (9223372036854775807 : Int)))) (.ret (Ex.nx, q22.st (((fs, ar, fl), m, L, n, k + 1, ()), ())))).bind (again (n - k).toNat ((fn22.at 0).f 0 C22 [] lp22) ((fn22.at 0).h [])))
        (.ite (fitL (L.drop (k.toNat + 1)) ((fs ++ ar).drop (k.toNat + 1))) (.ret (.ex 0, ⟨79, [], []⟩)) (.ret (.rt, ⟨79, [(4, .e (.c (.kb false)))], []⟩))) := by
      refine .lnd (by omega) (Gives.next (σ' := q22.st (((fs, ar, fl), m, L, n, k + 1, ()), ())) (by kernel_rfl) ((ih (((fs, ar, fl), m, L, n, k + 1, ()), ()) (by simp only; omega)).trans ?_))
      refine .nd ⟨h1, h2, by omega, by omega, h5, h6⟩ ?_
      rw [e]; exact .refl _
    have hgd : (fs ++ ar).getD k.toNat [] = if k < m then fs.getD k.toNat [] else ar.getD (k - m).toNat [] := by
      simp only [List.getD_eq_getElem?_getD]
      split
      · rw [List.getElem?_append_left (by omega)]
      · rw [List.getElem?_append_right (by omega), show k.toNat - fs.length = (k - m).toNat by omega]
    rw [fitL, hgd]
    refine .lif (fun hm => ?_) (fun hm => ?_)
    · rw [if_pos hm]
      refine .lneed (inR_of h3 (by omega)) (.lif (fun hx => ?_) (fun hx => ?_))
      · exact .rff (by rw [decide_eq_false (by omega)]; rfl) (.refl _)
      · refine .rb (by rw [decide_eq_true (by omega), Bool.true_and]) (.lif (fun hx => absurd hm (by omega)) (fun _ => hgo))
    · rw [if_neg hm]
      refine .lif (fun _ => ?_) (fun hx => absurd hm (by omega))
      refine .lnd (by omega) (.lneed (inR_of (by omega) (by omega)) (.lif (fun hx => ?_) (fun hx => ?_)))
      · exact .rff (by rw [decide_eq_false (by omega)]; rfl) (.refl _)
      · exact .rb (by rw [decide_eq_true (by omega), Bool.true_and]) hgo
  · rw [List.drop_eq_nil_of_le (by omega)]
    exact .rtt rfl (.refl _)
def cHasCtr : Ctr := ctr (two (aAgg tCls) (aAgg tInp)) fun a => .need (decide (a.1.1.length ≤ 1000000)) (ans (rB (cHas a.1 a.2.1)))
theorem cHas_ok : CtrOk Tryd.prog 11 cHasCtr := by
  refine .mk C22_ok mixed (q := fn22) (.of Tryd.func11 (by kernel_rfl)) lp22_ok (by decide) ?_
  rintro ⟨⟨(t : List Ent), (ar : List Int), (c1 : Int), (c2 : Int), (c3 : Int)⟩, ⟨(fs : List (List Int)), (as' : List (List Int)), (fl : List Bool)⟩, ⟨⟩⟩ hb
  refine Gives.of_eq (t' := .need true (.need (decide ((List.length t) ≤ 1000000)) (.need true (.ite (!(cMay (t, (ar, (c1, (c2, c3)))))) (.ret (rB false, ⟨0, [], []⟩)) (.ite ((((List.length fs) : Nat) : Int) != (((List.length (filesK (0 : Int) t)) : Nat) : Int)) (.ret (rB false, ⟨0, [], []⟩)) (.ite ((((List.length as') : Nat) : Int) != (((List.length ar) : Nat) : Int)) (.ret (rB false, ⟨0, [], []⟩)) (.ite (!(fMay fl c1 c2)) (.ret (rB false, ⟨0, [], []⟩)) (.need true (.need (decide (((List.length t) ≤ 1000000) ∧ ((List.length ar) ≤ 1000000))) (.need (decide (((((List.length (capsC (t, (ar, (c1, (c2, c3)))))) : Nat) : Int) = (((List.length (capsC (t, (ar, (c1, (c2, c3)))))) : Nat) : Int)) ∧ (((((List.length (capsC (t, (ar, (c1, (c2, c3)))))) : Nat) : Int) ≤ (1000000 : Int)) ∧ (((0 : Int) ≤ (0 : Int)) ∧ (((0 : Int) ≤ (((List.length (capsC (t, (ar, (c1, (c2, c3)))))) : Nat) : Int)) ∧ (((((List.length (filesK (0 : Int) t)) : Nat) : Int) = (((List.length fs) : Nat) : Int)) ∧ ((((List.length (capsC (t, (ar, (c1, (c2, c3)))))) : Nat) : Int) = ((((List.length fs) : Nat) : Int) + (((List.length as') : Nat) : Int) : Int)))))))) (.ite (fitL (List.drop 0 (capsC (t, (ar, (c1, (c2, c3)))))) (List.drop 0 (fs ++ as'))) (.ret (rB true, ⟨0, [], []⟩)) (.ret (rB false, ⟨0, [], []⟩))))))))))))) (by kernel_rfl) ?_
  show Gives _ (.need _ (.ret (rB (cHas (t, ar, c1, c2, c3) (fs, as', fl)), (⟨0, [], []⟩ : St))))
  refine .rnd fun h => ?_
  have h : t.length ≤ 1000000 := h
  have hf := filesK_len t 0
  have ht8 : cMay (t, ar, c1, c2, c3) = true → (filesK 0 t).length ≤ 4 := fun hm => by simp only [cMay, Bool.and_eq_true, decide_eq_true_eq] at hm; exact hm.1.1.1.1.1.1.2
  have hcl : (capsF t).length = (filesK 0 t).length := by rw [← capsAt_files [] t]; simp [capsAt]
  unfold cHas
  simp only [List.drop_zero]
  refine .need rfl (.nd h (.need rfl (.ite (fun h1 => ?_) (fun h1 => ?_))))
  · rw [show cMay (t, ar, c1, c2, c3) = false by rw [← Bool.not_eq_true']; exact h1]; exact .refl _
  rw [show cMay (t, ar, c1, c2, c3) = true by rw [← Bool.not_eq_false']; exact h1]
  have har : ar.length ≤ 2 := by
    have : cMay (t, ar, c1, c2, c3) = true := by rw [← Bool.not_eq_false']; exact h1
    simp only [cMay, Bool.and_eq_true, decide_eq_true_eq] at this; exact this.1.1.1.1.1.2
  have ht8 := ht8 (by rw [← Bool.not_eq_false']; exact h1)
  refine .ite (fun h2 => ?_) (fun h2 => ?_)
  · have h2 : ¬ fs.length = (filesK 0 t).length := by have := (bne_iff_ne).1 h2; omega
    rw [decide_eq_false h2]; exact .refl _
  have h2 : fs.length = (filesK 0 t).length := by have := (bne_eq_false_iff_eq).1 h2; omega
  rw [decide_eq_true h2]
  refine .ite (fun h3 => ?_) (fun h3 => ?_)
  · have h3 : ¬ as'.length = ar.length := by have := (bne_iff_ne).1 h3; omega
    rw [decide_eq_false h3]; exact .refl _
  have h3 : as'.length = ar.length := by have := (bne_eq_false_iff_eq).1 h3; omega
  rw [decide_eq_true h3]
  refine .ite (fun h4 => ?_) (fun h4 => ?_)
  · rw [show fMay fl c1 c2 = false by rw [← Bool.not_eq_true']; exact h4]; exact .refl _
  rw [show fMay fl c1 c2 = true by rw [← Bool.not_eq_false']; exact h4]
  have hc : (capsC (t, ar, c1, c2, c3)).length = fs.length + as'.length := by simp only [capsC, List.length_append]; omega
  refine .need rfl (.nd ⟨h, by omega⟩ (.nd ⟨trivial, by omega, by omega, by omega, by omega, by omega⟩ (.ite (fun h5 => ?_) (fun h5 => ?_))))
  · rw [h5]; exact .refl _
  · rw [h5]; exact .refl _
end Go.Proofs.YtdngaaploooceaaDoor.Sy

/- Contracts: programs, classes and traces as bytes; numbers as text. -/
set_option maxRecDepth 100000
namespace Go.Proofs.YtdngaaploooceaaDoor.Sy
open Go.RowKit Kit Go.Proofs
abbrev Prog : Type := List (Int × Int) × List ByteArray
abbrev tEv : Ty := .pair .bool (.int .u16)
abbrev tTr : Ty := .pair (.sl tEv) (.pair tI (.int .u16))
abbrev Trc : Type := List (Bool × Int) × Int × Int
def w8 (n : Int) : Int := IntKind.u8.wrap n
/-- the byte above the lowest -/
def hi8 (n : Int) : Int := IntKind.u8.wrap (Int.fdiv n (2 ^ 8))

/-! ### prog.Bytes -/
def nameB (s : ByteArray) : List Int := w8 s.size :: strB s
def instB (i : Int × Int) : List Int := [w8 i.1, hi8 i.2, w8 i.2]
def pBytes (p : Prog) : List Int := ([88, 82, w8 p.2.length] ++ p.2.flatMap nameB ++ [w8 p.1.length]) ++ p.1.flatMap instB
noncomputable def fn20 := mkFn Tryd.f9
def pmayCtr : Ctr := ctr (one (aAgg tProg)) fun a => ans (rI (pMay a.1))
def C20 : Cx := ⟨T, FL, [(20, pmayCtr)], [], [19, FA]⟩
theorem C20_ok : CxOk Tryd.prog C20 := ⟨T_ok, FL_ok, .cons pmay_ok (.nil _), .nil _⟩
def nr20 : List NR := [⟨5, tU, 5⟩]
def q20a : Frm := ⟨65, [(1, .ptr tProg), (5, .row 5), (21, .dat (.sl .str)), (22, .dat tI), (23, .dat tI)], [(5, .row tU 5)]⟩
def R20a : q20a.V → Tr (Ex × St) := fun (((p : Prog), _, (L : List ByteArray), (n : Int), (k : Int), _), (acc : List Int), _) =>
  .need (decide (n = L.length ∧ n ≤ 8 ∧ 0 ≤ k ∧ k ≤ n ∧ acc.length ≤ 1000 * (k + 1)) && L.all fun s => decide (s.size ≤ 255)) (.ret (.ex 0, ⟨65, [(1, .e (.c (.dp (split tProg p)))), (5, .e (.c (.row 5)))], [(5, .row tU 5 (acc ++ (L.drop k.toNat).flatMap nameB))]⟩))
def q20b : Frm := ⟨65, [(5, .row 5), (44, .dat (.sl tInst)), (45, .dat tI), (46, .dat tI)], [(5, .row tU 5)]⟩
def R20b : q20b.V → Tr (Ex × St) := fun ((_, (L : List (Int × Int)), (n : Int), (k : Int), _), (acc : List Int), _) =>
  .need (decide (n = L.length ∧ n ≤ 1000 ∧ 0 ≤ k ∧ k ≤ n ∧ acc.length ≤ 100000 + 3 * k)) (.ret (.ex 2, ⟨65, [(5, .e (.c (.row 5)))], [(5, .row tU 5 (acc ++ (L.drop k.toNat).flatMap instB))]⟩))
def lp20 : LP := [(0, sumP q20a R20a), (2, sumP q20b R20b)]
theorem lp20_ok : LpsOk 0 C20 nr20 lp20 fn20.loops := by
  refine .all (by kernel_rfl) ?_
  simp only [lp20, List.forall_mem_cons, List.not_mem_nil, false_imp_iff, implies_true, and_true]
  constructor
  · refine .pat q20a R20a (fun v => (v.1.2.2.2.1 - v.1.2.2.2.2.1).toNat) ?_
    rintro ⟨⟨⟨(pL : List (Int × Int)), (pN : List ByteArray)⟩, ⟨⟩, (L : List ByteArray), (n : Int), (k : Int), ⟨⟩⟩, ⟨(acc : List Int), ⟨⟩⟩⟩ ih
    refine Gives.run (t' := .ite (decide (k < n)) (.need (inR k (List.length L)) (.need true (.need (decide ((((List.length acc) + (List.length [(IntKind.wrap IntKind.u8 (((ByteArray.size (List.getD L (Int.toNat k) ByteArray.empty)) : Nat) : Int))]) : Nat) * (Lay.bytes L5) : Nat) ≤ 140737488355328)) (.need true (.need (decide ((((List.length (acc ++ [(IntKind.wrap IntKind.u8 (((ByteArray.size (List.getD L (Int.toNat k) ByteArray.empty)) : Nat) : Int))])) + (List.length (strB (List.getD L (Int.toNat k) ByteArray.empty))) : Nat) * (Lay.bytes L5) : Nat) ≤ 140737488355328)) (.need (decide (((-(9223372036854775808 : Int) : Int) ≤ (k + (1 : Int) : Int)) ∧ ((k + (1 : Int) : Int) ≤ (9223372036854775807 : Int)))) (.ret (.nx, ⟨65, [(1, .e (.c (.dp [.sl tInst pL, .sl Ty.str pN]))), (5, .e (.c (.row 34))), (21, rL Ty.str L), (22, rI n), (23, rI (k + (1 : Int) : Int))], [(34, .row tU 5 ((acc ++ [(IntKind.wrap IntKind.u8 (((ByteArray.size (List.getD L (Int.toNat k) ByteArray.empty)) : Nat) : Int))]) ++ (strB (List.getD L (Int.toNat k) ByteArray.empty))))]⟩)))))))) (.ret (.ex 0, ⟨65, [(1, .e (.c (.dp [.sl tInst pL, .sl Ty.str pN]))), (5, .e (.c (.row 5)))], [(5, .row tU 5 acc)]⟩))) (by kernel_rfl) ?_
    refine .rneed fun h => ?_
    simp only [Bool.and_eq_true, decide_eq_true_eq] at h
    obtain ⟨⟨h1, h2, h3, h4, h5⟩, h6⟩ := h
    refine .lif (fun hk => ?_) (fun hk => ?_)
    · have e : (k + 1).toNat = k.toNat + 1 := by omega
      have hx := of_decide_eq_true (List.all_eq_true.1 h6 _ (List.getElem_mem (show k.toNat < L.length by omega)))
      rw [show L[k.toNat]'(by omega) = L.getD k.toNat ByteArray.empty by simp [List.getD_eq_getElem?_getD, List.getElem?_eq_getElem (show k.toNat < L.length by omega)]] at hx
      rw [drop_at L k.toNat ByteArray.empty (by omega)]
      refine .lneed (inR_of h3 (by omega)) ?_
      generalize L.getD k.toNat ByteArray.empty = x at hx ⊢
      have hl := strB_length x
      refine .lneed rfl (.lnd (by show (acc.length + 1) * 1 ≤ _; omega) (.lneed rfl (.lnd (by show ((acc ++ _).length + (strB x).length) * 1 ≤ _; rw [List.length_append, List.length_singleton]; omega) (.lnd (by omega) ?_))))
      refine Gives.next (σ' := q20a.st (((pL, pN), (), L, n, k + 1, ()), ((acc ++ [w8 x.size]) ++ strB x, ()))) (by kernel_rfl) ((ih (((pL, pN), (), L, n, k + 1, ()), ((acc ++ [w8 x.size]) ++ strB x, ())) (by simp only; omega)).trans ?_)
      refine .need (by simp only [Bool.and_eq_true, decide_eq_true_eq]; exact ⟨⟨h1, h2, by omega, by omega, by simp only [List.length_append, List.length_singleton]; omega⟩, h6⟩) ?_
      simp only [e, List.flatMap_cons, nameB, List.append_assoc, List.cons_append, List.nil_append]
      exact .refl _
    · rw [List.drop_eq_nil_of_le (by omega), List.flatMap_nil, List.append_nil]
      exact .refl _
  · refine .pat q20b R20b (fun v => (v.1.2.2.1 - v.1.2.2.2.1).toNat) ?_
    rintro ⟨⟨⟨⟩, (L : List (Int × Int)), (n : Int), (k : Int), ⟨⟩⟩, ⟨(acc : List Int), ⟨⟩⟩⟩ ih
    refine Gives.run (t' := .ite (decide (k < n)) (.need (inR k (List.length L)) (.need true (.need true (.need true (.need (decide ((((List.length acc) + (List.length [(IntKind.wrap IntKind.u8 ((List.getD L (Int.toNat k) ((0 : Int), (0 : Int)))).1), (IntKind.wrap IntKind.u8 (Int.fdiv ((List.getD L (Int.toNat k) ((0 : Int), (0 : Int)))).2 ((2 : Int) ^ (Min.min 8 (IntKind.bits IntKind.i64)) : Int))), (IntKind.wrap IntKind.u8 ((List.getD L (Int.toNat k) ((0 : Int), (0 : Int)))).2)]) : Nat) * (Lay.bytes L5) : Nat) ≤ 140737488355328)) (.need (decide (((-(9223372036854775808 : Int) : Int) ≤ (k + (1 : Int) : Int)) ∧ ((k + (1 : Int) : Int) ≤ (9223372036854775807 : Int)))) (.ret (.nx, ⟨65, [(5, .e (.c (.row 62))), (44, rL tInst L), (45, rI n), (46, rI (k + (1 : Int) : Int))], [(9, .cells 24 [.d (.v (.int .i64 ((List.getD L (Int.toNat k) ((0 : Int), (0 : Int)))).1)), .d (.v (.int .i64 ((List.getD L (Int.toNat k) ((0 : Int), (0 : Int)))).2))]), (62, .row tU 5 (acc ++ [(IntKind.wrap IntKind.u8 ((List.getD L (Int.toNat k) ((0 : Int), (0 : Int)))).1), (IntKind.wrap IntKind.u8 (Int.fdiv ((List.getD L (Int.toNat k) ((0 : Int), (0 : Int)))).2 ((2 : Int) ^ (Min.min 8 (IntKind.bits IntKind.i64)) : Int))), (IntKind.wrap IntKind.u8 ((List.getD L (Int.toNat k) ((0 : Int), (0 : Int)))).2)]))]⟩)))))))) (.ret (.ex 2, ⟨65, [(5, .e (.c (.row 5)))], [(5, .row tU 5 acc)]⟩))) (by kernel_rfl) ?_
    refine .rnd fun ⟨h1, h2, h3, h4, h5⟩ => ?_
    refine .lif (fun hk => ?_) (fun hk => ?_)
    · have e : (k + 1).toNat = k.toNat + 1 := by omega
      rw [drop_at L k.toNat (0, 0) (by omega)]
      refine .lneed (inR_of h3 (by omega)) ?_
      generalize L.getD k.toNat (0, 0) = x
      refine .lneed rfl (.lneed rfl (.lneed rfl (.lnd (by show (acc.length + 3) * 1 ≤ _; omega) (.lnd (by omega) ?_))))
      refine Gives.next (σ' := q20b.st (((), L, n, k + 1, ()), (acc ++ instB x, ()))) (by kernel_rfl) ((ih (((), L, n, k + 1, ()), (acc ++ instB x, ())) (by simp only; omega)).trans ?_)
      refine .nd ⟨h1, h2, by omega, by omega, by rw [List.length_append]; simp [instB]; omega⟩ ?_
      rw [e, List.flatMap_cons, List.append_assoc]
      exact .refl _
    · rw [List.drop_eq_nil_of_le (by omega), List.flatMap_nil, List.append_nil]
      exact .refl _
theorem flat_len {α : Type} (f : α → List Int) (m : Nat) : ∀ l : List α, (∀ x ∈ l, (f x).length ≤ m) → (l.flatMap f).length ≤ m * l.length
  | [], _ => by simp
  | x :: r, h => by
    have h1 := h x (List.mem_cons_self ..)
    have h2 := flat_len f m r fun y hy => h y (List.mem_cons_of_mem _ hy)
    rw [List.flatMap_cons, List.length_append, List.length_cons, Nat.mul_succ]
    omega
theorem pMay_zero {L : List (Int × Int)} {N : List ByteArray} (h : pMay2 L N = 0) : L.length ≤ 96 ∧ N.length ≤ 8 ∧ N.all (fun s => decide (s.size ≤ 255)) = true ∧ L.all iMay = true := by
  unfold pMay2 at h
  split at h
  · cases h
  rename_i h1
  split at h
  · cases h
  rename_i h2
  split at h
  · cases h
  rename_i h3
  refine ⟨by omega, by omega, List.all_eq_true.2 fun s hs => ?_, List.all_eq_true.2 fun s hs => ?_⟩
  · cases e : decide (s.size ≤ 255) with
    | true => rfl
    | false => exact absurd (List.any_eq_true.2 ⟨s, hs, by simpa using e⟩) h2
  · cases e : iMay s with
    | true => rfl
    | false => exact absurd (List.any_eq_true.2 ⟨s, hs, by simp [e]⟩) h3
def pBytesE (p : Prog) : List Int := if pMay p = 0 then pBytes p else []
def pBytesCtr : Ctr := ctr (one (aAgg tProg)) fun a => .ret (.tup [eL tU (pBytesE a.1), eI (pMay a.1)], [])
theorem Less.tup1 {x y : EV} {l : List EV} {τ : St} (h : ∀ M β v, EVR M β x v → EVR M β y v) : Less (.tup (x :: l), τ) (.tup (y :: l), τ) :=
  ⟨fun M β v hv => by
    obtain ⟨vs, e, hs⟩ := hv
    refine ⟨vs, e, ?_⟩
    generalize vs.toList = us at hs ⊢
    cases hs with
    | cons h1 h2 => exact .cons (h M β _ h1) h2, rfl, rfl, fun _ _ h => h⟩
theorem pBytes_ok : CtrOk Tryd.prog 9 pBytesCtr := by
  refine CtrOk.lessC (F := fun a => .ite (pMay a.1 != 0) (.ret (.tup [.c .nil, eI (pMay a.1)], [])) (.ret (.tup [eL tU (pBytes a.1), eI 0], []))) ?_ ?_
  · refine .mk C20_ok mixed (q := fn20) (.of Tryd.func9 (by kernel_rfl)) lp20_ok (by decide) ?_
    rintro ⟨⟨(L : List (Int × Int)), (N : List ByteArray)⟩, ⟨⟩⟩ -
    refine Gives.of_eq (t' := .need true (.ite ((pMay (L, N)) != (0 : Int)) (.ret (.tup [.c (.nil), .c (.d (.v (.int .i64 (pMay (L, N)))))], ⟨0, [], []⟩)) (.need ((decide (((((List.length N) : Nat) : Int) = (((List.length N) : Nat) : Int)) ∧ (((((List.length N) : Nat) : Int) ≤ (8 : Int)) ∧ (((0 : Int) ≤ (0 : Int)) ∧ (((0 : Int) ≤ (((List.length N) : Nat) : Int)) ∧ ((((List.length [(88 : Int), (82 : Int), (IntKind.wrap IntKind.u8 (((List.length N) : Nat) : Int))]) : Nat) : Int) ≤ ((1000 : Int) * ((0 : Int) + (1 : Int) : Int) : Int))))))) && (List.all N (fun s => (decide ((ByteArray.size s) ≤ 255))))) (.need true (.need (decide ((((List.length ([(88 : Int), (82 : Int), (IntKind.wrap IntKind.u8 (((List.length N) : Nat) : Int))] ++ (List.flatMap nameB (List.drop 0 N)))) + (List.length [(IntKind.wrap IntKind.u8 (((List.length L) : Nat) : Int))]) : Nat) * (Lay.bytes L5) : Nat) ≤ 140737488355328)) (.need (decide (((((List.length L) : Nat) : Int) = (((List.length L) : Nat) : Int)) ∧ (((((List.length L) : Nat) : Int) ≤ (1000 : Int)) ∧ (((0 : Int) ≤ (0 : Int)) ∧ (((0 : Int) ≤ (((List.length L) : Nat) : Int)) ∧ ((((List.length (([(88 : Int), (82 : Int), (IntKind.wrap IntKind.u8 (((List.length N) : Nat) : Int))] ++ (List.flatMap nameB (List.drop 0 N))) ++ [(IntKind.wrap IntKind.u8 (((List.length L) : Nat) : Int))])) : Nat) : Int) ≤ ((100000 : Int) + ((3 : Int) * (0 : Int) : Int) : Int))))))) (.ret (.tup [.c (.d (.sl tU ((([(88 : Int), (82 : Int), (IntKind.wrap IntKind.u8 (((List.length N) : Nat) : Int))] ++ (List.flatMap nameB (List.drop 0 N))) ++ [(IntKind.wrap IntKind.u8 (((List.length L) : Nat) : Int))]) ++ (List.flatMap instB (List.drop 0 L))))), .c (.d (.v (.int .i64 (0 : Int))))], ⟨0, [], []⟩)))))))) (by kernel_rfl) ?_
    show Gives _ (.ite (pMay (L, N) != 0) _ (.ret (SV.tup [eL tU (pBytes (L, N)), eI 0], (⟨0, [], []⟩ : St))))
    refine .need rfl (.ites (fun _ => .refl _) (fun h => ?_))
    have h : pMay2 L N = 0 := by have h' : pMay (L, N) = 0 := by simpa using h
                                 exact h'
    obtain ⟨h1, h2, h3, h4⟩ := pMay_zero h
    have hf : (N.flatMap nameB).length ≤ 256 * N.length := flat_len nameB 256 N fun s hs => by
      have := of_decide_eq_true (List.all_eq_true.1 h3 s hs)
      simp only [nameB, List.length_cons, strB_length]; omega
    have hg : (L.flatMap instB).length ≤ 3 * L.length := flat_len instB 3 L fun s hs => by simp [instB]
    rw [List.drop_zero, List.drop_zero]
    have e1 : ([88, 82, w8 N.length] ++ N.flatMap nameB).length ≤ 3 + 256 * N.length := by rw [List.length_append]; simp only [List.length_cons, List.length_nil]; omega
    refine .need (by simp only [Bool.and_eq_true, decide_eq_true_eq]; exact ⟨⟨trivial, by omega, by omega, by omega, by simp⟩, h3⟩) (.need rfl (.nd (by show (([88, 82, w8 N.length] ++ N.flatMap nameB).length + 1) * 1 ≤ _; omega) (.nd ⟨rfl, by omega, by omega, by omega, ?_⟩ (.refl _))))
    rw [List.length_append]
    show (((([88, 82, w8 N.length] ++ N.flatMap nameB).length + 1 : Nat)) : Int) ≤ _
    omega
  · rintro ⟨⟨(L : List (Int × Int)), (N : List ByteArray)⟩, ⟨⟩⟩
    show LessT _ (.ret (SV.tup [eL tU (pBytesE (L, N)), eI (pMay (L, N))], ⟨0, [], []⟩))
    refine .ite (fun h => ?_) (fun h => ?_)
    · rw [show pBytesE (L, N) = [] by unfold pBytesE; rw [if_neg (by simpa using h)]]
      exact .ret (Less.tup1 fun _ _ _ => EVR.nilL)
    · have h : pMay (L, N) = 0 := by simpa using h
      rw [show pBytesE (L, N) = pBytes (L, N) by unfold pBytesE; rw [if_pos h], h]
      exact .ret (.refl _)

/-! ### image.two, number -/
noncomputable def fn65 := mkFn Tryd.f45
def twoF (n : Int) : List Int := [hi8 n, w8 n]
def twoCtr : Ctr := ctr (one aI) fun a => ans (rL tU (twoF a.1))
theorem two_ok : CtrOk Tryd.prog 45 twoCtr := by
  refine .mk C0_ok mixed (q := fn65) (.of Tryd.func45 (by kernel_rfl)) (N := 0) (nr := []) .none (by decide) ?_
  rintro ⟨(n : Int), ⟨⟩⟩ -
  refine Gives.of_eq (t' := .need true (.ret (rL (Ty.int IntKind.u8) [(IntKind.wrap IntKind.u8 (Int.fdiv n ((2 : Int) ^ (Min.min 8 (IntKind.bits IntKind.i64)) : Int))), (IntKind.wrap IntKind.u8 n)], ⟨0, [], []⟩))) (by kernel_rfl) ?_
  exact .need rfl (.refl _)
/-- the number of two bytes -/
def num2 (a b : Int) : Int := IntKind.wrap .i64 ((BitVec.toNat (BitVec.ofInt 64 (IntKind.wrap .i64 (IntKind.wrap .i64 a * 2 ^ 8)) ||| BitVec.ofInt 64 (IntKind.wrap .i64 b)) : Nat) : Int)
noncomputable def fn74 := mkFn Tryd.f57
def numCtr : Ctr := ctr (one (aVal tB)) fun a => .need (decide (2 ≤ a.1.length)) (ans (rI (num2 (a.1.getD 0 0) (a.1.getD 1 0))))
theorem num_ok : CtrOk Tryd.prog 57 numCtr := by
  refine .mk C0_ok mixed (q := fn74) (.of Tryd.func57 (by kernel_rfl)) (N := 0) (nr := []) .none (by decide) ?_
  rintro ⟨(l : List Int), ⟨⟩⟩ -
  refine Gives.of_eq (t' := .need (inR (0 : Int) (List.length l)) (.need true (.need (inR (1 : Int) (List.length l)) (.ret (rI (IntKind.wrap IntKind.i64 (((BitVec.toNat (HOr.hOr (BitVec.ofInt (IntKind.bits IntKind.i64) (IntKind.wrap IntKind.i64 ((IntKind.wrap IntKind.i64 (List.getD l 0 (0 : Int))) * ((2 : Int) ^ (Min.min 8 (IntKind.bits IntKind.i64)) : Int) : Int))) (BitVec.ofInt (IntKind.bits IntKind.i64) (IntKind.wrap IntKind.i64 (List.getD l 1 (0 : Int)))))) : Nat) : Int)), ⟨0, [], []⟩))))) (by kernel_rfl) ?_
  show Gives _ (.need _ (.ret (rI (num2 (l.getD 0 0) (l.getD 1 0)), (⟨0, [], []⟩ : St))))
  refine .rnd fun h => ?_
  have h : 2 ≤ l.length := h
  exact .need (inR_of (by omega) (by omega)) (.need rfl (.need (inR_of (by omega) (by omega)) (.refl _)))

/-! ### image.trace -/
def evB (e : Bool × Int) : List Int := [truth e.1] ++ twoF (IntKind.wrap .i64 e.2)
def traceF (t : Trc) : List Int := (t.1.flatMap evB ++ [w8 t.2.1]) ++ twoF (IntKind.wrap .i64 t.2.2)
noncomputable def fn47 := mkFn Tryd.f29
def truthCtr : Ctr := ctr (one aB) fun a => ans (rU (truth a.1))
def C47 : Cx := ⟨T, FL, [(27, truthCtr), (45, twoCtr)], [], [FA, FC + 5]⟩
theorem C47_ok : CxOk Tryd.prog C47 := ⟨T_ok, FL_ok, .cons truth_ok (.cons two_ok (.nil _)), .nil _⟩
def nr47 : List NR := [⟨3, tU, 5⟩]
def q47 : Frm := ⟨36, [(1, .ptr tTr), (3, .row 3), (7, .dat (.sl tEv)), (8, .dat tI), (9, .dat tI)], [(3, .row tU 5)]⟩
def R47 : q47.V → Tr (Ex × St) := fun (((t : Trc), _, (L : List (Bool × Int)), (n : Int), (k : Int), _), (acc : List Int), _) =>
  .need (decide (n = L.length ∧ n ≤ 1000000 ∧ 0 ≤ k ∧ k ≤ n ∧ acc.length ≤ 3 * k)) (.ret (.ex 0, ⟨36, [(1, .e (.c (.dp (split tTr t)))), (3, .e (.c (.row 3)))], [(3, .row tU 5 (acc ++ (L.drop k.toNat).flatMap evB))]⟩))
def lp47 : LP := [(0, sumP q47 R47)]
theorem lp47_ok : LpsOk 0 C47 nr47 lp47 fn47.loops := by
  refine .all (by kernel_rfl) ?_
  simp only [lp47, List.forall_mem_cons, List.not_mem_nil, false_imp_iff, implies_true, and_true]
  refine .pat q47 R47 (fun v => (v.1.2.2.2.1 - v.1.2.2.2.2.1).toNat) ?_
  rintro ⟨⟨⟨(tl : List (Bool × Int)), (te : Int), (tc : Int)⟩, ⟨⟩, (L : List (Bool × Int)), (n : Int), (k : Int), ⟨⟩⟩, ⟨(acc : List Int), ⟨⟩⟩⟩ ih
  refine Gives.run (t' := .ite (decide (k < n)) (.need (inR k (List.length L)) (.need true (.need true (.need (decide ((((List.length acc) + (List.length [(truth ((List.getD L (Int.toNat k) (false, (0 : Int)))).1)]) : Nat) * (Lay.bytes L5) : Nat) ≤ 140737488355328)) (.need true (.need (decide ((((List.length (acc ++ [(truth ((List.getD L (Int.toNat k) (false, (0 : Int)))).1)])) + (List.length (twoF (IntKind.wrap IntKind.i64 ((List.getD L (Int.toNat k) (false, (0 : Int)))).2))) : Nat) * (Lay.bytes L5) : Nat) ≤ 140737488355328)) (.need (decide (((-(9223372036854775808 : Int) : Int) ≤ (k + (1 : Int) : Int)) ∧ ((k + (1 : Int) : Int) ≤ (9223372036854775807 : Int)))) (.ret (.nx, ⟨36, [(1, .e (.c (.dp [.sl tEv tl, .v (.int .i64 te), .v (.int .u16 tc)]))), (3, .e (.c (.row 23))), (7, rL tEv L), (8, rI n), (9, rI (k + (1 : Int) : Int))], [(23, .row tU 5 ((acc ++ [(truth ((List.getD L (Int.toNat k) (false, (0 : Int)))).1)]) ++ (twoF (IntKind.wrap IntKind.i64 ((List.getD L (Int.toNat k) (false, (0 : Int)))).2))))]⟩))))))))) (.ret (.ex 0, ⟨36, [(1, .e (.c (.dp [.sl tEv tl, .v (.int .i64 te), .v (.int .u16 tc)]))), (3, .e (.c (.row 3)))], [(3, .row tU 5 acc)]⟩))) (by kernel_rfl) ?_
  refine .rnd fun ⟨h1, h2, h3, h4, h5⟩ => ?_
  refine .lif (fun hk => ?_) (fun hk => ?_)
  · have e : (k + 1).toNat = k.toNat + 1 := by omega
    rw [drop_at L k.toNat (false, 0) (by omega)]
    refine .lneed (inR_of h3 (by omega)) ?_
    generalize L.getD k.toNat (false, 0) = x
    refine .lneed rfl (.lneed rfl (.lnd (by show (acc.length + 1) * 1 ≤ _; omega) (.lneed rfl (.lnd (by rw [List.length_append]; show (acc.length + 1 + 2) * 1 ≤ _; omega) (.lnd (by omega) ?_)))))
    refine Gives.next (σ' := q47.st (((tl, te, tc), (), L, n, k + 1, ()), ((acc ++ [truth x.1]) ++ twoF (IntKind.wrap .i64 x.2), ()))) (by kernel_rfl) ((ih (((tl, te, tc), (), L, n, k + 1, ()), ((acc ++ [truth x.1]) ++ twoF (IntKind.wrap .i64 x.2), ())) (by simp only; omega)).trans ?_)
    refine .nd ⟨h1, h2, by omega, by omega, by simp only [List.length_append, List.length_singleton, twoF, List.length_cons, List.length_nil]; omega⟩ ?_
    simp only [e, List.flatMap_cons, evB, List.append_assoc]
    exact .refl _
  · rw [List.drop_eq_nil_of_le (by omega), List.flatMap_nil, List.append_nil]
    exact .refl _
def traceCtr : Ctr := ctr (one (aAgg tTr)) fun a => .need (decide (a.1.1.length ≤ 1000000)) (ans (rL tU (traceF a.1)))
theorem trace_ok : CtrOk Tryd.prog 29 traceCtr := by
  refine .mk C47_ok mixed (q := fn47) (.of Tryd.func29 (by kernel_rfl)) lp47_ok (by decide) ?_
  rintro ⟨⟨(tl : List (Bool × Int)), (te : Int), (tc : Int)⟩, ⟨⟩⟩ hb
  refine Gives.of_eq (t' := .need (decide (((((List.length tl) : Nat) : Int) = (((List.length tl) : Nat) : Int)) ∧ (((((List.length tl) : Nat) : Int) ≤ (1000000 : Int)) ∧ (((0 : Int) ≤ (0 : Int)) ∧ (((0 : Int) ≤ (((List.length tl) : Nat) : Int)) ∧ ((((List.length ([] : List Int)) : Nat) : Int) ≤ ((3 : Int) * (0 : Int) : Int))))))) (.need true (.need (decide ((((List.length (([] : List Int) ++ (List.flatMap evB (List.drop 0 tl)))) + (List.length [(IntKind.wrap IntKind.u8 te)]) : Nat) * (Lay.bytes L5) : Nat) ≤ 140737488355328)) (.need true (.need (decide ((((List.length ((([] : List Int) ++ (List.flatMap evB (List.drop 0 tl))) ++ [(IntKind.wrap IntKind.u8 te)])) + (List.length (twoF (IntKind.wrap IntKind.i64 tc))) : Nat) * (Lay.bytes L5) : Nat) ≤ 140737488355328)) (.ret (rL tU (((([] : List Int) ++ (List.flatMap evB (List.drop 0 tl))) ++ [(IntKind.wrap IntKind.u8 te)]) ++ (twoF (IntKind.wrap IntKind.i64 tc))), ⟨0, [], []⟩))))))) (by kernel_rfl) ?_
  show Gives _ (.need _ (.ret (rL tU (traceF (tl, te, tc)), (⟨0, [], []⟩ : St))))
  refine .rnd fun h => ?_
  have h : tl.length ≤ 1000000 := h
  have hf : (tl.flatMap evB).length ≤ 3 * tl.length := flat_len evB 3 tl fun s hs => by simp [evB, twoF]
  rw [List.drop_zero, List.nil_append]
  refine .nd ⟨rfl, by omega, by omega, by omega, by simp⟩ (.need rfl (.nd (by show ((tl.flatMap evB).length + 1) * 1 ≤ _; omega) (.need rfl (.nd (by rw [List.length_append]; show ((tl.flatMap evB).length + 1 + 2) * 1 ≤ _; omega) (.refl _)))))

/-! ### image.kind -/
def kindF (c : Cls) : List Int := ([w8 c.2.2.1, w8 c.2.2.2.1] ++ twoF c.2.2.2.2) ++ (capsC c).map w8
noncomputable def fn46 := mkFn Tryd.f28
def C46 : Cx := ⟨T, FL, [(45, twoCtr), (25, capsCtr)], [], [12, FA]⟩
theorem C46_ok : CxOk Tryd.prog C46 := ⟨T_ok, FL_ok, .cons two_ok (.cons caps_ok (.nil _)), .nil _⟩
def nr46 : List NR := [⟨3, tU, 5⟩]
def q46 : Frm := ⟨31, [(3, .row 3), (18, .dat (.sl tI)), (19, .dat tI), (20, .dat tI)], [(3, .row tU 5)]⟩
def R46 : q46.V → Tr (Ex × St) := fun ((_, (L : List Int), (n : Int), (k : Int), _), (acc : List Int), _) =>
  .need (decide (n = L.length ∧ n ≤ 10000000 ∧ 0 ≤ k ∧ k ≤ n ∧ acc.length ≤ 4 + k)) (.ret (.ex 0, ⟨31, [(3, .e (.c (.row 3)))], [(3, .row tU 5 (acc ++ (L.drop k.toNat).map w8))]⟩))
def lp46 : LP := [(0, sumP q46 R46)]
theorem lp46_ok : LpsOk 0 C46 nr46 lp46 fn46.loops := by
  refine .all (by kernel_rfl) ?_
  simp only [lp46, List.forall_mem_cons, List.not_mem_nil, false_imp_iff, implies_true, and_true]
  refine .pat q46 R46 (fun v => (v.1.2.2.1 - v.1.2.2.2.1).toNat) ?_
  rintro ⟨⟨⟨⟩, (L : List Int), (n : Int), (k : Int), ⟨⟩⟩, ⟨(acc : List Int), ⟨⟩⟩⟩ ih
  refine Gives.run (t' := .ite (decide (k < n)) (.need (inR k (List.length L)) (.need true (.need (decide ((((List.length acc) + (List.length [(IntKind.wrap IntKind.u8 (List.getD L (Int.toNat k) (0 : Int)))]) : Nat) * (Lay.bytes L5) : Nat) ≤ 140737488355328)) (.need (decide (((-(9223372036854775808 : Int) : Int) ≤ (k + (1 : Int) : Int)) ∧ ((k + (1 : Int) : Int) ≤ (9223372036854775807 : Int)))) (.ret (.nx, ⟨31, [(3, .e (.c (.row 28))), (18, rL tI L), (19, rI n), (20, rI (k + (1 : Int) : Int))], [(28, .row tU 5 (acc ++ [(IntKind.wrap IntKind.u8 (List.getD L (Int.toNat k) (0 : Int)))]))]⟩)))))) (.ret (.ex 0, ⟨31, [(3, .e (.c (.row 3)))], [(3, .row tU 5 acc)]⟩))) (by kernel_rfl) ?_
  refine .rnd fun ⟨h1, h2, h3, h4, h5⟩ => ?_
  refine .lif (fun hk => ?_) (fun hk => ?_)
  · have e : (k + 1).toNat = k.toNat + 1 := by omega
    rw [drop_at L k.toNat 0 (by omega)]
    refine .lneed (inR_of h3 (by omega)) ?_
    generalize L.getD k.toNat 0 = x
    refine .lneed rfl (.lnd (by show (acc.length + 1) * 1 ≤ _; omega) (.lnd (by omega) ?_))
    refine Gives.next (σ' := q46.st (((), L, n, k + 1, ()), (acc ++ [w8 x], ()))) (by kernel_rfl) ((ih (((), L, n, k + 1, ()), (acc ++ [w8 x], ())) (by simp only; omega)).trans ?_)
    refine .nd ⟨h1, h2, by omega, by omega, by rw [List.length_append]; simp; omega⟩ ?_
    rw [e, List.map_cons, List.append_assoc]
    exact .refl _
  · rw [List.drop_eq_nil_of_le (by omega), List.map_nil, List.append_nil]
    exact .refl _
theorem capsF_len : ∀ t : List Ent, (capsF t).length ≤ t.length
  | [] => Nat.le_refl _
  | x :: r => by
    have := capsF_len r
    rw [capsF]; split <;> simp only [List.length_cons] <;> omega
def kindCtr : Ctr := ctr (one (aAgg tCls)) fun a => .need (decide (a.1.1.length ≤ 1000000 ∧ a.1.2.1.length ≤ 1000000)) (ans (rL tU (kindF a.1)))
theorem kind_ok : CtrOk Tryd.prog 28 kindCtr := by
  refine .mk C46_ok mixed (q := fn46) (.of Tryd.func28 (by kernel_rfl)) lp46_ok (by decide) ?_
  rintro ⟨⟨(t : List Ent), (ar : List Int), (c1 : Int), (c2 : Int), (c3 : Int)⟩, ⟨⟩⟩ -
  refine Gives.of_eq (t' := .need true (.need true (.need true (.need (decide (((List.length t) ≤ 1000000) ∧ ((List.length ar) ≤ 1000000))) (.need (decide (((((List.length (capsC (t, (ar, (c1, (c2, c3)))))) : Nat) : Int) = (((List.length (capsC (t, (ar, (c1, (c2, c3)))))) : Nat) : Int)) ∧ (((((List.length (capsC (t, (ar, (c1, (c2, c3)))))) : Nat) : Int) ≤ (10000000 : Int)) ∧ (((0 : Int) ≤ (0 : Int)) ∧ (((0 : Int) ≤ (((List.length (capsC (t, (ar, (c1, (c2, c3)))))) : Nat) : Int)) ∧ ((((List.length ([(IntKind.wrap IntKind.u8 c1), (IntKind.wrap IntKind.u8 c2)] ++ (twoF c3))) : Nat) : Int) ≤ ((4 : Int) + (0 : Int) : Int))))))) (.ret (rL tU (([(IntKind.wrap IntKind.u8 c1), (IntKind.wrap IntKind.u8 c2)] ++ (twoF c3)) ++ (List.map w8 (List.drop 0 (capsC (t, (ar, (c1, (c2, c3)))))))), ⟨0, [], []⟩))))))) (by kernel_rfl) ?_
  show Gives _ (.need _ (.ret (rL tU (kindF (t, ar, c1, c2, c3)), (⟨0, [], []⟩ : St))))
  refine .rnd fun ⟨h1, h2⟩ => ?_
  have h1 : t.length ≤ 1000000 := h1
  have h2 : ar.length ≤ 1000000 := h2
  have hl := capsF_len t
  have hc : (capsC (t, ar, c1, c2, c3)).length = (capsF t).length + ar.length := by simp [capsC]
  rw [List.drop_zero]
  exact .need rfl (.need rfl (.need rfl (.nd ⟨h1, h2⟩ (.nd ⟨rfl, by omega, by omega, by omega, by simp [twoF]⟩ (.refl _)))))

/-! ### strconv.Itoa, of a digit -/
def digitsS : ByteArray := "0123456789abcdefghijklmnopqrstuvwxyz".toByteArray
def digit (n : Int) : ByteArray := digitsS.extract n.toNat (n.toNat + 1)
def digCtr : Ctr := ctr (one aI) fun a => .need (decide (0 ≤ a.1 ∧ a.1 < 10)) (ans (rS (digit a.1)))
noncomputable def fn94 := mkFn Tryd.f77
theorem small_ok : CtrOk Tryd.prog 77 digCtr := by
  refine .mk C0_ok mixed (q := fn94) (.of Tryd.func77 (by kernel_rfl)) (N := 0) (nr := []) .none (by decide) ?_
  rintro ⟨(n : Int), ⟨⟩⟩ -
  refine Gives.of_eq (t' := .ite (decide (n < (10 : Int))) (.need (decide (((-(9223372036854775808 : Int) : Int) ≤ (n + (1 : Int) : Int)) ∧ ((n + (1 : Int) : Int) ≤ (9223372036854775807 : Int)))) (.need (okB n (n + (1 : Int) : Int) (ByteArray.size (ByteArray.mk (List.toArray [(48 : UInt8), (49 : UInt8), (50 : UInt8), (51 : UInt8), (52 : UInt8), (53 : UInt8), (54 : UInt8), (55 : UInt8), (56 : UInt8), (57 : UInt8), (97 : UInt8), (98 : UInt8), (99 : UInt8), (100 : UInt8), (101 : UInt8), (102 : UInt8), (103 : UInt8), (104 : UInt8), (105 : UInt8), (106 : UInt8), (107 : UInt8), (108 : UInt8), (109 : UInt8), (110 : UInt8), (111 : UInt8), (112 : UInt8), (113 : UInt8), (114 : UInt8), (115 : UInt8), (116 : UInt8), (117 : UInt8), (118 : UInt8), (119 : UInt8), (120 : UInt8), (121 : UInt8), (122 : UInt8)])))) (.ret (rS (ByteArray.extract (ByteArray.mk (List.toArray [(48 : UInt8), (49 : UInt8), (50 : UInt8), (51 : UInt8), (52 : UInt8), (53 : UInt8), (54 : UInt8), (55 : UInt8), (56 : UInt8), (57 : UInt8), (97 : UInt8), (98 : UInt8), (99 : UInt8), (100 : UInt8), (101 : UInt8), (102 : UInt8), (103 : UInt8), (104 : UInt8), (105 : UInt8), (106 : UInt8), (107 : UInt8), (108 : UInt8), (109 : UInt8), (110 : UInt8), (111 : UInt8), (112 : UInt8), (113 : UInt8), (114 : UInt8), (115 : UInt8), (116 : UInt8), (117 : UInt8), (118 : UInt8), (119 : UInt8), (120 : UInt8), (121 : UInt8), (122 : UInt8)])) (Int.toNat n) (Int.toNat (n + (1 : Int) : Int))), ⟨0, [], []⟩)))) (.need (decide (((-(9223372036854775808 : Int) : Int) ≤ (n * (2 : Int) : Int)) ∧ ((n * (2 : Int) : Int) ≤ (9223372036854775807 : Int)))) (.need (decide (((-(9223372036854775808 : Int) : Int) ≤ (n * (2 : Int) : Int)) ∧ ((n * (2 : Int) : Int) ≤ (9223372036854775807 : Int)))) (.need (decide (((-(9223372036854775808 : Int) : Int) ≤ ((n * (2 : Int) : Int) + (2 : Int) : Int)) ∧ (((n * (2 : Int) : Int) + (2 : Int) : Int) ≤ (9223372036854775807 : Int)))) (.need (okB (n * (2 : Int) : Int) ((n * (2 : Int) : Int) + (2 : Int) : Int) (ByteArray.size (ByteArray.mk (List.toArray (List.append (List.append [(48 : UInt8), (48 : UInt8), (48 : UInt8), (49 : UInt8), (48 : UInt8), (50 : UInt8), (48 : UInt8), (51 : UInt8), (48 : UInt8), (52 : UInt8), (48 : UInt8), (53 : UInt8), (48 : UInt8), (54 : UInt8), (48 : UInt8), (55 : UInt8), (48 : UInt8), (56 : UInt8), (48 : UInt8), (57 : UInt8), (49 : UInt8), (48 : UInt8), (49 : UInt8), (49 : UInt8), (49 : UInt8), (50 : UInt8), (49 : UInt8), (51 : UInt8), (49 : UInt8), (52 : UInt8), (49 : UInt8), (53 : UInt8), (49 : UInt8), (54 : UInt8), (49 : UInt8), (55 : UInt8), (49 : UInt8), (56 : UInt8), (49 : UInt8), (57 : UInt8), (50 : UInt8), (48 : UInt8), (50 : UInt8), (49 : UInt8), (50 : UInt8), (50 : UInt8), (50 : UInt8), (51 : UInt8), (50 : UInt8), (52 : UInt8)] [(50 : UInt8), (53 : UInt8), (50 : UInt8), (54 : UInt8), (50 : UInt8), (55 : UInt8), (50 : UInt8), (56 : UInt8), (50 : UInt8), (57 : UInt8), (51 : UInt8), (48 : UInt8), (51 : UInt8), (49 : UInt8), (51 : UInt8), (50 : UInt8), (51 : UInt8), (51 : UInt8), (51 : UInt8), (52 : UInt8), (51 : UInt8), (53 : UInt8), (51 : UInt8), (54 : UInt8), (51 : UInt8), (55 : UInt8), (51 : UInt8), (56 : UInt8), (51 : UInt8), (57 : UInt8), (52 : UInt8), (48 : UInt8), (52 : UInt8), (49 : UInt8), (52 : UInt8), (50 : UInt8), (52 : UInt8), (51 : UInt8), (52 : UInt8), (52 : UInt8), (52 : UInt8), (53 : UInt8), (52 : UInt8), (54 : UInt8), (52 : UInt8), (55 : UInt8), (52 : UInt8), (56 : UInt8), (52 : UInt8), (57 : UInt8)]) (List.append [(53 : UInt8), (48 : UInt8), (53 : UInt8), (49 : UInt8), (53 : UInt8), (50 : UInt8), (53 : UInt8), (51 : UInt8), (53 : UInt8), (52 : UInt8), (53 : UInt8), (53 : UInt8), (53 : UInt8), (54 : UInt8), (53 : UInt8), (55 : UInt8), (53 : UInt8), (56 : UInt8), (53 : UInt8), (57 : UInt8), (54 : UInt8), (48 : UInt8), (54 : UInt8), (49 : UInt8), (54 : UInt8), (50 : UInt8), (54 : UInt8), (51 : UInt8), (54 : UInt8), (52 : UInt8), (54 : UInt8), (53 : UInt8), (54 : UInt8), (54 : UInt8), (54 : UInt8), (55 : UInt8), (54 : UInt8), (56 : UInt8), (54 : UInt8), (57 : UInt8), (55 : UInt8), (48 : UInt8), (55 : UInt8), (49 : UInt8), (55 : UInt8), (50 : UInt8), (55 : UInt8), (51 : UInt8), (55 : UInt8), (52 : UInt8)] [(55 : UInt8), (53 : UInt8), (55 : UInt8), (54 : UInt8), (55 : UInt8), (55 : UInt8), (55 : UInt8), (56 : UInt8), (55 : UInt8), (57 : UInt8), (56 : UInt8), (48 : UInt8), (56 : UInt8), (49 : UInt8), (56 : UInt8), (50 : UInt8), (56 : UInt8), (51 : UInt8), (56 : UInt8), (52 : UInt8), (56 : UInt8), (53 : UInt8), (56 : UInt8), (54 : UInt8), (56 : UInt8), (55 : UInt8), (56 : UInt8), (56 : UInt8), (56 : UInt8), (57 : UInt8), (57 : UInt8), (48 : UInt8), (57 : UInt8), (49 : UInt8), (57 : UInt8), (50 : UInt8), (57 : UInt8), (51 : UInt8), (57 : UInt8), (52 : UInt8), (57 : UInt8), (53 : UInt8), (57 : UInt8), (54 : UInt8), (57 : UInt8), (55 : UInt8), (57 : UInt8), (56 : UInt8), (57 : UInt8), (57 : UInt8)])))))) (.ret (rS (ByteArray.extract (ByteArray.mk (List.toArray (List.append (List.append [(48 : UInt8), (48 : UInt8), (48 : UInt8), (49 : UInt8), (48 : UInt8), (50 : UInt8), (48 : UInt8), (51 : UInt8), (48 : UInt8), (52 : UInt8), (48 : UInt8), (53 : UInt8), (48 : UInt8), (54 : UInt8), (48 : UInt8), (55 : UInt8), (48 : UInt8), (56 : UInt8), (48 : UInt8), (57 : UInt8), (49 : UInt8), (48 : UInt8), (49 : UInt8), (49 : UInt8), (49 : UInt8), (50 : UInt8), (49 : UInt8), (51 : UInt8), (49 : UInt8), (52 : UInt8), (49 : UInt8), (53 : UInt8), (49 : UInt8), (54 : UInt8), (49 : UInt8), (55 : UInt8), (49 : UInt8), (56 : UInt8), (49 : UInt8), (57 : UInt8), (50 : UInt8), (48 : UInt8), (50 : UInt8), (49 : UInt8), (50 : UInt8), (50 : UInt8), (50 : UInt8), (51 : UInt8), (50 : UInt8), (52 : UInt8)] [(50 : UInt8), (53 : UInt8), (50 : UInt8), (54 : UInt8), (50 : UInt8), (55 : UInt8), (50 : UInt8), (56 : UInt8), (50 : UInt8), (57 : UInt8), (51 : UInt8), (48 : UInt8), (51 : UInt8), (49 : UInt8), (51 : UInt8), (50 : UInt8), (51 : UInt8), (51 : UInt8), (51 : UInt8), (52 : UInt8), (51 : UInt8), (53 : UInt8), (51 : UInt8), (54 : UInt8), (51 : UInt8), (55 : UInt8), (51 : UInt8), (56 : UInt8), (51 : UInt8), (57 : UInt8), (52 : UInt8), (48 : UInt8), (52 : UInt8), (49 : UInt8), (52 : UInt8), (50 : UInt8), (52 : UInt8), (51 : UInt8), (52 : UInt8), (52 : UInt8), (52 : UInt8), (53 : UInt8), (52 : UInt8), (54 : UInt8), (52 : UInt8), (55 : UInt8), (52 : UInt8), (56 : UInt8), (52 : UInt8), (57 : UInt8)]) (List.append [(53 : UInt8), (48 : UInt8), (53 : UInt8), (49 : UInt8), (53 : UInt8), (50 : UInt8), (53 : UInt8), (51 : UInt8), (53 : UInt8), (52 : UInt8), (53 : UInt8), (53 : UInt8), (53 : UInt8), (54 : UInt8), (53 : UInt8), (55 : UInt8), (53 : UInt8), (56 : UInt8), (53 : UInt8), (57 : UInt8), (54 : UInt8), (48 : UInt8), (54 : UInt8), (49 : UInt8), (54 : UInt8), (50 : UInt8), (54 : UInt8), (51 : UInt8), (54 : UInt8), (52 : UInt8), (54 : UInt8), (53 : UInt8), (54 : UInt8), (54 : UInt8), (54 : UInt8), (55 : UInt8), (54 : UInt8), (56 : UInt8), (54 : UInt8), (57 : UInt8), (55 : UInt8), (48 : UInt8), (55 : UInt8), (49 : UInt8), (55 : UInt8), (50 : UInt8), (55 : UInt8), (51 : UInt8), (55 : UInt8), (52 : UInt8)] [(55 : UInt8), (53 : UInt8), (55 : UInt8), (54 : UInt8), (55 : UInt8), (55 : UInt8), (55 : UInt8), (56 : UInt8), (55 : UInt8), (57 : UInt8), (56 : UInt8), (48 : UInt8), (56 : UInt8), (49 : UInt8), (56 : UInt8), (50 : UInt8), (56 : UInt8), (51 : UInt8), (56 : UInt8), (52 : UInt8), (56 : UInt8), (53 : UInt8), (56 : UInt8), (54 : UInt8), (56 : UInt8), (55 : UInt8), (56 : UInt8), (56 : UInt8), (56 : UInt8), (57 : UInt8), (57 : UInt8), (48 : UInt8), (57 : UInt8), (49 : UInt8), (57 : UInt8), (50 : UInt8), (57 : UInt8), (51 : UInt8), (57 : UInt8), (52 : UInt8), (57 : UInt8), (53 : UInt8), (57 : UInt8), (54 : UInt8), (57 : UInt8), (55 : UInt8), (57 : UInt8), (56 : UInt8), (57 : UInt8), (57 : UInt8)])))) (Int.toNat (n * (2 : Int) : Int)) (Int.toNat ((n * (2 : Int) : Int) + (2 : Int) : Int))), ⟨0, [], []⟩))))))) (by kernel_rfl) ?_
  show Gives _ (.need _ (.ret (rS (digit n), (⟨0, [], []⟩ : St))))
  refine .rnd fun ⟨h1, h2⟩ => ?_
  have h1 : 0 ≤ n := h1
  have h2 : n < 10 := h2
  refine .tt (decide_eq_true h2) (.nd (by omega) (.need (by simp [okB]; refine ⟨h1, by omega, ?_⟩; show n + 1 ≤ ((36 : Nat) : Int); omega) ?_))
  rw [show (n + 1).toNat = n.toNat + 1 by omega]; exact .refl _
noncomputable def fn80 := mkFn Tryd.f63
def C80 : Cx := ⟨T, [], [(77, digCtr)], [], []⟩
theorem C80_ok : CxOk Tryd.prog C80 := ⟨T_ok, .nil _, .cons small_ok (.nil _), .nil _⟩
def dig2Ctr : Ctr := ctr (two aI aI) fun a => .need (decide (0 ≤ a.1 ∧ a.1 < 10 ∧ a.2.1 = 10)) (ans (rS (digit a.1)))
theorem format_ok : CtrOk Tryd.prog 63 dig2Ctr := by
  refine .mk C80_ok mixed (q := fn80) (.of Tryd.func63 (by kernel_rfl)) (N := 0) (nr := []) .none (by decide) ?_
  rintro ⟨(n : Int), (b : Int), ⟨⟩⟩ -
  show Gives _ (.need _ (.ret (rS (digit n), (⟨0, [], []⟩ : St))))
  refine .rnd fun ⟨h1, h2, h3⟩ => ?_
  have h1 : 0 ≤ n := h1
  have h2 : n < 10 := h2
  have h3 : b = 10 := h3
  subst h3
  refine Gives.of_eq (t' := .need true (.ite (decide ((0 : Int) ≤ n)) (.ite (decide (n < (100 : Int))) (.need (decide (((0 : Int) ≤ n) ∧ (n < (10 : Int)))) (.ret (rS (digit n), ⟨0, [], []⟩))) (.need (decide (n < (0 : Int))) (.fail))) (.need (decide (n < (0 : Int))) (.fail)))) (by kernel_rfl) ?_
  exact .need rfl (.tt (decide_eq_true h1) (.tt (decide_eq_true (by omega)) (.nd ⟨h1, h2⟩ (.refl _))))
noncomputable def fn64 := mkFn Tryd.f44
def C64 : Cx := ⟨T, [], [(63, dig2Ctr)], [], []⟩
theorem C64_ok : CxOk Tryd.prog C64 := ⟨T_ok, .nil _, .cons format_ok (.nil _), .nil _⟩
theorem itoa0_ok : CtrOk Tryd.prog 44 digCtr := by
  refine .mk C64_ok mixed (q := fn64) (.of Tryd.func44 (by kernel_rfl)) (N := 0) (nr := []) .none (by decide) ?_
  rintro ⟨(n : Int), ⟨⟩⟩ -
  refine Gives.of_eq (t' := .need (decide (((0 : Int) ≤ n) ∧ ((n < (10 : Int)) ∧ ((10 : Int) = (10 : Int))))) (.ret (rS (digit n), ⟨0, [], []⟩))) (by kernel_rfl) ?_
  show Gives _ (.need _ (.ret (rS (digit n), (⟨0, [], []⟩ : St))))
  refine .rnd fun ⟨h1, h2⟩ => ?_
  exact .nd ⟨h1, h2, rfl⟩ (.refl _)
noncomputable def fn44 := mkFn Tryd.f26
def C44 : Cx := ⟨T, [], [(44, digCtr)], [], []⟩
theorem C44_ok : CxOk Tryd.prog C44 := ⟨T_ok, .nil _, .cons itoa0_ok (.nil _), .nil _⟩
theorem itoa_ok : CtrOk Tryd.prog 26 digCtr := by
  refine .mk C44_ok mixed (q := fn44) (.of Tryd.func26 (by kernel_rfl)) (N := 0) (nr := []) .none (by decide) ?_
  rintro ⟨(n : Int), ⟨⟩⟩ -
  refine Gives.of_eq (t' := .need (decide (((0 : Int) ≤ n) ∧ (n < (10 : Int)))) (.ret (rS (digit n), ⟨0, [], []⟩))) (by kernel_rfl) ?_
  show Gives _ (.need _ (.ret (rS (digit n), (⟨0, [], []⟩ : St))))
  refine .rnd fun ⟨h1, h2⟩ => ?_
  exact .nd ⟨h1, h2⟩ (.refl _)
end Go.Proofs.YtdngaaploooceaaDoor.Sy

/- Contracts: an image as files. -/
set_option maxRecDepth 100000
namespace Go.Proofs.YtdngaaploooceaaDoor.Sy
open Go.RowKit Kit Go.Proofs
abbrev tFile : Ty := .pair .str (.pair .bool tB)
abbrev tImg : Ty := .pair tProg (.pair tCls (.pair tInp tTr))
abbrev File : Type := ByteArray × Bool × List Int
abbrev Img : Type := Prog × Cls × Inp × Trc
def bs (s : String) : ByteArray := s.toByteArray
def treeFs : List Ent → List (List Int) → List File
  | [], _ => []
  | x :: r, fs => if x.2.1 then (bs "tree/" ++ x.1, true, []) :: treeFs r fs else (bs "tree/" ++ x.1, false, fs.headD []) :: treeFs r fs.tail
def argFs : Int → List (List Int) → List File
  | _, [] => []
  | k, b :: r => (bs "args/" ++ digit k, false, b) :: argFs (k + 1) r
def filesF (m : Img) (p : List Int) : List File :=
  (bs "prog", false, p) :: (treeFs m.2.1.1 m.2.2.1.1 ++ argFs 0 m.2.2.1.2.1) ++ [(bs "fails", false, m.2.2.1.2.2.map truth), (bs "class", false, kindF m.2.1), (bs "trace", false, traceF m.2.2.2)]
noncomputable def fn24 := mkFn Tryd.f12
def C24 : Cx := ⟨T, FL, [(26, digCtr), (27, truthCtr), (28, kindCtr), (29, traceCtr)], [], [17, FA, FS + 12]⟩
theorem C24_ok : CxOk Tryd.prog C24 := ⟨T_ok, FL_ok, .cons itoa_ok (.cons truth_ok (.cons kind_ok (.cons trace_ok (.nil _)))), .nil _⟩
def nr24 : List NR := [⟨5, tFile, 55⟩, ⟨12, tU, 5⟩]
def q24a : Frm := ⟨94, [(2, .ptr tImg), (5, .row 5), (6, .dat tI), (20, .dat (.sl tEnt)), (21, .dat tI), (22, .dat tI)], [(5, .row tFile 55)]⟩
def R24a : q24a.V → Tr (Ex × St) := fun (((m : Img), _, (j : Int), (L : List Ent), (n : Int), (k : Int), _), (acc : List File), _) =>
  .need (decide (n = L.length ∧ n ≤ 1000000 ∧ 0 ≤ k ∧ k ≤ n ∧ acc.length ≤ k + 1 ∧ 0 ≤ j ∧ (capsF (L.drop k.toNat)).length + j ≤ m.2.2.1.1.length ∧ m.2.2.1.1.length ≤ 1000000 ∧ L.all (fun x => decide (x.1.size ≤ 1000000)) = true)) (.ret (.ex 0, ⟨94, [(2, .e (.c (.dp (split tImg m)))), (5, .e (.c (.row 5)))], [(5, .row tFile 55 (acc ++ treeFs (L.drop k.toNat) (m.2.2.1.1.drop j.toNat)))]⟩))
def q24b : Frm := ⟨94, [(2, .ptr tImg), (5, .row 5), (51, .dat (.sl tB)), (52, .dat tI), (53, .dat tI)], [(5, .row tFile 55)]⟩
def R24b : q24b.V → Tr (Ex × St) := fun (((m : Img), _, (L : List (List Int)), (n : Int), (k : Int), _), (acc : List File), _) =>
  .need (decide (n = L.length ∧ n ≤ 10 ∧ 0 ≤ k ∧ k ≤ n ∧ acc.length ≤ 10000000 + k)) (.ret (.ex 2, ⟨94, [(2, .e (.c (.dp (split tImg m)))), (5, .e (.c (.row 5)))], [(5, .row tFile 55 (acc ++ argFs k (L.drop k.toNat)))]⟩))
def q24c : Frm := ⟨94, [(2, .ptr tImg), (5, .row 5), (12, .row 12), (69, .dat (.sl .bool)), (70, .dat tI), (71, .dat tI)], [(5, .row tFile 55), (12, .row tU 5)]⟩
def R24c : q24c.V → Tr (Ex × St) := fun (((m : Img), _, _, (L : List Bool), (n : Int), (k : Int), _), (fs : List File), (acc : List Int), _) =>
  .need (decide (n = L.length ∧ n ≤ 1000000 ∧ 0 ≤ k ∧ k ≤ n ∧ acc.length ≤ k)) (.ret (.ex 4, ⟨94, [(2, .e (.c (.dp (split tImg m)))), (5, .e (.c (.row 5))), (12, .e (.c (.row 12)))], [(5, .row tFile 55 fs), (12, .row tU 5 (acc ++ (L.drop k.toNat).map truth))]⟩))
def lp24 : LP := [(0, sumP q24a R24a), (2, sumP q24b R24b), (4, sumP q24c R24c)]
theorem treeFs_cons (x : Ent) (r : List Ent) (fs : List (List Int)) : treeFs (x :: r) fs = if x.2.1 then (bs "tree/" ++ x.1, true, []) :: treeFs r fs else (bs "tree/" ++ x.1, false, fs.headD []) :: treeFs r fs.tail := rfl
theorem lp24_ok : LpsOk 0 C24 nr24 lp24 fn24.loops := by
  refine .all (by kernel_rfl) ?_
  simp only [lp24, List.forall_mem_cons, List.not_mem_nil, false_imp_iff, implies_true, and_true]
  refine ⟨?_, ?_, ?_⟩
  · refine .pat q24a R24a (fun v => (v.1.2.2.2.2.1 - v.1.2.2.2.2.2.1).toNat) ?_
    rintro ⟨⟨(m : Img), ⟨⟩, (j : Int), (L : List Ent), (n : Int), (k : Int), ⟨⟩⟩, ⟨(acc : List File), ⟨⟩⟩⟩ ih
    refine Gives.run (t' := .ite (decide (k < n)) (.need (inR k (List.length L)) (.need true (.need (decide (((ByteArray.size (ByteArray.mk (List.toArray [(116 : UInt8), (114 : UInt8), (101 : UInt8), (101 : UInt8), (47 : UInt8)]))) + (ByteArray.size ((List.getD L (Int.toNat k) (ByteArray.empty, (false, (0 : Int))))).1) : Nat) ≤ 9223372036854775807)) (.ite (!(((List.getD L (Int.toNat k) (ByteArray.empty, (false, (0 : Int))))).2).1) (.need (inR j (List.length ((((m).2).2).1).1)) (.need (decide (((-(9223372036854775808 : Int) : Int) ≤ (j + (1 : Int) : Int)) ∧ ((j + (1 : Int) : Int) ≤ (9223372036854775807 : Int)))) (.need true (.need true (.need (decide ((((List.length acc) + (List.length [(((ByteArray.mk (List.toArray [(116 : UInt8), (114 : UInt8), (101 : UInt8), (101 : UInt8), (47 : UInt8)])) ++ ((List.getD L (Int.toNat k) (ByteArray.empty, (false, (0 : Int))))).1), ((((List.getD L (Int.toNat k) (ByteArray.empty, (false, (0 : Int))))).2).1, (List.getD ((((m).2).2).1).1 (Int.toNat j) ([] : List Int))))]) : Nat) * (Lay.bytes L55) : Nat) ≤ 140737488355328)) (.need (decide (((-(9223372036854775808 : Int) : Int) ≤ (k + (1 : Int) : Int)) ∧ ((k + (1 : Int) : Int) ≤ (9223372036854775807 : Int)))) (.ret (.nx, ⟨94, [(2, .e (.c (.dp [.sl tInst ((m).1).1, .sl Ty.str ((m).1).2, .sl tEnt (((m).2).1).1, .sl tI ((((m).2).1).2).1, .v (.int .i64 (((((m).2).1).2).2).1), .v (.int .i64 ((((((m).2).1).2).2).2).1), .v (.int .i64 ((((((m).2).1).2).2).2).2), .sl tB ((((m).2).2).1).1, .sl tB (((((m).2).2).1).2).1, .sl Ty.bool (((((m).2).2).1).2).2, .sl tEv ((((m).2).2).2).1, .v (.int .i64 (((((m).2).2).2).2).1), .v (.int .u16 (((((m).2).2).2).2).2)]))), (5, .e (.c (.row 47))), (6, rI (j + (1 : Int) : Int)), (20, rL tEnt L), (21, rI n), (22, rI (k + (1 : Int) : Int))], [(8, .cells 30 [.d (.v (.string ((List.getD L (Int.toNat k) (ByteArray.empty, (false, (0 : Int))))).1)), .d (.v (.bool (((List.getD L (Int.toNat k) (ByteArray.empty, (false, (0 : Int))))).2).1)), .d (.v (.int .i64 (((List.getD L (Int.toNat k) (ByteArray.empty, (false, (0 : Int))))).2).2))]), (9, .cells 55 [.d (.v (.string ((ByteArray.mk (List.toArray [(116 : UInt8), (114 : UInt8), (101 : UInt8), (101 : UInt8), (47 : UInt8)])) ++ ((List.getD L (Int.toNat k) (ByteArray.empty, (false, (0 : Int))))).1))), .d (.v (.bool (((List.getD L (Int.toNat k) (ByteArray.empty, (false, (0 : Int))))).2).1)), .d (.sl tU (List.getD ((((m).2).2).1).1 (Int.toNat j) ([] : List Int)))]), (47, .row tFile 55 (acc ++ [(((ByteArray.mk (List.toArray [(116 : UInt8), (114 : UInt8), (101 : UInt8), (101 : UInt8), (47 : UInt8)])) ++ ((List.getD L (Int.toNat k) (ByteArray.empty, (false, (0 : Int))))).1), ((((List.getD L (Int.toNat k) (ByteArray.empty, (false, (0 : Int))))).2).1, (List.getD ((((m).2).2).1).1 (Int.toNat j) ([] : List Int))))]))]⟩)))))))) (.need true (.need true (.need (decide ((((List.length acc) + (List.length [(((ByteArray.mk (List.toArray [(116 : UInt8), (114 : UInt8), (101 : UInt8), (101 : UInt8), (47 : UInt8)])) ++ ((List.getD L (Int.toNat k) (ByteArray.empty, (false, (0 : Int))))).1), ((((List.getD L (Int.toNat k) (ByteArray.empty, (false, (0 : Int))))).2).1, ([] : List Int)))]) : Nat) * (Lay.bytes L55) : Nat) ≤ 140737488355328)) (.need (decide (((-(9223372036854775808 : Int) : Int) ≤ (k + (1 : Int) : Int)) ∧ ((k + (1 : Int) : Int) ≤ (9223372036854775807 : Int)))) (.ret (.nx, ⟨94, [(2, .e (.c (.dp [.sl tInst ((m).1).1, .sl Ty.str ((m).1).2, .sl tEnt (((m).2).1).1, .sl tI ((((m).2).1).2).1, .v (.int .i64 (((((m).2).1).2).2).1), .v (.int .i64 ((((((m).2).1).2).2).2).1), .v (.int .i64 ((((((m).2).1).2).2).2).2), .sl tB ((((m).2).2).1).1, .sl tB (((((m).2).2).1).2).1, .sl Ty.bool (((((m).2).2).1).2).2, .sl tEv ((((m).2).2).2).1, .v (.int .i64 (((((m).2).2).2).2).1), .v (.int .u16 (((((m).2).2).2).2).2)]))), (5, .e (.c (.row 47))), (6, rI j), (20, rL tEnt L), (21, rI n), (22, rI (k + (1 : Int) : Int))], [(8, .cells 30 [.d (.v (.string ((List.getD L (Int.toNat k) (ByteArray.empty, (false, (0 : Int))))).1)), .d (.v (.bool (((List.getD L (Int.toNat k) (ByteArray.empty, (false, (0 : Int))))).2).1)), .d (.v (.int .i64 (((List.getD L (Int.toNat k) (ByteArray.empty, (false, (0 : Int))))).2).2))]), (9, .cells 55 [.d (.v (.string ((ByteArray.mk (List.toArray [(116 : UInt8), (114 : UInt8), (101 : UInt8), (101 : UInt8), (47 : UInt8)])) ++ ((List.getD L (Int.toNat k) (ByteArray.empty, (false, (0 : Int))))).1))), .d (.v (.bool (((List.getD L (Int.toNat k) (ByteArray.empty, (false, (0 : Int))))).2).1)), .nil]), (47, .row tFile 55 (acc ++ [(((ByteArray.mk (List.toArray [(116 : UInt8), (114 : UInt8), (101 : UInt8), (101 : UInt8), (47 : UInt8)])) ++ ((List.getD L (Int.toNat k) (ByteArray.empty, (false, (0 : Int))))).1), ((((List.getD L (Int.toNat k) (ByteArray.empty, (false, (0 : Int))))).2).1, ([] : List Int)))]))]⟩)))))))))) (.ret (.ex 0, ⟨94, [(2, .e (.c (.dp [.sl tInst ((m).1).1, .sl Ty.str ((m).1).2, .sl tEnt (((m).2).1).1, .sl tI ((((m).2).1).2).1, .v (.int .i64 (((((m).2).1).2).2).1), .v (.int .i64 ((((((m).2).1).2).2).2).1), .v (.int .i64 ((((((m).2).1).2).2).2).2), .sl tB ((((m).2).2).1).1, .sl tB (((((m).2).2).1).2).1, .sl Ty.bool (((((m).2).2).1).2).2, .sl tEv ((((m).2).2).2).1, .v (.int .i64 (((((m).2).2).2).2).1), .v (.int .u16 (((((m).2).2).2).2).2)]))), (5, .e (.c (.row 5)))], [(5, .row tFile 55 acc)]⟩))) (by kernel_rfl) ?_
    refine .rnd fun ⟨h1, h2, h3, h4, h5, h6, h7, h8, h9⟩ => ?_
    refine .lif (fun hk => ?_) (fun hk => ?_)
    · have e : (k + 1).toNat = k.toNat + 1 := by omega
      have hx := of_decide_eq_true (List.all_eq_true.1 h9 _ (List.getElem_mem (show k.toNat < L.length by omega)))
      rw [show L[k.toNat]'(by omega) = L.getD k.toNat (ByteArray.empty, false, 0) by simp [List.getD_eq_getElem?_getD, List.getElem?_eq_getElem (show k.toNat < L.length by omega)]] at hx
      rw [drop_at L k.toNat (ByteArray.empty, false, 0) (by omega)] at h7 ⊢
      refine .lneed (inR_of h3 (by omega)) ?_
      generalize L.getD k.toNat (ByteArray.empty, false, 0) = x at hx h7 ⊢
      obtain ⟨p, d, c⟩ := x
      have hs : (bs "tree/").size = 5 := by decide +kernel
      refine .lneed rfl (.lnd (by show (bs "tree/").size + p.size ≤ _; have hx : p.size ≤ 1000000 := hx; omega) ?_)
      cases d with
      | false =>
        have h7 : ((capsF (L.drop (k.toNat + 1))).length + 1 : Nat) + j ≤ (m.2.2.1.1.length : Int) := h7
        have ej : (j + 1).toNat = j.toNat + 1 := by omega
        refine Gives.lite (fun _ => ?_) (fun h => by cases h)
        refine .lneed (inR_of h6 (by omega)) (.lnd (by omega) (.lneed rfl (.lneed rfl (.lnd (by show (acc.length + 1) * 48 ≤ _; omega) (.lnd (by omega) ?_)))))
        refine Gives.next (σ' := q24a.st ((m, (), j + 1, L, n, k + 1, ()), (acc ++ [(bs "tree/" ++ p, false, m.2.2.1.1.getD j.toNat [])], ()))) (by kernel_rfl) ((ih ((m, (), j + 1, L, n, k + 1, ()), (acc ++ [(bs "tree/" ++ p, false, m.2.2.1.1.getD j.toNat [])], ())) (by simp only; omega)).trans ?_)
        refine .nd ⟨h1, h2, by omega, by omega, by rw [List.length_append]; simp; omega, by omega, by rw [e]; omega, h8, h9⟩ ?_
        rw [e, ej, treeFs_cons, List.append_assoc, drop_at m.2.2.1.1 j.toNat [] (by omega)]
        exact .refl _
      | true =>
        have h7 : (capsF (L.drop (k.toNat + 1))).length + j ≤ (m.2.2.1.1.length : Int) := h7
        refine Gives.lite (fun h => by cases h) (fun _ => ?_)
        refine .lneed rfl (.lneed rfl (.lnd (by show (acc.length + 1) * 48 ≤ _; omega) (.lnd (by omega) ?_)))
        refine Gives.next (σ' := q24a.st ((m, (), j, L, n, k + 1, ()), (acc ++ [(bs "tree/" ++ p, true, [])], ()))) (by kernel_rfl) ((ih ((m, (), j, L, n, k + 1, ()), (acc ++ [(bs "tree/" ++ p, true, [])], ())) (by simp only; omega)).trans ?_)
        refine .nd ⟨h1, h2, by omega, by omega, by rw [List.length_append]; simp; omega, by omega, by rw [e]; omega, h8, h9⟩ ?_
        rw [e, treeFs_cons, List.append_assoc]
        exact .refl _
    · rw [List.drop_eq_nil_of_le (by omega)]
      simp only [treeFs, List.append_nil]
      exact .refl _
  · refine .pat q24b R24b (fun v => (v.1.2.2.2.1 - v.1.2.2.2.2.1).toNat) ?_
    rintro ⟨⟨(m : Img), ⟨⟩, (L : List (List Int)), (n : Int), (k : Int), ⟨⟩⟩, ⟨(acc : List File), ⟨⟩⟩⟩ ih
    refine Gives.run (t' := .ite (decide (k < n)) (.need (inR k (List.length L)) (.need (decide (((0 : Int) ≤ k) ∧ (k < (10 : Int)))) (.need (decide (((ByteArray.size (ByteArray.mk (List.toArray [(97 : UInt8), (114 : UInt8), (103 : UInt8), (115 : UInt8), (47 : UInt8)]))) + (ByteArray.size (digit k)) : Nat) ≤ 9223372036854775807)) (.need true (.need (decide ((((List.length acc) + (List.length [(((ByteArray.mk (List.toArray [(97 : UInt8), (114 : UInt8), (103 : UInt8), (115 : UInt8), (47 : UInt8)])) ++ (digit k)), (false, (List.getD L (Int.toNat k) ([] : List Int))))]) : Nat) * (Lay.bytes L55) : Nat) ≤ 140737488355328)) (.need (decide (((-(9223372036854775808 : Int) : Int) ≤ (k + (1 : Int) : Int)) ∧ ((k + (1 : Int) : Int) ≤ (9223372036854775807 : Int)))) (.ret (.nx, ⟨94, [(2, .e (.c (.dp [.sl tInst ((m).1).1, .sl Ty.str ((m).1).2, .sl tEnt (((m).2).1).1, .sl tI ((((m).2).1).2).1, .v (.int .i64 (((((m).2).1).2).2).1), .v (.int .i64 ((((((m).2).1).2).2).2).1), .v (.int .i64 ((((((m).2).1).2).2).2).2), .sl tB ((((m).2).2).1).1, .sl tB (((((m).2).2).1).2).1, .sl Ty.bool (((((m).2).2).1).2).2, .sl tEv ((((m).2).2).2).1, .v (.int .i64 (((((m).2).2).2).2).1), .v (.int .u16 (((((m).2).2).2).2).2)]))), (5, .e (.c (.row 65))), (51, rL tB L), (52, rI n), (53, rI (k + (1 : Int) : Int))], [(65, .row tFile 55 (acc ++ [(((ByteArray.mk (List.toArray [(97 : UInt8), (114 : UInt8), (103 : UInt8), (115 : UInt8), (47 : UInt8)])) ++ (digit k)), (false, (List.getD L (Int.toNat k) ([] : List Int))))]))]⟩)))))))) (.ret (.ex 2, ⟨94, [(2, .e (.c (.dp [.sl tInst ((m).1).1, .sl Ty.str ((m).1).2, .sl tEnt (((m).2).1).1, .sl tI ((((m).2).1).2).1, .v (.int .i64 (((((m).2).1).2).2).1), .v (.int .i64 ((((((m).2).1).2).2).2).1), .v (.int .i64 ((((((m).2).1).2).2).2).2), .sl tB ((((m).2).2).1).1, .sl tB (((((m).2).2).1).2).1, .sl Ty.bool (((((m).2).2).1).2).2, .sl tEv ((((m).2).2).2).1, .v (.int .i64 (((((m).2).2).2).2).1), .v (.int .u16 (((((m).2).2).2).2).2)]))), (5, .e (.c (.row 5)))], [(5, .row tFile 55 acc)]⟩))) (by kernel_rfl) ?_
    refine .rnd fun ⟨h1, h2, h3, h4, h5⟩ => ?_
    refine .lif (fun hk => ?_) (fun hk => ?_)
    · have e : (k + 1).toNat = k.toNat + 1 := by omega
      rw [drop_at L k.toNat [] (by omega)]
      refine .lneed (inR_of h3 (by omega)) ?_
      generalize L.getD k.toNat [] = x
      have hs : (bs "args/").size = 5 := by decide +kernel
      have hd : (digit k).size ≤ 36 := by
        show (digitsS.extract _ _).size ≤ 36
        rw [ByteArray.size_extract]
        have : digitsS.size = 36 := by decide +kernel
        omega
      refine .lnd ⟨h3, by omega⟩ (.lnd (by show (bs "args/").size + (digit k).size ≤ _; omega) (.lneed rfl (.lnd (by show (acc.length + 1) * 48 ≤ _; omega) (.lnd (by omega) ?_))))
      refine Gives.next (σ' := q24b.st ((m, (), L, n, k + 1, ()), (acc ++ [(bs "args/" ++ digit k, false, x)], ()))) (by kernel_rfl) ((ih ((m, (), L, n, k + 1, ()), (acc ++ [(bs "args/" ++ digit k, false, x)], ())) (by simp only; omega)).trans ?_)
      refine .nd ⟨h1, h2, by omega, by omega, by rw [List.length_append]; simp; omega⟩ ?_
      rw [e, List.append_assoc]; exact .refl _
    · rw [List.drop_eq_nil_of_le (by omega)]
      simp only [argFs, List.append_nil]
      exact .refl _
  · refine .pat q24c R24c (fun v => (v.1.2.2.2.2.1 - v.1.2.2.2.2.2.1).toNat) ?_
    rintro ⟨⟨(m : Img), ⟨⟩, ⟨⟩, (L : List Bool), (n : Int), (k : Int), ⟨⟩⟩, ⟨(fs : List File), (acc : List Int), ⟨⟩⟩⟩ ih
    refine Gives.run (t' := .ite (decide (k < n)) (.need (inR k (List.length L)) (.need true (.need (decide ((((List.length acc) + (List.length [(truth (List.getD L (Int.toNat k) false))]) : Nat) * (Lay.bytes L5) : Nat) ≤ 140737488355328)) (.need (decide (((-(9223372036854775808 : Int) : Int) ≤ (k + (1 : Int) : Int)) ∧ ((k + (1 : Int) : Int) ≤ (9223372036854775807 : Int)))) (.ret (.nx, ⟨94, [(2, .e (.c (.dp [.sl tInst ((m).1).1, .sl Ty.str ((m).1).2, .sl tEnt (((m).2).1).1, .sl tI ((((m).2).1).2).1, .v (.int .i64 (((((m).2).1).2).2).1), .v (.int .i64 ((((((m).2).1).2).2).2).1), .v (.int .i64 ((((((m).2).1).2).2).2).2), .sl tB ((((m).2).2).1).1, .sl tB (((((m).2).2).1).2).1, .sl Ty.bool (((((m).2).2).1).2).2, .sl tEv ((((m).2).2).2).1, .v (.int .i64 (((((m).2).2).2).2).1), .v (.int .u16 (((((m).2).2).2).2).2)]))), (5, .e (.c (.row 5))), (12, .e (.c (.row 79))), (69, rL Ty.bool L), (70, rI n), (71, rI (k + (1 : Int) : Int))], [(5, .row tFile 55 fs), (79, .row tU 5 (acc ++ [(truth (List.getD L (Int.toNat k) false))]))]⟩)))))) (.ret (.ex 4, ⟨94, [(2, .e (.c (.dp [.sl tInst ((m).1).1, .sl Ty.str ((m).1).2, .sl tEnt (((m).2).1).1, .sl tI ((((m).2).1).2).1, .v (.int .i64 (((((m).2).1).2).2).1), .v (.int .i64 ((((((m).2).1).2).2).2).1), .v (.int .i64 ((((((m).2).1).2).2).2).2), .sl tB ((((m).2).2).1).1, .sl tB (((((m).2).2).1).2).1, .sl Ty.bool (((((m).2).2).1).2).2, .sl tEv ((((m).2).2).2).1, .v (.int .i64 (((((m).2).2).2).2).1), .v (.int .u16 (((((m).2).2).2).2).2)]))), (5, .e (.c (.row 5))), (12, .e (.c (.row 12)))], [(5, .row tFile 55 fs), (12, .row tU 5 acc)]⟩))) (by kernel_rfl) ?_
    refine .rnd fun ⟨h1, h2, h3, h4, h5⟩ => ?_
    refine .lif (fun hk => ?_) (fun hk => ?_)
    · have e : (k + 1).toNat = k.toNat + 1 := by omega
      rw [drop_at L k.toNat false (by omega)]
      refine .lneed (inR_of h3 (by omega)) ?_
      generalize L.getD k.toNat false = x
      refine .lneed rfl (.lnd (by show (acc.length + 1) * 1 ≤ _; omega) (.lnd (by omega) ?_))
      refine Gives.next (σ' := q24c.st ((m, (), (), L, n, k + 1, ()), (fs, acc ++ [truth x], ()))) (by kernel_rfl) ((ih ((m, (), (), L, n, k + 1, ()), (fs, acc ++ [truth x], ())) (by simp only; omega)).trans ?_)
      refine .nd ⟨h1, h2, by omega, by omega, by rw [List.length_append]; simp; omega⟩ ?_
      rw [e, List.map_cons, List.append_assoc]; exact .refl _
    · rw [List.drop_eq_nil_of_le (by omega), List.map_nil, List.append_nil]
      exact .refl _
theorem treeFs_len : ∀ (t : List Ent) (fs : List (List Int)), (treeFs t fs).length = t.length
  | [], _ => rfl
  | x :: r, fs => by rw [treeFs_cons]; split <;> simp only [List.length_cons, treeFs_len r]
theorem argFs_len : ∀ (l : List (List Int)) (k : Int), (argFs k l).length = l.length
  | [], _ => rfl
  | x :: r, k => by simp only [argFs, List.length_cons, argFs_len r]
def filesOk (m : Img) : Bool := decide (m.2.1.1.length ≤ 1000000 ∧ m.2.1.2.1.length ≤ 1000000 ∧ (capsF m.2.1.1).length ≤ m.2.2.1.1.length ∧ m.2.2.1.1.length ≤ 1000000 ∧ m.2.2.1.2.1.length ≤ 10 ∧ m.2.2.1.2.2.length ≤ 1000000 ∧ m.2.2.2.1.length ≤ 1000000) && m.2.1.1.all fun x => decide (x.1.size ≤ 1000000)
def imgFilesCtr : Ctr := ctr (two (aAgg tImg) (aVal tB)) fun a => .need (filesOk a.1) (ans (rL tFile (filesF a.1 a.2.1)))
theorem imgFiles_ok : CtrOk Tryd.prog 12 imgFilesCtr := by
  refine .mk C24_ok mixed (q := fn24) (.of Tryd.func12 (by kernel_rfl)) lp24_ok (by decide) ?_
  rintro ⟨(m : Img), (p : List Int), ⟨⟩⟩ -
  refine Gives.of_eq (t' := .need (decide (((((List.length (((m).2).1).1) : Nat) : Int) = (((List.length (((m).2).1).1) : Nat) : Int)) ∧ (((((List.length (((m).2).1).1) : Nat) : Int) ≤ (1000000 : Int)) ∧ (((0 : Int) ≤ (0 : Int)) ∧ (((0 : Int) ≤ (((List.length (((m).2).1).1) : Nat) : Int)) ∧ (((((List.length [((ByteArray.mk (List.toArray [(112 : UInt8), (114 : UInt8), (111 : UInt8), (103 : UInt8)])), (false, p))]) : Nat) : Int) ≤ ((0 : Int) + (1 : Int) : Int)) ∧ (((0 : Int) ≤ (0 : Int)) ∧ ((((((List.length (capsF (List.drop 0 (((m).2).1).1))) : Nat) : Int) + (0 : Int) : Int) ≤ (((List.length ((((m).2).2).1).1) : Nat) : Int)) ∧ (((List.length ((((m).2).2).1).1) ≤ 1000000) ∧ ((List.all (((m).2).1).1 (fun x => (decide ((ByteArray.size (x).1) ≤ 1000000)))) = true)))))))))) (.need (decide (((((List.length (((((m).2).2).1).2).1) : Nat) : Int) = (((List.length (((((m).2).2).1).2).1) : Nat) : Int)) ∧ (((((List.length (((((m).2).2).1).2).1) : Nat) : Int) ≤ (10 : Int)) ∧ (((0 : Int) ≤ (0 : Int)) ∧ (((0 : Int) ≤ (((List.length (((((m).2).2).1).2).1) : Nat) : Int)) ∧ ((((List.length ([((ByteArray.mk (List.toArray [(112 : UInt8), (114 : UInt8), (111 : UInt8), (103 : UInt8)])), (false, p))] ++ (treeFs (List.drop 0 (((m).2).1).1) (List.drop 0 ((((m).2).2).1).1)))) : Nat) : Int) ≤ ((10000000 : Int) + (0 : Int) : Int))))))) (.need (decide (((((List.length (((((m).2).2).1).2).2) : Nat) : Int) = (((List.length (((((m).2).2).1).2).2) : Nat) : Int)) ∧ (((((List.length (((((m).2).2).1).2).2) : Nat) : Int) ≤ (1000000 : Int)) ∧ (((0 : Int) ≤ (0 : Int)) ∧ (((0 : Int) ≤ (((List.length (((((m).2).2).1).2).2) : Nat) : Int)) ∧ ((((List.length ([] : List Int)) : Nat) : Int) ≤ (0 : Int))))))) (.need true (.need (decide (((List.length (((m).2).1).1) ≤ 1000000) ∧ ((List.length ((((m).2).1).2).1) ≤ 1000000))) (.need true (.need (decide ((List.length ((((m).2).2).2).1) ≤ 1000000)) (.need true (.need (decide ((((List.length (([((ByteArray.mk (List.toArray [(112 : UInt8), (114 : UInt8), (111 : UInt8), (103 : UInt8)])), (false, p))] ++ (treeFs (List.drop 0 (((m).2).1).1) (List.drop 0 ((((m).2).2).1).1))) ++ (argFs (0 : Int) (List.drop 0 (((((m).2).2).1).2).1)))) + (List.length [((ByteArray.mk (List.toArray [(102 : UInt8), (97 : UInt8), (105 : UInt8), (108 : UInt8), (115 : UInt8)])), (false, (([] : List Int) ++ (List.map truth (List.drop 0 (((((m).2).2).1).2).2))))), ((ByteArray.mk (List.toArray [(99 : UInt8), (108 : UInt8), (97 : UInt8), (115 : UInt8), (115 : UInt8)])), (false, (kindF ((m).2).1))), ((ByteArray.mk (List.toArray [(116 : UInt8), (114 : UInt8), (97 : UInt8), (99 : UInt8), (101 : UInt8)])), (false, (traceF (((m).2).2).2)))]) : Nat) * (Lay.bytes L55) : Nat) ≤ 140737488355328)) (.ret (rL tFile ((([((ByteArray.mk (List.toArray [(112 : UInt8), (114 : UInt8), (111 : UInt8), (103 : UInt8)])), (false, p))] ++ (treeFs (List.drop 0 (((m).2).1).1) (List.drop 0 ((((m).2).2).1).1))) ++ (argFs (0 : Int) (List.drop 0 (((((m).2).2).1).2).1))) ++ [((ByteArray.mk (List.toArray [(102 : UInt8), (97 : UInt8), (105 : UInt8), (108 : UInt8), (115 : UInt8)])), (false, (([] : List Int) ++ (List.map truth (List.drop 0 (((((m).2).2).1).2).2))))), ((ByteArray.mk (List.toArray [(99 : UInt8), (108 : UInt8), (97 : UInt8), (115 : UInt8), (115 : UInt8)])), (false, (kindF ((m).2).1))), ((ByteArray.mk (List.toArray [(116 : UInt8), (114 : UInt8), (97 : UInt8), (99 : UInt8), (101 : UInt8)])), (false, (traceF (((m).2).2).2)))]), ⟨0, [], []⟩))))))))))) (by kernel_rfl) ?_
  show Gives _ (.need (filesOk m) (.ret (rL tFile (filesF m p), (⟨0, [], []⟩ : St))))
  refine .rneed fun h => ?_
  simp only [filesOk, Bool.and_eq_true, decide_eq_true_eq] at h
  obtain ⟨⟨h1, h2, h3, h4, h5, h6, h7⟩, h8⟩ := h
  have ht := treeFs_len m.2.1.1 m.2.2.1.1
  have ha := argFs_len m.2.2.1.2.1 0
  simp only [List.drop_zero, List.nil_append]
  refine .nd ⟨trivial, by omega, by omega, by omega, by simp, by omega, by omega, h4, h8⟩ (.nd ⟨trivial, by omega, by omega, by omega, ?_⟩ (.nd ⟨trivial, by omega, by omega, by omega, by simp⟩ (.need rfl (.nd ⟨h1, h2⟩ (.need rfl (.nd h7 (.need rfl (.nd ?_ ?_))))))))
  · simp only [List.length_append, List.length_singleton]; omega
  · show (([_] ++ treeFs m.2.1.1 m.2.2.1.1 ++ argFs 0 m.2.2.1.2.1).length + 3) * 48 ≤ _
    simp only [List.length_append, List.length_singleton]; omega
  · unfold filesF
    simp only [List.append_assoc, List.cons_append, List.nil_append]
    exact .refl _
end Go.Proofs.YtdngaaploooceaaDoor.Sy

/- Contracts: the head of a file. -/
set_option maxRecDepth 100000
namespace Go.Proofs.YtdngaaploooceaaDoor.Sy
open Go.RowKit Kit Go.Proofs
/-- a row laid over another one, from element k on -/
def cp (es : List Int) (k : Nat) (ns : List Int) : List Int := es.take k ++ ns.take (min ns.length ((es.length : Int) - k).toNat) ++ es.drop (k + min ns.length ((es.length : Int) - k).toNat)
theorem cp_len {es ns : List Int} {k : Nat} (h : k + ns.length ≤ es.length) : (cp es k ns).length = es.length := by
  unfold cp
  simp only [List.length_append, List.length_take, List.length_drop]
  omega
/-- the same from its beginning on -/
def cp0 (es ns : List Int) : List Int := es.take 0 ++ ns.take (min ns.length es.length) ++ es.drop (0 + min ns.length es.length)
theorem cp0_len {es ns : List Int} (h : ns.length ≤ es.length) : (cp0 es ns).length = es.length := by
  unfold cp0
  simp only [List.length_append, List.length_take, List.length_drop]
  omega
theorem u8s_app {l m : List Int} : u8s (l ++ m) = (u8s l && u8s m) := List.all_append
theorem u8s_take {l : List Int} (h : u8s l = true) (n : Nat) : u8s (l.take n) = true := List.all_eq_true.2 fun x hx => List.all_eq_true.1 h x (List.mem_of_mem_take hx)
theorem u8s_drop {l : List Int} (h : u8s l = true) (n : Nat) : u8s (l.drop n) = true := List.all_eq_true.2 fun x hx => List.all_eq_true.1 h x (List.mem_of_mem_drop hx)
theorem u8s_cp {es ns : List Int} (h : u8s es = true) (h' : u8s ns = true) (k : Nat) : u8s (cp es k ns) = true := by
  unfold cp; rw [u8s_app, u8s_app, u8s_take h, u8s_take h', u8s_drop h]; rfl
theorem u8s_cp0 {es ns : List Int} (h : u8s es = true) (h' : u8s ns = true) : u8s (cp0 es ns) = true := by
  unfold cp0; rw [u8s_app, u8s_app, u8s_take h, u8s_take h', u8s_drop h]; rfl
theorem u8s_rep (n : Nat) : u8s (List.replicate n 0) = true := List.all_eq_true.2 fun x hx => by rw [List.eq_of_mem_replicate hx]; rfl
theorem u8s_strB (s : ByteArray) : u8s (strB s) = true := List.all_eq_true.2 fun x hx => by
  obtain ⟨c, _, rfl⟩ := List.mem_map.1 hx
  have := c.toNat_lt
  exact u8_iff.2 ⟨by omega, by omega⟩
theorem u8_wrap (n : Int) : 0 ≤ IntKind.wrap .u8 n ∧ IntKind.wrap .u8 n ≤ 255 := by
  have e : IntKind.wrap .u8 n = n % 256 := by simp [IntKind.wrap, IntKind.bits, IntKind.signed]
  omega
theorem u8s_set {l : List Int} (h : u8s l = true) (k : Nat) {x : Int} (hx : u8 x = true) : u8s (l.set k x) = true := List.all_eq_true.2 fun y hy => by
  rcases List.mem_or_eq_of_mem_set hy with h' | rfl
  · exact List.all_eq_true.1 h y h'
  · exact hx
theorem octR_u8 (n d : Int) : ∀ (s : Nat) (k : Int) (b : List Int), u8s b = true → u8s (octR n d s k b) = true ∧ (octR n d s k b).length = b.length
  | 0, _, b, h => ⟨h, rfl⟩
  | s + 1, k, b, h => by
    rw [octR]
    have := octR_u8 n d s (k + 1) (b.set (d - 1 - k).toNat (octV n k)) (u8s_set h _ (u8_iff.2 (u8_wrap _)))
    rwa [List.length_set] at this
theorem octal_u8 (n d : Int) : u8s (octal n d) = true := (octR_u8 n d _ 0 _ (u8s_rep _)).1
theorem octal_len (n d : Int) : (octal n d).length = (d + 1).toNat := by
  have := (octR_u8 n d d.toNat 0 _ (u8s_rep (d + 1).toNat)).2
  rw [List.length_replicate] at this; exact this
/-- the sign of archives -/
def ustarS : ByteArray := ⟨#[117, 115, 116, 97, 114, 0, 48, 48]⟩
def ustar : List Int := strB ustarS
def headA (f : File) : List Int :=
  cp ((cp (cp (cp (cp (cp (cp0 (List.replicate 512 0) (strB f.1)) 100 (octal (if f.2.1 then 493 else 420) 7)) 108 (octal 0 7)) 116 (octal 0 7)) 124 (octal f.2.2.length 11)) 136 (octal 0 11)).set 156 (if f.2.1 then 53 else 48)) 257 ustar
def headF (f : File) : List Int := cp (headA f) 148 (octal (sumF 0 (headA f)) 6 ++ [32])
noncomputable def fn42 := mkFn Tryd.f18
def octCtr : Ctr := ctr (two aI aI) fun a => .need (decide (0 ≤ a.2.1 ∧ a.2.1 ≤ 100)) (.ret (.e (.c (.row 9)), [(9, .row tU 5 (octal a.1 a.2.1))]))
def sumCtr : Ctr := ctr (one (aVal tB)) fun a => .need (decide (a.1.length ≤ 1000000000000 ∧ u8s a.1 = true)) (ans (rI (sumF 0 a.1)))
def C42 : Cx := ⟨T, FL, [(31, octCtr), (32, sumCtr)], [], [FA]⟩
theorem C42_ok : CxOk Tryd.prog C42 := ⟨T_ok, FL_ok, .cons octal_ok (.cons sum_ok (.nil _)), .nil _⟩
def headCtr : Ctr := ctr (one (aAgg tFile)) fun a => .need (decide (a.1.1.size ≤ 99)) (ans (rL tU (headF a.1)))
/-- the text from the fields on -/
noncomputable def g42 : GC := fn42.g.snd.snd.snd.snd.snd
def S42 (name : ByteArray) (dir : Bool) (data : List Int) (r kd : Int) (b : List Int) : St := ⟨52, [(1, .e (.c (.dp [.v (.string name), .v (.bool dir), .sl tU data]))), (3, .e (.c (.row 6))), (4, rI r), (5, rU kd)], [(6, .row tU 5 b)]⟩
def S42b (r kd : Int) (b : List Int) : St := ⟨52, [(3, .e (.c (.row 6))), (5, rU kd)], [(6, .row tU 5 b)]⟩
theorem head_mid (name : ByteArray) (dir : Bool) (data : List Int) (r kd : Int) (b0 : List Int) (hb0 : b0.length = 512) (hu0 : u8s b0 = true) (hk : u8 kd = true) :
    Gives ((exec 0 C42 [] [] g42.fst (lv g42.snd (slotR fn42.rs) [] (slotR fn42.rs)) [] (slotR fn42.rs) (S42 name dir data r kd b0)).bind fun r => (nxt 0 C42 [] [] g42.snd (slotR fn42.rs) [] (slotR fn42.rs) r).bind (fin C42 fn42.rs))
      (.ret (rL tU (cp (cp ((cp (cp (cp (cp (cp b0 100 (octal r 7)) 108 (octal 0 7)) 116 (octal 0 7)) 124 (octal data.length 11)) 136 (octal 0 11)).set 156 kd) 257 ustar) 148
        (octal (sumF 0 (cp ((cp (cp (cp (cp (cp b0 100 (octal r 7)) 108 (octal 0 7)) 116 (octal 0 7)) 124 (octal data.length 11)) 136 (octal 0 11)).set 156 kd) 257 ustar)) 6 ++ [32])), (⟨0, [], []⟩ : St))) := by
  have l7 : ∀ n, (octal n 7).length = 8 := fun n => octal_len n 7
  have l11 : ∀ n, (octal n 11).length = 12 := fun n => octal_len n 11
  have l6 : ∀ n, (octal n 6).length = 7 := fun n => octal_len n 6
  have ho0 := l7 r
  have hok : (okB (100 : Int) ((b0.length : Nat) : Int) b0.length && decide ((100 : Int) < ((b0.length : Nat) : Int))) = true := by simp [okB]; omega
  have hlen : (cp b0 100 (octal r 7)).length = b0.length := cp_len (by omega)
  refine Gives.run (t' := .need ((okB (100 : Int) (((List.length b0) : Nat) : Int) (List.length b0)) && (decide ((100 : Int) < (((List.length b0) : Nat) : Int)))) (.need true (.need true (.need (decide ((100 + (Min.min (List.length (octal r (7 : Int))) (Int.toNat ((((List.length b0) : Nat) : Int) - (100 : Int) : Int))) : Nat) ≤ (List.length b0))) (.need ((okB (100 : Int) (((List.length b0) : Nat) : Int) (List.length b0)) && (decide ((100 : Int) < (((List.length b0) : Nat) : Int)))) (.need true (.need true (.need (decide ((100 + (Min.min (List.length (octal r (7 : Int))) (Int.toNat ((((List.length b0) : Nat) : Int) - (100 : Int) : Int))) : Nat) ≤ (List.length b0))) (.need (decide ((List.length b0) = (List.length b0))) (.need (decide ((List.length b0) = (List.length b0))) (.ret (.nx, ⟨52, [(1, .e (.c (.dp [.v (.string name), .v (.bool dir), .sl tU data]))), (3, .e (.c (.row 6))), (5, rU kd)], [(6, .row tU 5 (((List.take 100 b0) ++ (List.take (Min.min (List.length (octal r (7 : Int))) (Int.toNat ((((List.length b0) : Nat) : Int) - (100 : Int) : Int))) (octal r (7 : Int)))) ++ (List.drop (100 + (Min.min (List.length (octal r (7 : Int))) (Int.toNat ((((List.length b0) : Nat) : Int) - (100 : Int) : Int))) : Nat) b0))), (10016, .row tU 5 (octal r (7 : Int)))]⟩)))))))))))) (by kernel_rfl) ?_
  repeat' first | with_reducible refine Gives.lneed (b := true) rfl ?_ | with_reducible refine Gives.lneed hok ?_ | (with_reducible refine Gives.lnd ?_ ?_; focus omega)
  refine Gives.goto (σ' := ⟨52, [(1, .e (.c (.dp [.v (.string name), .v (.bool dir), .sl tU data]))), (3, .e (.c (.row 6))), (5, rU kd)], [(6, .row tU 5 (cp b0 100 (octal r 7))), (10016, .row tU 5 (octal r 7))]⟩) rfl ?_
  have hb1 : (cp b0 100 (octal r 7)).length = 512 := by rw [hlen]; exact hb0
  have hu1 := u8s_cp hu0 (octal_u8 _ _ : u8s (octal r 7) = true) 100
  generalize cp b0 100 (octal r 7) = b1 at hb1 hu1 ⊢
  clear hok hlen
  have ho1 := l7 0
  have hok : (okB (108 : Int) ((b1.length : Nat) : Int) b1.length && decide ((108 : Int) < ((b1.length : Nat) : Int))) = true := by simp [okB]; omega
  have hlen : (cp b1 108 (octal 0 7)).length = b1.length := cp_len (by omega)
  refine Gives.seq (by kernel_rfl) ?_
  refine Gives.run (t' := .need ((okB (108 : Int) (((List.length b1) : Nat) : Int) (List.length b1)) && (decide ((108 : Int) < (((List.length b1) : Nat) : Int)))) (.need true (.need true (.need (decide ((108 + (Min.min (List.length (octal (0 : Int) (7 : Int))) (Int.toNat ((((List.length b1) : Nat) : Int) - (108 : Int) : Int))) : Nat) ≤ (List.length b1))) (.need ((okB (108 : Int) (((List.length b1) : Nat) : Int) (List.length b1)) && (decide ((108 : Int) < (((List.length b1) : Nat) : Int)))) (.need true (.need true (.need (decide ((108 + (Min.min (List.length (octal (0 : Int) (7 : Int))) (Int.toNat ((((List.length b1) : Nat) : Int) - (108 : Int) : Int))) : Nat) ≤ (List.length b1))) (.need (decide ((List.length b1) = (List.length b1))) (.need true (.need (decide ((List.length b1) = (List.length b1))) (.need true (.ret (.nx, ⟨52, [(1, .e (.c (.dp [.v (.string name), .v (.bool dir), .sl tU data]))), (3, .e (.c (.row 6))), (5, rU kd)], [(6, .row tU 5 (((List.take 108 b1) ++ (List.take (Min.min (List.length (octal (0 : Int) (7 : Int))) (Int.toNat ((((List.length b1) : Nat) : Int) - (108 : Int) : Int))) (octal (0 : Int) (7 : Int)))) ++ (List.drop (108 + (Min.min (List.length (octal (0 : Int) (7 : Int))) (Int.toNat ((((List.length b1) : Nat) : Int) - (108 : Int) : Int))) : Nat) b1))), (10016, .row tU 5 (octal r (7 : Int))), (10020, .row tU 5 (octal (0 : Int) (7 : Int)))]⟩)))))))))))))) (by kernel_rfl) ?_
  repeat' first | with_reducible refine Gives.lneed (b := true) rfl ?_ | with_reducible refine Gives.lneed hok ?_ | (with_reducible refine Gives.lnd ?_ ?_; focus omega)
  refine Gives.goto (σ' := ⟨52, [(1, .e (.c (.dp [.v (.string name), .v (.bool dir), .sl tU data]))), (3, .e (.c (.row 6))), (5, rU kd)], [(6, .row tU 5 (cp b1 108 (octal 0 7))), (10016, .row tU 5 (octal r 7)), (10020, .row tU 5 (octal 0 7))]⟩) rfl ?_
  have hb2 : (cp b1 108 (octal 0 7)).length = 512 := by rw [hlen]; exact hb1
  have hu2 := u8s_cp hu1 (octal_u8 _ _ : u8s (octal 0 7) = true) 108
  generalize cp b1 108 (octal 0 7) = b2 at hb2 hu2 ⊢
  clear hok hlen
  have ho2 := l7 0
  have hok : (okB (116 : Int) ((b2.length : Nat) : Int) b2.length && decide ((116 : Int) < ((b2.length : Nat) : Int))) = true := by simp [okB]; omega
  have hlen : (cp b2 116 (octal 0 7)).length = b2.length := cp_len (by omega)
  refine Gives.seq (by kernel_rfl) ?_
  refine Gives.run (t' := .need ((okB (116 : Int) (((List.length b2) : Nat) : Int) (List.length b2)) && (decide ((116 : Int) < (((List.length b2) : Nat) : Int)))) (.need true (.need true (.need (decide ((116 + (Min.min (List.length (octal (0 : Int) (7 : Int))) (Int.toNat ((((List.length b2) : Nat) : Int) - (116 : Int) : Int))) : Nat) ≤ (List.length b2))) (.need ((okB (116 : Int) (((List.length b2) : Nat) : Int) (List.length b2)) && (decide ((116 : Int) < (((List.length b2) : Nat) : Int)))) (.need true (.need true (.need (decide ((116 + (Min.min (List.length (octal (0 : Int) (7 : Int))) (Int.toNat ((((List.length b2) : Nat) : Int) - (116 : Int) : Int))) : Nat) ≤ (List.length b2))) (.need (decide ((List.length b2) = (List.length b2))) (.need true (.need true (.need (decide ((List.length b2) = (List.length b2))) (.need true (.need true (.ret (.nx, ⟨52, [(1, .e (.c (.dp [.v (.string name), .v (.bool dir), .sl tU data]))), (3, .e (.c (.row 6))), (5, rU kd)], [(6, .row tU 5 (((List.take 116 b2) ++ (List.take (Min.min (List.length (octal (0 : Int) (7 : Int))) (Int.toNat ((((List.length b2) : Nat) : Int) - (116 : Int) : Int))) (octal (0 : Int) (7 : Int)))) ++ (List.drop (116 + (Min.min (List.length (octal (0 : Int) (7 : Int))) (Int.toNat ((((List.length b2) : Nat) : Int) - (116 : Int) : Int))) : Nat) b2))), (10016, .row tU 5 (octal r (7 : Int))), (10020, .row tU 5 (octal (0 : Int) (7 : Int))), (10024, .row tU 5 (octal (0 : Int) (7 : Int)))]⟩)))))))))))))))) (by kernel_rfl) ?_
  repeat' first | with_reducible refine Gives.lneed (b := true) rfl ?_ | with_reducible refine Gives.lneed hok ?_ | (with_reducible refine Gives.lnd ?_ ?_; focus omega)
  refine Gives.goto (σ' := ⟨52, [(1, .e (.c (.dp [.v (.string name), .v (.bool dir), .sl tU data]))), (3, .e (.c (.row 6))), (5, rU kd)], [(6, .row tU 5 (cp b2 116 (octal 0 7))), (10016, .row tU 5 (octal r 7)), (10020, .row tU 5 (octal 0 7)), (10024, .row tU 5 (octal 0 7))]⟩) rfl ?_
  have hb3 : (cp b2 116 (octal 0 7)).length = 512 := by rw [hlen]; exact hb2
  have hu3 := u8s_cp hu2 (octal_u8 _ _ : u8s (octal 0 7) = true) 116
  generalize cp b2 116 (octal 0 7) = b3 at hb3 hu3 ⊢
  clear hok hlen
  have ho3 := l11 data.length
  have hok : (okB (124 : Int) ((b3.length : Nat) : Int) b3.length && decide ((124 : Int) < ((b3.length : Nat) : Int))) = true := by simp [okB]; omega
  have hlen : (cp b3 124 (octal data.length 11)).length = b3.length := cp_len (by omega)
  refine Gives.seq (by kernel_rfl) ?_
  refine Gives.run (t' := .need ((okB (124 : Int) (((List.length b3) : Nat) : Int) (List.length b3)) && (decide ((124 : Int) < (((List.length b3) : Nat) : Int)))) (.need true (.need true (.need (decide ((124 + (Min.min (List.length (octal (((List.length data) : Nat) : Int) (11 : Int))) (Int.toNat ((((List.length b3) : Nat) : Int) - (124 : Int) : Int))) : Nat) ≤ (List.length b3))) (.need ((okB (124 : Int) (((List.length b3) : Nat) : Int) (List.length b3)) && (decide ((124 : Int) < (((List.length b3) : Nat) : Int)))) (.need true (.need true (.need (decide ((124 + (Min.min (List.length (octal (((List.length data) : Nat) : Int) (11 : Int))) (Int.toNat ((((List.length b3) : Nat) : Int) - (124 : Int) : Int))) : Nat) ≤ (List.length b3))) (.need (decide ((List.length b3) = (List.length b3))) (.need true (.need true (.need true (.need (decide ((List.length b3) = (List.length b3))) (.need true (.need true (.need true (.ret (.nx, ⟨52, [(3, .e (.c (.row 6))), (5, rU kd)], [(6, .row tU 5 (((List.take 124 b3) ++ (List.take (Min.min (List.length (octal (((List.length data) : Nat) : Int) (11 : Int))) (Int.toNat ((((List.length b3) : Nat) : Int) - (124 : Int) : Int))) (octal (((List.length data) : Nat) : Int) (11 : Int)))) ++ (List.drop (124 + (Min.min (List.length (octal (((List.length data) : Nat) : Int) (11 : Int))) (Int.toNat ((((List.length b3) : Nat) : Int) - (124 : Int) : Int))) : Nat) b3))), (10016, .row tU 5 (octal r (7 : Int))), (10020, .row tU 5 (octal (0 : Int) (7 : Int))), (10024, .row tU 5 (octal (0 : Int) (7 : Int))), (10031, .row tU 5 (octal (((List.length data) : Nat) : Int) (11 : Int)))]⟩)))))))))))))))))) (by kernel_rfl) ?_
  repeat' first | with_reducible refine Gives.lneed (b := true) rfl ?_ | with_reducible refine Gives.lneed hok ?_ | (with_reducible refine Gives.lnd ?_ ?_; focus omega)
  refine Gives.goto (σ' := ⟨52, [(3, .e (.c (.row 6))), (5, rU kd)], [(6, .row tU 5 (cp b3 124 (octal data.length 11))), (10016, .row tU 5 (octal r 7)), (10020, .row tU 5 (octal 0 7)), (10024, .row tU 5 (octal 0 7)), (10031, .row tU 5 (octal data.length 11))]⟩) rfl ?_
  have hb4 : (cp b3 124 (octal data.length 11)).length = 512 := by rw [hlen]; exact hb3
  have hu4 := u8s_cp hu3 (octal_u8 _ _ : u8s (octal data.length 11) = true) 124
  generalize cp b3 124 (octal data.length 11) = b4 at hb4 hu4 ⊢
  clear hok hlen
  have ho4 := l11 0
  have hok : (okB (136 : Int) ((b4.length : Nat) : Int) b4.length && decide ((136 : Int) < ((b4.length : Nat) : Int))) = true := by simp [okB]; omega
  have hlen : (cp b4 136 (octal 0 11)).length = b4.length := cp_len (by omega)
  refine Gives.seq (by kernel_rfl) ?_
  refine Gives.run (t' := .need ((okB (136 : Int) (((List.length b4) : Nat) : Int) (List.length b4)) && (decide ((136 : Int) < (((List.length b4) : Nat) : Int)))) (.need true (.need true (.need (decide ((136 + (Min.min (List.length (octal (0 : Int) (11 : Int))) (Int.toNat ((((List.length b4) : Nat) : Int) - (136 : Int) : Int))) : Nat) ≤ (List.length b4))) (.need ((okB (136 : Int) (((List.length b4) : Nat) : Int) (List.length b4)) && (decide ((136 : Int) < (((List.length b4) : Nat) : Int)))) (.need true (.need true (.need (decide ((136 + (Min.min (List.length (octal (0 : Int) (11 : Int))) (Int.toNat ((((List.length b4) : Nat) : Int) - (136 : Int) : Int))) : Nat) ≤ (List.length b4))) (.need (decide ((List.length b4) = (List.length b4))) (.need true (.need true (.need true (.need true (.need (decide ((List.length b4) = (List.length b4))) (.need true (.need true (.need true (.need true (.ret (.nx, ⟨52, [(3, .e (.c (.row 6))), (5, rU kd)], [(6, .row tU 5 (((List.take 136 b4) ++ (List.take (Min.min (List.length (octal (0 : Int) (11 : Int))) (Int.toNat ((((List.length b4) : Nat) : Int) - (136 : Int) : Int))) (octal (0 : Int) (11 : Int)))) ++ (List.drop (136 + (Min.min (List.length (octal (0 : Int) (11 : Int))) (Int.toNat ((((List.length b4) : Nat) : Int) - (136 : Int) : Int))) : Nat) b4))), (10016, .row tU 5 (octal r (7 : Int))), (10020, .row tU 5 (octal (0 : Int) (7 : Int))), (10024, .row tU 5 (octal (0 : Int) (7 : Int))), (10031, .row tU 5 (octal (((List.length data) : Nat) : Int) (11 : Int))), (10035, .row tU 5 (octal (0 : Int) (11 : Int)))]⟩)))))))))))))))))))) (by kernel_rfl) ?_
  repeat' first | with_reducible refine Gives.lneed (b := true) rfl ?_ | with_reducible refine Gives.lneed hok ?_ | (with_reducible refine Gives.lnd ?_ ?_; focus omega)
  refine Gives.goto (σ' := ⟨52, [(3, .e (.c (.row 6))), (5, rU kd)], [(6, .row tU 5 (cp b4 136 (octal 0 11))), (10016, .row tU 5 (octal r 7)), (10020, .row tU 5 (octal 0 7)), (10024, .row tU 5 (octal 0 7)), (10031, .row tU 5 (octal data.length 11)), (10035, .row tU 5 (octal 0 11))]⟩) rfl ?_
  have hb5 : (cp b4 136 (octal 0 11)).length = 512 := by rw [hlen]; exact hb4
  have hu5 := u8s_cp hu4 (octal_u8 _ _ : u8s (octal 0 11) = true) 136
  generalize cp b4 136 (octal 0 11) = b5 at hb5 hu5 ⊢
  clear hok hlen
  refine Gives.seq (by kernel_rfl) ?_
  refine Gives.run (t' := .need (inR (156 : Int) (List.length b5)) (.need (decide (156 < (List.length b5))) (.ret (.nx, ⟨52, [(3, .e (.c (.row 6)))], [(6, .row tU 5 (List.set b5 156 kd)), (10016, .row tU 5 (octal r (7 : Int))), (10020, .row tU 5 (octal (0 : Int) (7 : Int))), (10024, .row tU 5 (octal (0 : Int) (7 : Int))), (10031, .row tU 5 (octal (((List.length data) : Nat) : Int) (11 : Int))), (10035, .row tU 5 (octal (0 : Int) (11 : Int)))]⟩)))) (by kernel_rfl) ?_
  refine .lneed (inR_of (by omega) (by omega)) (.lnd (by omega) ?_)
  refine Gives.goto (σ' := ⟨52, [(3, .e (.c (.row 6)))], [(6, .row tU 5 (b5.set 156 kd)), (10016, .row tU 5 (octal r 7)), (10020, .row tU 5 (octal 0 7)), (10024, .row tU 5 (octal 0 7)), (10031, .row tU 5 (octal data.length 11)), (10035, .row tU 5 (octal 0 11))]⟩) (by kernel_rfl) ?_
  have hb6 : (b5.set 156 kd).length = 512 := by rw [List.length_set]; exact hb5
  have hu6 := u8s_set hu5 156 hk
  generalize b5.set 156 kd = b6 at hb6 hu6 ⊢
  have hus : ustar.length = 8 := by decide +kernel
  have hok : (okB (257 : Int) ((b6.length : Nat) : Int) b6.length && decide ((257 : Int) < ((b6.length : Nat) : Int))) = true := by simp [okB]; omega
  have hlen : (cp b6 257 ustar).length = b6.length := cp_len (by omega)
  refine Gives.seq (by kernel_rfl) ?_
  refine Gives.run (t' := .need ((okB (257 : Int) (((List.length b6) : Nat) : Int) (List.length b6)) && (decide ((257 : Int) < (((List.length b6) : Nat) : Int)))) (.need true (.need (decide ((257 + (Min.min (List.length (strB (ByteArray.mk (List.toArray [(117 : UInt8), (115 : UInt8), (116 : UInt8), (97 : UInt8), (114 : UInt8), (0 : UInt8), (48 : UInt8), (48 : UInt8)])))) (Int.toNat ((((List.length b6) : Nat) : Int) - (257 : Int) : Int))) : Nat) ≤ (List.length b6))) (.ret (.nx, ⟨52, [(3, .e (.c (.row 6)))], [(6, .row tU 5 (((List.take 257 b6) ++ (List.take (Min.min (List.length (strB (ByteArray.mk (List.toArray [(117 : UInt8), (115 : UInt8), (116 : UInt8), (97 : UInt8), (114 : UInt8), (0 : UInt8), (48 : UInt8), (48 : UInt8)])))) (Int.toNat ((((List.length b6) : Nat) : Int) - (257 : Int) : Int))) (strB (ByteArray.mk (List.toArray [(117 : UInt8), (115 : UInt8), (116 : UInt8), (97 : UInt8), (114 : UInt8), (0 : UInt8), (48 : UInt8), (48 : UInt8)]))))) ++ (List.drop (257 + (Min.min (List.length (strB (ByteArray.mk (List.toArray [(117 : UInt8), (115 : UInt8), (116 : UInt8), (97 : UInt8), (114 : UInt8), (0 : UInt8), (48 : UInt8), (48 : UInt8)])))) (Int.toNat ((((List.length b6) : Nat) : Int) - (257 : Int) : Int))) : Nat) b6))), (10016, .row tU 5 (octal r (7 : Int))), (10020, .row tU 5 (octal (0 : Int) (7 : Int))), (10024, .row tU 5 (octal (0 : Int) (7 : Int))), (10031, .row tU 5 (octal (((List.length data) : Nat) : Int) (11 : Int))), (10035, .row tU 5 (octal (0 : Int) (11 : Int)))]⟩))))) (by kernel_rfl) ?_
  refine .lneed hok (.lneed rfl (.lnd (by show 257 + min ustar.length _ ≤ _; omega) ?_))
  refine Gives.goto (σ' := ⟨52, [(3, .e (.c (.row 6)))], [(6, .row tU 5 (cp b6 257 ustar)), (10016, .row tU 5 (octal r 7)), (10020, .row tU 5 (octal 0 7)), (10024, .row tU 5 (octal 0 7)), (10031, .row tU 5 (octal data.length 11)), (10035, .row tU 5 (octal 0 11))]⟩) rfl ?_
  have hb7 : (cp b6 257 ustar).length = 512 := by rw [hlen]; exact hb6
  have hu7 := u8s_cp hu6 (by decide +kernel : u8s ustar = true) 257
  generalize cp b6 257 ustar = b7 at hb7 hu7 ⊢
  clear hok hlen
  have hok : (okB (148 : Int) ((b7.length : Nat) : Int) b7.length && decide ((148 : Int) < ((b7.length : Nat) : Int))) = true := by simp [okB]; omega
  have ho6 := l6 (sumF 0 b7)
  have hol : (octal (sumF 0 b7) 6 ++ [32]).length = 8 := by rw [List.length_append, ho6]; rfl
  have hlen : (cp b7 148 (octal (sumF 0 b7) 6 ++ [32])).length = b7.length := cp_len (by omega)
  refine Gives.seq (by kernel_rfl) ?_
  refine Gives.run (t' := .need ((okB (148 : Int) (((List.length b7) : Nat) : Int) (List.length b7)) && (decide ((148 : Int) < (((List.length b7) : Nat) : Int)))) (.need (decide (((List.length b7) ≤ 1000000000000) ∧ ((u8s b7) = true))) (.need true (.need true (.need true (.need true (.need (decide ((148 + (Min.min (List.length ((octal (sumF 0 b7) (6 : Int)) ++ [(32 : Int)])) (Int.toNat ((((List.length b7) : Nat) : Int) - (148 : Int) : Int))) : Nat) ≤ (List.length b7))) (.need ((okB (148 : Int) (((List.length b7) : Nat) : Int) (List.length b7)) && (decide ((148 : Int) < (((List.length b7) : Nat) : Int)))) (.need (decide (((List.length b7) ≤ 1000000000000) ∧ ((u8s b7) = true))) (.need true (.need true (.need true (.need true (.need (decide ((148 + (Min.min (List.length ((octal (sumF 0 b7) (6 : Int)) ++ [(32 : Int)])) (Int.toNat ((((List.length b7) : Nat) : Int) - (148 : Int) : Int))) : Nat) ≤ (List.length b7))) (.need (decide ((List.length b7) = (List.length b7))) (.need true (.need true (.need true (.need true (.need true (.need (decide ((List.length b7) = (List.length b7))) (.need true (.need true (.need true (.need true (.need true (.ret (.nx, ⟨52, [(3, .e (.c (.row 6)))], [(6, .row tU 5 (((List.take 148 b7) ++ (List.take (Min.min (List.length ((octal (sumF 0 b7) (6 : Int)) ++ [(32 : Int)])) (Int.toNat ((((List.length b7) : Nat) : Int) - (148 : Int) : Int))) ((octal (sumF 0 b7) (6 : Int)) ++ [(32 : Int)]))) ++ (List.drop (148 + (Min.min (List.length ((octal (sumF 0 b7) (6 : Int)) ++ [(32 : Int)])) (Int.toNat ((((List.length b7) : Nat) : Int) - (148 : Int) : Int))) : Nat) b7))), (49, .row tU 5 ((octal (sumF 0 b7) (6 : Int)) ++ [(32 : Int)])), (10016, .row tU 5 (octal r (7 : Int))), (10020, .row tU 5 (octal (0 : Int) (7 : Int))), (10024, .row tU 5 (octal (0 : Int) (7 : Int))), (10031, .row tU 5 (octal (((List.length data) : Nat) : Int) (11 : Int))), (10035, .row tU 5 (octal (0 : Int) (11 : Int)))]⟩)))))))))))))))))))))))))))) (by kernel_rfl) ?_
  have hsm : b7.length ≤ 1000000000000 ∧ u8s b7 = true := ⟨by omega, hu7⟩
  repeat' first | with_reducible refine Gives.lneed (b := true) rfl ?_ | with_reducible refine Gives.lneed hok ?_ | with_reducible refine Gives.lnd hsm ?_ | (with_reducible refine Gives.lnd ?_ ?_; focus omega)
  refine Gives.goto rfl ?_
  exact Gives.of_eq (t' := .ret (rL tU (cp b7 148 (octal (sumF 0 b7) 6 ++ [32])), ⟨0, [], []⟩)) (by kernel_rfl) (.refl _)
theorem head_ok : CtrOk Tryd.prog 18 headCtr := by
  refine .mk C42_ok mixed (q := fn42) (.of Tryd.func18 (by kernel_rfl)) (N := 0) (nr := []) .none (by decide) ?_
  rintro ⟨⟨(name : ByteArray), (dir : Bool), (data : List Int)⟩, ⟨⟩⟩ -
  show Gives _ (.need _ (.ret (rL tU (headF (name, dir, data)), (⟨0, [], []⟩ : St))))
  refine .rnd fun h => ?_
  have h : name.size ≤ 99 := h
  have hn := strB_length name
  unfold headF headA
  dsimp only
  refine Gives.seq (by kernel_rfl) ?_
  refine Gives.run (t' := .ret (.nx, ⟨52, [(1, .e (.c (.dp [.v (.string name), .v (.bool dir), .sl tU data])))], []⟩)) (by kernel_rfl) ?_
  refine Gives.goto rfl (Gives.seq (by kernel_rfl) ?_)
  refine Gives.run (t' := .need true (.ret (.nx, ⟨52, [(1, .e (.c (.dp [.v (.string name), .v (.bool dir), .sl tU data]))), (3, .e (.c (.row 6)))], [(6, .row (Ty.int IntKind.u8) 5 (List.replicate 512 (0 : Int)))]⟩))) (by kernel_rfl) ?_
  refine .lneed rfl (Gives.goto rfl (Gives.seq (by kernel_rfl) ?_))
  have hb0 : (List.replicate 512 (0 : Int)).length = 512 := List.length_replicate
  have hu0 := u8s_rep 512
  generalize List.replicate 512 (0 : Int) = b0 at hb0 hu0 ⊢
  refine Gives.run (t' := .need true (.need (decide ((0 + (Min.min (List.length (strB name)) (List.length b0)) : Nat) ≤ (List.length b0))) (.ret (.nx, ⟨52, [(1, .e (.c (.dp [.v (.string name), .v (.bool dir), .sl tU data]))), (3, .e (.c (.row 6)))], [(6, .row (Ty.int IntKind.u8) 5 (((List.take 0 b0) ++ (List.take (Min.min (List.length (strB name)) (List.length b0)) (strB name))) ++ (List.drop (0 + (Min.min (List.length (strB name)) (List.length b0)) : Nat) b0)))]⟩)))) (by kernel_rfl) ?_
  refine .lneed rfl (.lnd (by omega) (Gives.goto (σ' := ⟨52, [(1, .e (.c (.dp [.v (.string name), .v (.bool dir), .sl tU data]))), (3, .e (.c (.row 6)))], [(6, .row tU 5 (cp0 b0 (strB name)))]⟩) rfl ?_))
  have hb1 : (cp0 b0 (strB name)).length = 512 := by rw [cp0_len (by omega)]; exact hb0
  have hu1 := u8s_cp0 hu0 (u8s_strB name)
  generalize cp0 b0 (strB name) = b1 at hb1 hu1 ⊢
  refine Gives.seq (by kernel_rfl) ?_
  refine Gives.run (t' := .ret (.nx, ⟨52, [(1, .e (.c (.dp [.v (.string name), .v (.bool dir), .sl tU data]))), (3, .e (.c (.row 6))), (4, rI (420 : Int)), (5, rU (48 : Int))], [(6, .row tU 5 b1)]⟩)) (by kernel_rfl) ?_
  refine Gives.goto rfl (Gives.seq (by kernel_rfl) ?_)
  refine Gives.run (t' := .ite dir (.ret (.nx, ⟨52, [(1, .e (.c (.dp [.v (.string name), .v (.bool dir), .sl tU data]))), (3, .e (.c (.row 6))), (4, rI (493 : Int)), (5, rU (53 : Int))], [(6, .row tU 5 b1)]⟩)) (.ret (.nx, ⟨52, [(1, .e (.c (.dp [.v (.string name), .v (.bool dir), .sl tU data]))), (3, .e (.c (.row 6))), (4, rI (420 : Int)), (5, rU (48 : Int)), (12, .e (.c (.kb false)))], [(6, .row tU 5 b1)]⟩))) (by kernel_rfl) ?_
  refine .lite (fun hd => ?_) (fun hd => ?_)
  · have hd : dir = true := hd
    subst hd
    exact Gives.goto (σ' := S42 name true data 493 53 b1) rfl (Gives.seq (by kernel_rfl) (head_mid name true data 493 53 b1 hb1 hu1 rfl))
  · have hd : dir = false := hd
    subst hd
    refine Gives.goto rfl (Gives.seq (by kernel_rfl) (Gives.run (t' := exec 0 C42 [] [] g42.fst (lv g42.snd (slotR fn42.rs) [] (slotR fn42.rs)) [] (slotR fn42.rs) (S42 name false data 420 48 b1)) (by kernel_rfl) ?_))
    exact head_mid name false data 420 48 b1 hb1 hu1 rfl
end Go.Proofs.YtdngaaploooceaaDoor.Sy

/- Contracts: archives that may be, and what they are. -/
set_option maxRecDepth 100000
namespace Go.Proofs.YtdngaaploooceaaDoor.Sy
open Go.RowKit Kit Go.Proofs
/-- how many blocks so many bytes take -/
def blocksF (n : Int) : Int := Int.tdiv (n + 512 - 1) 512
noncomputable def fn43 := mkFn Tryd.f19
def blocksCtr : Ctr := ctr (one aI) fun a => .need (decide (0 ≤ a.1 ∧ a.1 ≤ 1000000000000000)) (ans (rI (blocksF a.1)))
theorem blocksF_le {n : Int} (h : 0 ≤ n) : 0 ≤ blocksF n ∧ n ≤ blocksF n * 512 ∧ blocksF n * 512 ≤ n + 511 := by
  have e : blocksF n = (n + 512 - 1) / 512 := Int.tdiv_eq_ediv_of_nonneg (by omega)
  omega
theorem blocks_ok : CtrOk Tryd.prog 19 blocksCtr := by
  refine .mk C0_ok mixed (q := fn43) (.of Tryd.func19 (by kernel_rfl)) (N := 0) (nr := []) .none (by decide) ?_
  rintro ⟨(n : Int), ⟨⟩⟩ -
  refine Gives.of_eq (t' := .need (decide (((-(9223372036854775808 : Int) : Int) ≤ (n + (512 : Int) : Int)) ∧ ((n + (512 : Int) : Int) ≤ (9223372036854775807 : Int)))) (.need (decide (((-(9223372036854775808 : Int) : Int) ≤ ((n + (512 : Int) : Int) - (1 : Int) : Int)) ∧ (((n + (512 : Int) : Int) - (1 : Int) : Int) ≤ (9223372036854775807 : Int)))) (.need true (.need (decide (((-(9223372036854775808 : Int) : Int) ≤ (Int.tdiv ((n + (512 : Int) : Int) - (1 : Int) : Int) (512 : Int))) ∧ ((Int.tdiv ((n + (512 : Int) : Int) - (1 : Int) : Int) (512 : Int)) ≤ (9223372036854775807 : Int)))) (.ret (rI (Int.tdiv ((n + (512 : Int) : Int) - (1 : Int) : Int) (512 : Int)), ⟨0, [], []⟩)))))) (by kernel_rfl) ?_
  show Gives _ (.need _ (.ret (rI (blocksF n), (⟨0, [], []⟩ : St))))
  refine .rnd fun ⟨h1, h2⟩ => ?_
  have h1 : 0 ≤ n := h1
  have h2 : n ≤ 1000000000000000 := h2
  have hb := blocksF_le h1
  exact .nd (by omega) (.nd (by omega) (.need rfl (.nd (by show _ ≤ blocksF n ∧ blocksF n ≤ _; omega) (.refl _))))
noncomputable def fn61 := mkFn Tryd.f40
def C61 : Cx := ⟨T, [], [(58, idxCtr)], [], []⟩
theorem C61_ok : CxOk Tryd.prog C61 := ⟨T_ok, .nil _, .cons idxS_ok (.nil _), .nil _⟩
theorem idx61_ok : CtrOk Tryd.prog 40 idxCtr := by
  refine .mk C61_ok mixed (q := fn61) (.of Tryd.func40 (by kernel_rfl)) (N := 0) (nr := []) .none (by decide) ?_
  rintro ⟨(s : ByteArray), (c : Int), ⟨⟩⟩ -
  refine Gives.of_eq (t' := .ret (rI (idxS s c), ⟨0, [], []⟩)) (by kernel_rfl) ?_
  exact .refl _

/-! ### tar.may -/
def nameBad (f : File) : Bool := decide (f.1 = ByteArray.empty) || decide (99 < f.1.size) || decide (0 ≤ idxS f.1 0)
def dirBad (f : File) : Bool := f.2.1 && decide (0 < f.2.2.length)
/-- blocks of a file -/
def blkF (f : File) : Int := 1 + blocksF (imin f.2.2.length 65536)
def fullBad : Int → List File → Bool
  | _, [] => false
  | n, f :: r => decide (128 < n + blkF f) || fullBad (n + blkF f) r
def tMay (l : List File) : Int := if l.any nameBad then 10 else if l.any dirBad then 12 else if fullBad 2 l then 3 else 0
noncomputable def fn41 := mkFn Tryd.f17
def C41 : Cx := ⟨T, FL, [(40, idxCtr), (19, blocksCtr)], [], []⟩
theorem C41_ok : CxOk Tryd.prog C41 := ⟨T_ok, FL_ok, .cons idx61_ok (.cons blocks_ok (.nil _)), .nil _⟩
def q41a : Frm := ⟨64, [(0, .dat (.sl tFile)), (10, .dat (.sl tFile)), (11, .dat tI), (12, .dat tI)], []⟩
def R41a : q41a.V → Tr (Ex × St) := fun (((l : List File), (L : List File), (n : Int), (k : Int), _), _) =>
  .need (decide (n = L.length ∧ n ≤ 9223372036854775807 ∧ 0 ≤ k ∧ k ≤ n)) (.ite ((L.drop k.toNat).any nameBad) (.ret (.rt, ⟨64, [(2, rI 10)], []⟩)) (.ret (.ex 0, ⟨64, [(0, rL tFile l)], []⟩)))
def q41b : Frm := ⟨64, [(0, .dat (.sl tFile)), (32, .dat (.sl tFile)), (33, .dat tI), (34, .dat tI)], []⟩
def R41b : q41b.V → Tr (Ex × St) := fun (((l : List File), (L : List File), (n : Int), (k : Int), _), _) =>
  .need (decide (n = L.length ∧ n ≤ 9223372036854775807 ∧ 0 ≤ k ∧ k ≤ n)) (.ite ((L.drop k.toNat).any dirBad) (.ret (.rt, ⟨64, [(2, rI 12)], []⟩)) (.ret (.ex 2, ⟨64, [(0, rL tFile l)], []⟩)))
def q41c : Frm := ⟨64, [(7, .dat tI), (47, .dat (.sl tFile)), (48, .dat tI), (49, .dat tI)], []⟩
def R41c : q41c.V → Tr (Ex × St) := fun (((m : Int), (L : List File), (n : Int), (k : Int), _), _) =>
  .need (decide (n = L.length ∧ n ≤ 9223372036854775807 ∧ 0 ≤ k ∧ k ≤ n ∧ 0 ≤ m ∧ m ≤ 128)) (.ite (fullBad m (L.drop k.toNat)) (.ret (.rt, ⟨64, [(2, rI 3)], []⟩)) (.ret (.ex 4, ⟨64, [], []⟩)))
noncomputable def lp41 : LP := [(0, sumP q41a R41a), (2, sumP q41b R41b), (4, sumP q41c R41c)]
theorem lp41_ok : LpsOk 0 C41 [] lp41 fn41.loops := by
  refine .all (by kernel_rfl) ?_
  simp only [lp41, List.forall_mem_cons, List.not_mem_nil, false_imp_iff, implies_true, and_true]
  refine ⟨?_, ?_, ?_⟩
  · refine .pat q41a R41a (fun v => (v.1.2.2.1 - v.1.2.2.2.1).toNat) ?_
    rintro ⟨⟨(l : List File), (L : List File), (n : Int), (k : Int), ⟨⟩⟩, ⟨⟩⟩ ih
    refine Gives.run (t' := .ite (decide (k < n)) (.need (inR k (List.length L)) (.need true (.ite (decide (((List.getD L (Int.toNat k) (ByteArray.empty, (false, ([] : List Int))))).1 = (ByteArray.mk (List.toArray ([] : List UInt8))))) (.ret (.rt, ⟨64, [(2, rI (10 : Int))], []⟩)) (.ite (decide ((99 : Int) < (((ByteArray.size ((List.getD L (Int.toNat k) (ByteArray.empty, (false, ([] : List Int))))).1) : Nat) : Int))) (.ret (.rt, ⟨64, [(2, rI (10 : Int))], []⟩)) (.ite (decide ((0 : Int) ≤ (idxS ((List.getD L (Int.toNat k) (ByteArray.empty, (false, ([] : List Int))))).1 (0 : Int)))) (.ret (.rt, ⟨64, [(2, rI (10 : Int))], []⟩)) (.need (decide (((-(9223372036854775808 : Int) : Int) ≤ (k + (1 : Int) : Int)) ∧ ((k + (1 : Int) : Int) ≤ (9223372036854775807 : Int)))) (.ret (.nx, ⟨64, [(0, rL tFile l), (10, rL tFile L), (11, rI n), (12, rI (k + (1 : Int) : Int))], [(4, .cells 55 [.d (.v (.string ((List.getD L (Int.toNat k) (ByteArray.empty, (false, ([] : List Int))))).1)), .d (.v (.bool (((List.getD L (Int.toNat k) (ByteArray.empty, (false, ([] : List Int))))).2).1)), .d (.sl tU (((List.getD L (Int.toNat k) (ByteArray.empty, (false, ([] : List Int))))).2).2)])]⟩)))))))) (.ret (.ex 0, ⟨64, [(0, rL tFile l)], []⟩))) (by kernel_rfl) ?_
    refine .rnd fun ⟨h1, h2, h3, h4⟩ => ?_
    refine .lif (fun hk => ?_) (fun hk => ?_)
    · have e : (k + 1).toNat = k.toNat + 1 := by omega
      rw [drop_at L k.toNat (ByteArray.empty, false, []) (by omega)]
      refine .lneed (inR_of h3 (by omega)) ?_
      generalize L.getD k.toNat (ByteArray.empty, false, []) = x
      obtain ⟨p, d, c⟩ := x
      refine .lneed rfl (.lif (fun hx => ?_) (fun hx => ?_))
      · exact .rtt (any_t (by unfold nameBad; rw [decide_eq_true (show p = ByteArray.empty from hx)]; rfl)) (.refl _)
      refine .lif (fun hy => ?_) (fun hy => ?_)
      · have hy : (99 : Int) < p.size := hy
        exact .rtt (any_t (by unfold nameBad; rw [decide_eq_true (show 99 < p.size by omega)]; simp)) (.refl _)
      have hy : ¬ (99 : Int) < p.size := hy
      refine .lif (fun hz => ?_) (fun hz => ?_)
      · exact .rtt (any_t (by unfold nameBad; rw [decide_eq_true (show 0 ≤ idxS p 0 from hz)]; simp)) (.refl _)
      have hb : nameBad (p, d, c) = false := by
        unfold nameBad
        rw [decide_eq_false (show ¬ p = ByteArray.empty from hx), decide_eq_false (show ¬ 99 < p.size by omega), decide_eq_false (show ¬ 0 ≤ idxS p 0 from hz)]; rfl
      refine .rb (any_f hb) (.lnd (by omega) ?_)
      refine Gives.next (σ' := q41a.st ((l, L, n, k + 1, ()), ())) (by kernel_rfl) ((ih ((l, L, n, k + 1, ()), ()) (by simp only; omega)).trans ?_)
      refine .nd ⟨h1, h2, by omega, by omega⟩ ?_
      rw [e]; exact .refl _
    · rw [List.drop_eq_nil_of_le (by omega)]
      exact .rff rfl (.refl _)
  · refine .pat q41b R41b (fun v => (v.1.2.2.1 - v.1.2.2.2.1).toNat) ?_
    rintro ⟨⟨(l : List File), (L : List File), (n : Int), (k : Int), ⟨⟩⟩, ⟨⟩⟩ ih
    refine Gives.run (t' := .ite (decide (k < n)) (.need (inR k (List.length L)) (.need true (.ite (((List.getD L (Int.toNat k) (ByteArray.empty, (false, ([] : List Int))))).2).1 (.ite (decide ((0 : Int) < (((List.length (((List.getD L (Int.toNat k) (ByteArray.empty, (false, ([] : List Int))))).2).2) : Nat) : Int))) (.ret (.rt, ⟨64, [(2, rI (12 : Int))], []⟩)) (.need (decide (((-(9223372036854775808 : Int) : Int) ≤ (k + (1 : Int) : Int)) ∧ ((k + (1 : Int) : Int) ≤ (9223372036854775807 : Int)))) (.ret (.nx, ⟨64, [(0, rL tFile l), (32, rL tFile L), (33, rI n), (34, rI (k + (1 : Int) : Int))], [(6, .cells 55 [.d (.v (.string ((List.getD L (Int.toNat k) (ByteArray.empty, (false, ([] : List Int))))).1)), .d (.v (.bool (((List.getD L (Int.toNat k) (ByteArray.empty, (false, ([] : List Int))))).2).1)), .d (.sl tU (((List.getD L (Int.toNat k) (ByteArray.empty, (false, ([] : List Int))))).2).2)])]⟩)))) (.need (decide (((-(9223372036854775808 : Int) : Int) ≤ (k + (1 : Int) : Int)) ∧ ((k + (1 : Int) : Int) ≤ (9223372036854775807 : Int)))) (.ret (.nx, ⟨64, [(0, rL tFile l), (32, rL tFile L), (33, rI n), (34, rI (k + (1 : Int) : Int))], [(6, .cells 55 [.d (.v (.string ((List.getD L (Int.toNat k) (ByteArray.empty, (false, ([] : List Int))))).1)), .d (.v (.bool (((List.getD L (Int.toNat k) (ByteArray.empty, (false, ([] : List Int))))).2).1)), .d (.sl tU (((List.getD L (Int.toNat k) (ByteArray.empty, (false, ([] : List Int))))).2).2)])]⟩)))))) (.ret (.ex 2, ⟨64, [(0, rL tFile l)], []⟩))) (by kernel_rfl) ?_
    refine .rnd fun ⟨h1, h2, h3, h4⟩ => ?_
    refine .lif (fun hk => ?_) (fun hk => ?_)
    · have e : (k + 1).toNat = k.toNat + 1 := by omega
      rw [drop_at L k.toNat (ByteArray.empty, false, []) (by omega)]
      refine .lneed (inR_of h3 (by omega)) ?_
      generalize L.getD k.toNat (ByteArray.empty, false, []) = x
      obtain ⟨p, d, c⟩ := x
      refine .lneed rfl ?_
      have last : ∀ σ, (fn41.at 2).h [] σ = q41b.st ((l, L, n, k + 1, ()), ()) → dirBad (p, d, c) = false → Gives ((Tr.need (decide (((-9223372036854775808 : Int) ≤ k + 1) ∧ (k + 1 ≤ (9223372036854775807 : Int)))) (.ret (Ex.nx, σ))).bind (again (n - k).toNat ((fn41.at 2).f 0 C41 [] lp41) ((fn41.at 2).h [])))
          (.ite (((p, d, c) :: L.drop (k.toNat + 1)).any dirBad) (.ret (.rt, ⟨64, [(2, rI 12)], []⟩)) (.ret (.ex 2, ⟨64, [(0, rL tFile l)], []⟩))) := fun σ hσ hx => by
        refine .lnd (by omega) (Gives.next hσ ((ih ((l, L, n, k + 1, ()), ()) (by simp only; omega)).trans ?_))
        refine .nd ⟨h1, h2, by omega, by omega⟩ ?_
        rw [e]; exact .rb (any_f hx) (.refl _)
      refine .lite (fun hd => ?_) (fun hd => ?_)
      · have hd : d = true := hd
        subst hd
        refine .lif (fun hx => ?_) (fun hx => ?_)
        · exact .rtt (any_t (by unfold dirBad; rw [decide_eq_true (show 0 < c.length from by have hx : (0 : Int) < (c.length : Int) := hx; omega)]; rfl)) (.refl _)
        · exact last _ (by kernel_rfl) (by unfold dirBad; rw [decide_eq_false (show ¬ 0 < c.length from by have hx : ¬ (0 : Int) < (c.length : Int) := hx; omega)]; rfl)
      · have hd : d = false := hd
        subst hd
        exact last _ (by kernel_rfl) rfl
    · rw [List.drop_eq_nil_of_le (by omega)]
      exact .rff rfl (.refl _)
  · refine .pat q41c R41c (fun v => (v.1.2.2.1 - v.1.2.2.2.1).toNat) ?_
    rintro ⟨⟨(m : Int), (L : List File), (n : Int), (k : Int), ⟨⟩⟩, ⟨⟩⟩ ih
    refine Gives.run (t' := .ite (decide (k < n)) (.need (inR k (List.length L)) (.need true (.need (decide (((0 : Int) ≤ (cond false (imax (((List.length (((List.getD L (Int.toNat k) (ByteArray.empty, (false, ([] : List Int))))).2).2) : Nat) : Int) (65536 : Int)) (imin (((List.length (((List.getD L (Int.toNat k) (ByteArray.empty, (false, ([] : List Int))))).2).2) : Nat) : Int) (65536 : Int)))) ∧ ((cond false (imax (((List.length (((List.getD L (Int.toNat k) (ByteArray.empty, (false, ([] : List Int))))).2).2) : Nat) : Int) (65536 : Int)) (imin (((List.length (((List.getD L (Int.toNat k) (ByteArray.empty, (false, ([] : List Int))))).2).2) : Nat) : Int) (65536 : Int))) ≤ (1000000000000000 : Int)))) (.need (decide (((-(9223372036854775808 : Int) : Int) ≤ ((1 : Int) + (blocksF (cond false (imax (((List.length (((List.getD L (Int.toNat k) (ByteArray.empty, (false, ([] : List Int))))).2).2) : Nat) : Int) (65536 : Int)) (imin (((List.length (((List.getD L (Int.toNat k) (ByteArray.empty, (false, ([] : List Int))))).2).2) : Nat) : Int) (65536 : Int)))) : Int)) ∧ (((1 : Int) + (blocksF (cond false (imax (((List.length (((List.getD L (Int.toNat k) (ByteArray.empty, (false, ([] : List Int))))).2).2) : Nat) : Int) (65536 : Int)) (imin (((List.length (((List.getD L (Int.toNat k) (ByteArray.empty, (false, ([] : List Int))))).2).2) : Nat) : Int) (65536 : Int)))) : Int) ≤ (9223372036854775807 : Int)))) (.need (decide (((-(9223372036854775808 : Int) : Int) ≤ (m + ((1 : Int) + (blocksF (cond false (imax (((List.length (((List.getD L (Int.toNat k) (ByteArray.empty, (false, ([] : List Int))))).2).2) : Nat) : Int) (65536 : Int)) (imin (((List.length (((List.getD L (Int.toNat k) (ByteArray.empty, (false, ([] : List Int))))).2).2) : Nat) : Int) (65536 : Int)))) : Int) : Int)) ∧ ((m + ((1 : Int) + (blocksF (cond false (imax (((List.length (((List.getD L (Int.toNat k) (ByteArray.empty, (false, ([] : List Int))))).2).2) : Nat) : Int) (65536 : Int)) (imin (((List.length (((List.getD L (Int.toNat k) (ByteArray.empty, (false, ([] : List Int))))).2).2) : Nat) : Int) (65536 : Int)))) : Int) : Int) ≤ (9223372036854775807 : Int)))) (.ite (decide ((128 : Int) < (m + ((1 : Int) + (blocksF (cond false (imax (((List.length (((List.getD L (Int.toNat k) (ByteArray.empty, (false, ([] : List Int))))).2).2) : Nat) : Int) (65536 : Int)) (imin (((List.length (((List.getD L (Int.toNat k) (ByteArray.empty, (false, ([] : List Int))))).2).2) : Nat) : Int) (65536 : Int)))) : Int) : Int))) (.ret (.rt, ⟨64, [(2, rI (3 : Int))], []⟩)) (.need (decide (((-(9223372036854775808 : Int) : Int) ≤ (k + (1 : Int) : Int)) ∧ ((k + (1 : Int) : Int) ≤ (9223372036854775807 : Int)))) (.ret (.nx, ⟨64, [(7, rI (m + ((1 : Int) + (blocksF (cond false (imax (((List.length (((List.getD L (Int.toNat k) (ByteArray.empty, (false, ([] : List Int))))).2).2) : Nat) : Int) (65536 : Int)) (imin (((List.length (((List.getD L (Int.toNat k) (ByteArray.empty, (false, ([] : List Int))))).2).2) : Nat) : Int) (65536 : Int)))) : Int) : Int)), (47, rL tFile L), (48, rI n), (49, rI (k + (1 : Int) : Int))], [(9, .cells 55 [.d (.v (.string ((List.getD L (Int.toNat k) (ByteArray.empty, (false, ([] : List Int))))).1)), .d (.v (.bool (((List.getD L (Int.toNat k) (ByteArray.empty, (false, ([] : List Int))))).2).1)), .d (.sl tU (((List.getD L (Int.toNat k) (ByteArray.empty, (false, ([] : List Int))))).2).2)])]⟩))))))))) (.ret (.ex 4, ⟨64, [], []⟩))) (by kernel_rfl) ?_
    refine .rnd fun ⟨h1, h2, h3, h4, h5, h6⟩ => ?_
    refine .lif (fun hk => ?_) (fun hk => ?_)
    · have e : (k + 1).toNat = k.toNat + 1 := by omega
      rw [drop_at L k.toNat (ByteArray.empty, false, []) (by omega)]
      refine .lneed (inR_of h3 (by omega)) ?_
      generalize L.getD k.toNat (ByteArray.empty, false, []) = x
      obtain ⟨p, d, c⟩ := x
      have hy : 0 ≤ imin (c.length : Int) 65536 ∧ imin (c.length : Int) 65536 ≤ 65536 := by unfold imin; split <;> omega
      have hb := blocksF_le hy.1
      have hbl : blkF (p, d, c) = 1 + blocksF (imin (c.length : Int) 65536) := rfl
      dsimp only [cond_false]
      refine .lneed rfl (.lnd (by omega) (.lnd (by omega) (.lnd (by omega) ?_)))
      rw [fullBad, hbl]
      refine .lif (fun hx => ?_) (fun hx => ?_)
      · exact .rtt (by rw [decide_eq_true hx]; rfl) (.refl _)
      refine .rb (by rw [decide_eq_false hx, Bool.false_or]) (.lnd (by omega) ?_)
      refine Gives.next (σ' := q41c.st ((m + (1 + blocksF (imin (c.length : Int) 65536)), L, n, k + 1, ()), ())) (by kernel_rfl) ((ih ((m + (1 + blocksF (imin (c.length : Int) 65536)), L, n, k + 1, ()), ()) (by simp only; omega)).trans ?_)
      refine .nd ⟨h1, h2, by omega, by omega, by omega, by omega⟩ ?_
      rw [e]; exact .refl _
    · rw [List.drop_eq_nil_of_le (by omega)]
      exact .rff rfl (.refl _)
def tMayCtr : Ctr := ctr (one (aVal (.sl tFile))) fun a => ans (rI (tMay a.1))
theorem tMay_ok : CtrOk Tryd.prog 17 tMayCtr := by
  refine .mk C41_ok mixed (q := fn41) (.of Tryd.func17 (by kernel_rfl)) lp41_ok (by decide) ?_
  rintro ⟨(l : List File), ⟨⟩⟩ hb
  have hl : l.length ≤ 9223372036854775807 := hb.1.1
  refine Gives.of_eq (t' := .need (decide (((((List.length l) : Nat) : Int) = (((List.length l) : Nat) : Int)) ∧ (((((List.length l) : Nat) : Int) ≤ (9223372036854775807 : Int)) ∧ (((0 : Int) ≤ (0 : Int)) ∧ ((0 : Int) ≤ (((List.length l) : Nat) : Int)))))) (.ite (List.any (List.drop 0 l) nameBad) (.ret (rI (10 : Int), ⟨0, [], []⟩)) (.need (decide (((((List.length l) : Nat) : Int) = (((List.length l) : Nat) : Int)) ∧ (((((List.length l) : Nat) : Int) ≤ (9223372036854775807 : Int)) ∧ (((0 : Int) ≤ (0 : Int)) ∧ ((0 : Int) ≤ (((List.length l) : Nat) : Int)))))) (.ite (List.any (List.drop 0 l) dirBad) (.ret (rI (12 : Int), ⟨0, [], []⟩)) (.need (decide (((((List.length l) : Nat) : Int) = (((List.length l) : Nat) : Int)) ∧ (((((List.length l) : Nat) : Int) ≤ (9223372036854775807 : Int)) ∧ (((0 : Int) ≤ (0 : Int)) ∧ (((0 : Int) ≤ (((List.length l) : Nat) : Int)) ∧ (((0 : Int) ≤ (2 : Int)) ∧ ((2 : Int) ≤ (128 : Int)))))))) (.ite (fullBad (2 : Int) (List.drop 0 l)) (.ret (rI (3 : Int), ⟨0, [], []⟩)) (.ret (rI (0 : Int), ⟨0, [], []⟩)))))))) (by kernel_rfl) ?_
  show Gives _ (.ret (rI (tMay l), (⟨0, [], []⟩ : St)))
  unfold tMay
  simp only [List.drop_zero]
  refine .nd ⟨trivial, by omega, by omega, by omega⟩ (.ite (fun h => ?_) (fun h => ?_))
  · rw [if_pos h]; exact .refl _
  rw [if_neg (by rw [h]; exact Bool.false_ne_true)]
  refine .nd ⟨trivial, by omega, by omega, by omega⟩ (.ite (fun h => ?_) (fun h => ?_))
  · rw [if_pos h]; exact .refl _
  rw [if_neg (by rw [h]; exact Bool.false_ne_true)]
  refine .nd ⟨trivial, by omega, by omega, by omega, by omega, by omega⟩ (.ite (fun h => ?_) (fun h => ?_))
  · rw [if_pos h]; exact .refl _
  rw [if_neg (by rw [h]; exact Bool.false_ne_true)]
  exact .refl _

/-! ### tar.Write -/
theorem headF_len (f : File) (h : f.1.size ≤ 99) : (headF f).length = 512 := by
  have hn := strB_length f.1
  have l7 : ∀ n, (octal n 7).length = 8 := fun n => octal_len n 7
  have l11 : ∀ n, (octal n 11).length = 12 := fun n => octal_len n 11
  have l6 : ∀ n, (octal n 6).length = 7 := fun n => octal_len n 6
  have hus : ustar.length = 8 := by decide +kernel
  have b0 : (cp0 (List.replicate 512 0) (strB f.1)).length = 512 := by rw [cp0_len (by rw [List.length_replicate]; omega)]; exact List.length_replicate
  have b1 : ∀ r, (cp (cp0 (List.replicate 512 0) (strB f.1)) 100 (octal r 7)).length = 512 := fun r => by rw [cp_len (by rw [l7]; omega)]; exact b0
  have b2 : ∀ r, (cp (cp (cp0 (List.replicate 512 0) (strB f.1)) 100 (octal r 7)) 108 (octal 0 7)).length = 512 := fun r => by rw [cp_len (by rw [l7, b1]; omega)]; exact b1 r
  have b3 : ∀ r, (cp (cp (cp (cp0 (List.replicate 512 0) (strB f.1)) 100 (octal r 7)) 108 (octal 0 7)) 116 (octal 0 7)).length = 512 := fun r => by rw [cp_len (by rw [l7, b2]; omega)]; exact b2 r
  have ha : (headA f).length = 512 := by
    unfold headA
    rw [cp_len (by rw [hus, List.length_set, cp_len (by rw [l11, cp_len (by rw [l11, b3]; omega), b3]; omega), cp_len (by rw [l11, b3]; omega), b3]; omega), List.length_set, cp_len (by rw [l11, cp_len (by rw [l11, b3]; omega), b3]; omega), cp_len (by rw [l11, b3]; omega), b3]
  unfold headF
  rw [cp_len (by rw [List.length_append, l6, ha]; simp), ha]
def padF (c : List Int) : List Int := List.replicate (blocksF c.length * 512 - c.length).toNat 0
def fileB (f : File) : List Int := (headF f ++ f.2.2) ++ padF f.2.2
def arcF (l : List File) : List Int := l.flatMap fileB ++ List.replicate 1024 0
noncomputable def fn23 := mkFn Tryd.f8
def C23 : Cx := ⟨T, FL, [(18, headCtr), (17, tMayCtr), (19, blocksCtr)], [], [FC + 7]⟩
theorem C23_ok : CxOk Tryd.prog C23 := ⟨T_ok, FL_ok, .cons head_ok (.cons tMay_ok (.cons blocks_ok (.nil _))), .nil _⟩
def nr23 : List NR := [⟨5, tU, 5⟩]
def q23 : Frm := ⟨40, [(5, .row 5), (13, .dat (.sl tFile)), (14, .dat tI), (15, .dat tI)], [(5, .row tU 5)]⟩
def R23 : q23.V → Tr (Ex × St) := fun ((_, (L : List File), (n : Int), (k : Int), _), (acc : List Int), _) =>
  .need (decide (n = L.length ∧ n ≤ 1000 ∧ 0 ≤ k ∧ k ≤ n ∧ acc.length ≤ 1000000 * (k + 1)) && L.all fun f => decide (f.1.size ≤ 99 ∧ f.2.2.length ≤ 65536)) (.ret (.ex 0, ⟨40, [(5, .e (.c (.row 5)))], [(5, .row tU 5 (acc ++ (L.drop k.toNat).flatMap fileB))]⟩))
def lp23 : LP := [(0, sumP q23 R23)]
theorem lp23_ok : LpsOk 0 C23 nr23 lp23 fn23.loops := by
  refine .all (by kernel_rfl) ?_
  simp only [lp23, List.forall_mem_cons, List.not_mem_nil, false_imp_iff, implies_true, and_true]
  refine .pat q23 R23 (fun v => (v.1.2.2.1 - v.1.2.2.2.1).toNat) ?_
  rintro ⟨⟨⟨⟩, (L : List File), (n : Int), (k : Int), ⟨⟩⟩, ⟨(acc : List Int), ⟨⟩⟩⟩ ih
  refine Gives.run (t' := .ite (decide (k < n)) (.need (inR k (List.length L)) (.need true (.need true (.need (decide ((ByteArray.size ((List.getD L (Int.toNat k) (ByteArray.empty, (false, ([] : List Int))))).1) ≤ 99)) (.need true (.need (decide ((((List.length acc) + (List.length (headF (List.getD L (Int.toNat k) (ByteArray.empty, (false, ([] : List Int)))))) : Nat) * (Lay.bytes L5) : Nat) ≤ 140737488355328)) (.need true (.need (decide ((((List.length (acc ++ (headF (List.getD L (Int.toNat k) (ByteArray.empty, (false, ([] : List Int))))))) + (List.length (((List.getD L (Int.toNat k) (ByteArray.empty, (false, ([] : List Int))))).2).2) : Nat) * (Lay.bytes L5) : Nat) ≤ 140737488355328)) (.need (decide (((0 : Int) ≤ (((List.length (((List.getD L (Int.toNat k) (ByteArray.empty, (false, ([] : List Int))))).2).2) : Nat) : Int)) ∧ ((((List.length (((List.getD L (Int.toNat k) (ByteArray.empty, (false, ([] : List Int))))).2).2) : Nat) : Int) ≤ (1000000000000000 : Int)))) (.need (decide (((-(9223372036854775808 : Int) : Int) ≤ ((blocksF (((List.length (((List.getD L (Int.toNat k) (ByteArray.empty, (false, ([] : List Int))))).2).2) : Nat) : Int)) * (512 : Int) : Int)) ∧ (((blocksF (((List.length (((List.getD L (Int.toNat k) (ByteArray.empty, (false, ([] : List Int))))).2).2) : Nat) : Int)) * (512 : Int) : Int) ≤ (9223372036854775807 : Int)))) (.need (decide (((-(9223372036854775808 : Int) : Int) ≤ (((blocksF (((List.length (((List.getD L (Int.toNat k) (ByteArray.empty, (false, ([] : List Int))))).2).2) : Nat) : Int)) * (512 : Int) : Int) - (((List.length (((List.getD L (Int.toNat k) (ByteArray.empty, (false, ([] : List Int))))).2).2) : Nat) : Int) : Int)) ∧ ((((blocksF (((List.length (((List.getD L (Int.toNat k) (ByteArray.empty, (false, ([] : List Int))))).2).2) : Nat) : Int)) * (512 : Int) : Int) - (((List.length (((List.getD L (Int.toNat k) (ByteArray.empty, (false, ([] : List Int))))).2).2) : Nat) : Int) : Int) ≤ (9223372036854775807 : Int)))) (.need (decide (((0 : Int) ≤ (((blocksF (((List.length (((List.getD L (Int.toNat k) (ByteArray.empty, (false, ([] : List Int))))).2).2) : Nat) : Int)) * (512 : Int) : Int) - (((List.length (((List.getD L (Int.toNat k) (ByteArray.empty, (false, ([] : List Int))))).2).2) : Nat) : Int) : Int)) ∧ ((((List.length ((acc ++ (headF (List.getD L (Int.toNat k) (ByteArray.empty, (false, ([] : List Int)))))) ++ (((List.getD L (Int.toNat k) (ByteArray.empty, (false, ([] : List Int))))).2).2)) + (Int.toNat (((blocksF (((List.length (((List.getD L (Int.toNat k) (ByteArray.empty, (false, ([] : List Int))))).2).2) : Nat) : Int)) * (512 : Int) : Int) - (((List.length (((List.getD L (Int.toNat k) (ByteArray.empty, (false, ([] : List Int))))).2).2) : Nat) : Int) : Int)) : Nat) * (Lay.bytes L5) : Nat) ≤ 140737488355328))) (.need (decide (((-(9223372036854775808 : Int) : Int) ≤ (k + (1 : Int) : Int)) ∧ ((k + (1 : Int) : Int) ≤ (9223372036854775807 : Int)))) (.ret (.nx, ⟨40, [(5, .e (.c (.row 36))), (13, rL tFile L), (14, rI n), (15, rI (k + (1 : Int) : Int))], [(36, .row tU 5 (((acc ++ (headF (List.getD L (Int.toNat k) (ByteArray.empty, (false, ([] : List Int)))))) ++ (((List.getD L (Int.toNat k) (ByteArray.empty, (false, ([] : List Int))))).2).2) ++ (List.replicate (Int.toNat (((blocksF (((List.length (((List.getD L (Int.toNat k) (ByteArray.empty, (false, ([] : List Int))))).2).2) : Nat) : Int)) * (512 : Int) : Int) - (((List.length (((List.getD L (Int.toNat k) (ByteArray.empty, (false, ([] : List Int))))).2).2) : Nat) : Int) : Int)) (0 : Int))))]⟩))))))))))))))) (.ret (.ex 0, ⟨40, [(5, .e (.c (.row 5)))], [(5, .row tU 5 acc)]⟩))) (by kernel_rfl) ?_
  refine .rneed fun h => ?_
  simp only [Bool.and_eq_true, decide_eq_true_eq] at h
  obtain ⟨⟨h1, h2, h3, h4, h5⟩, h6⟩ := h
  refine .lif (fun hk => ?_) (fun hk => ?_)
  · have e : (k + 1).toNat = k.toNat + 1 := by omega
    have hx := of_decide_eq_true (List.all_eq_true.1 h6 _ (List.getElem_mem (show k.toNat < L.length by omega)))
    rw [show L[k.toNat]'(by omega) = L.getD k.toNat (ByteArray.empty, false, []) by simp [List.getD_eq_getElem?_getD, List.getElem?_eq_getElem (show k.toNat < L.length by omega)]] at hx
    rw [drop_at L k.toNat (ByteArray.empty, false, []) (by omega)]
    refine .lneed (inR_of h3 (by omega)) ?_
    generalize L.getD k.toNat (ByteArray.empty, false, []) = x at hx ⊢
    obtain ⟨p, d, c⟩ := x
    have hp : p.size ≤ 99 := hx.1
    have hc : c.length ≤ 65536 := hx.2
    have hh := headF_len (p, d, c) hp
    have hb := blocksF_le (show (0 : Int) ≤ c.length by omega)
    have hfb : (fileB (p, d, c)).length ≤ 512 + 65536 + 511 := by
      simp only [fileB, padF, List.length_append, List.length_replicate]; omega
    refine .lneed rfl (.lneed rfl (.lnd hp (.lneed rfl (.lnd (by show (acc.length + (headF (p, d, c)).length) * 1 ≤ _; omega) (.lneed rfl (.lnd (by rw [List.length_append]; show (_ + c.length) * 1 ≤ _; omega) ?_))))))
    refine .lnd (by show (0 : Int) ≤ c.length ∧ (c.length : Int) ≤ _; omega) (.lnd (by show _ ≤ blocksF c.length * 512 ∧ blocksF c.length * 512 ≤ _; omega) (.lnd (by show _ ≤ blocksF c.length * 512 - c.length ∧ blocksF c.length * 512 - c.length ≤ _; omega) (.lnd ?_ (.lnd (by omega) ?_))))
    · show 0 ≤ blocksF c.length * 512 - c.length ∧ ((acc ++ headF (p, d, c) ++ c).length + (blocksF c.length * 512 - c.length).toNat) * 1 ≤ _
      rw [List.length_append, List.length_append]; omega
    refine Gives.next (σ' := q23.st (((), L, n, k + 1, ()), (((acc ++ headF (p, d, c)) ++ c) ++ padF c, ()))) (by kernel_rfl) ((ih (((), L, n, k + 1, ()), (((acc ++ headF (p, d, c)) ++ c) ++ padF c, ())) (by simp only; omega)).trans ?_)
    refine .need (by
      simp only [Bool.and_eq_true, decide_eq_true_eq]
      refine ⟨⟨h1, h2, by omega, by omega, ?_⟩, h6⟩
      simp only [fileB, List.length_append] at hfb ⊢; omega) ?_
    rw [e, List.flatMap_cons]
    simp only [fileB, List.append_assoc]
    exact .refl _
  · rw [List.drop_eq_nil_of_le (by omega), List.flatMap_nil, List.append_nil]
    exact .refl _
theorem fullBad_f : ∀ {l : List File} {m : Int}, fullBad m l = false → m + l.length ≤ 128 ∨ l = [] := by
  intro l
  induction l with
  | nil => exact fun _ => .inr rfl
  | cons f r ih =>
    intro m h
    rw [fullBad, Bool.or_eq_false_iff] at h
    have h1 := of_decide_eq_false h.1
    have h2 : 1 ≤ blkF f := by
      have : 0 ≤ imin (f.2.2.length : Int) 65536 := by unfold imin; split <;> omega
      have := blocksF_le this
      unfold blkF; omega
    rcases ih h.2 with h3 | h3
    · left; rw [List.length_cons]; omega
    · left; subst h3; simp; omega
theorem fullBad_at : ∀ {l : List File} {m : Int}, fullBad m l = false → 0 ≤ m → ∀ f ∈ l, f.2.2.length ≤ 65024 := by
  intro l
  induction l with
  | nil => exact fun _ _ f hf => by cases hf
  | cons g r ih =>
    intro m h hm f hf
    rw [fullBad, Bool.or_eq_false_iff] at h
    have h1 := of_decide_eq_false h.1
    have h0 : 0 ≤ imin (g.2.2.length : Int) 65536 := by unfold imin; split <;> omega
    have h2 := blocksF_le h0
    rcases List.mem_cons.1 hf with rfl | hf
    · unfold blkF at h1
      have : imin (f.2.2.length : Int) 65536 ≤ 65024 := by omega
      unfold imin at this
      split at this <;> omega
    · exact ih h.2 (by unfold blkF; omega) f hf
theorem tMay_zero {l : List File} (h : tMay l = 0) : l.length ≤ 126 ∧ l.any nameBad = false ∧ l.any dirBad = false ∧ fullBad 2 l = false ∧ l.all (fun f => decide (f.1.size ≤ 99 ∧ f.2.2.length ≤ 65536)) = true := by
  unfold tMay at h
  split at h
  · cases h
  rename_i h1
  split at h
  · cases h
  rename_i h2
  split at h
  · cases h
  rename_i h3
  have h1 : l.any nameBad = false := by simpa using h1
  have h2 : l.any dirBad = false := by simpa using h2
  have h3 : fullBad 2 l = false := by simpa using h3
  refine ⟨?_, h1, h2, h3, List.all_eq_true.2 fun f hf => decide_eq_true ⟨?_, ?_⟩⟩
  · rcases fullBad_f h3 with h | h
    · omega
    · subst h; simp
  · have := List.any_eq_false.1 h1 f hf
    simp only [nameBad, Bool.or_eq_true, decide_eq_true_eq, not_or] at this
    omega
  · have := fullBad_at h3 (by omega) f hf; omega
def tWriteCtr : Ctr := ctr (one (aVal (.sl tFile))) fun a => .ite (tMay a.1 != 0) (.ret (.tup [.c .nil, eI (tMay a.1)], [])) (.ret (.tup [.c (.row 39), eI 0], [(39, .row tU 5 (arcF a.1))]))
theorem tWrite_ok : CtrOk Tryd.prog 8 tWriteCtr := by
  refine .mk C23_ok mixed (q := fn23) (.of Tryd.func8 (by kernel_rfl)) lp23_ok (by decide) ?_
  rintro ⟨(l : List File), ⟨⟩⟩ hb
  refine Gives.of_eq (t' := .ite ((tMay l) != (0 : Int)) (.ret (.tup [.c (.nil), .c (.d (.v (.int .i64 (tMay l))))], ⟨0, [], []⟩)) (.need ((decide (((((List.length l) : Nat) : Int) = (((List.length l) : Nat) : Int)) ∧ (((((List.length l) : Nat) : Int) ≤ (1000 : Int)) ∧ (((0 : Int) ≤ (0 : Int)) ∧ (((0 : Int) ≤ (((List.length l) : Nat) : Int)) ∧ ((((List.length ([] : List Int)) : Nat) : Int) ≤ ((1000000 : Int) * ((0 : Int) + (1 : Int) : Int) : Int))))))) && (List.all l (fun f => (decide (((ByteArray.size (f).1) ≤ 99) ∧ ((List.length ((f).2).2) ≤ 65536)))))) (.need (decide (((0 : Int) ≤ (1024 : Int)) ∧ ((((List.length (([] : List Int) ++ (List.flatMap fileB (List.drop 0 l)))) + 1024 : Nat) * (Lay.bytes L5) : Nat) ≤ 140737488355328))) (.ret (.tup [.c (.row 39), .c (.d (.v (.int .i64 (0 : Int))))], ⟨0, [], [(39, .row tU 5 ((([] : List Int) ++ (List.flatMap fileB (List.drop 0 l))) ++ (List.replicate 1024 (0 : Int))))]⟩))))) (by kernel_rfl) ?_
  show Gives _ (.ite (tMay l != 0) _ (.ret (SV.tup [.c (.row 39), eI 0], (⟨0, [], [(39, .row tU 5 (arcF l))]⟩ : St))))
  refine .ites (fun _ => .refl _) (fun h => ?_)
  have h : tMay l = 0 := by simpa using h
  obtain ⟨h1, h2, h3, h4, h5⟩ := tMay_zero h
  have hf : (l.flatMap fileB).length ≤ 100000 * l.length := flat_len fileB 100000 l fun f hf => by
    have := of_decide_eq_true (List.all_eq_true.1 h5 f hf)
    have hh := headF_len f this.1
    have hb := blocksF_le (show (0 : Int) ≤ f.2.2.length by omega)
    simp only [fileB, padF, List.length_append, List.length_replicate]; omega
  simp only [List.drop_zero, List.nil_append]
  refine .need (by simp only [Bool.and_eq_true, decide_eq_true_eq]; exact ⟨⟨trivial, by omega, by omega, by omega, by simp⟩, h5⟩) (.nd ⟨by omega, by show (_ + 1024) * 1 ≤ _; omega⟩ (.refl _))
end Go.Proofs.YtdngaaploooceaaDoor.Sy
