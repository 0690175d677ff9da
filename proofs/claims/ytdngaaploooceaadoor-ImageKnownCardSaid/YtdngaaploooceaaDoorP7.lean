/- Contracts: one image is written and read; an image by hand. -/
import Derived.ChangeArms
import Derived.DataElems
import Derived.Test.YtdngaaploooceaaDoorCards
import Derived.Test.YtdngaaploooceaaDoorTie
import Derived.WalkKit
import Derived.ProofKit
import Derived.OpenShut
import Derived.Deep.DeepHandedRow
import Derived.Lib.LaidTab
import Derived.Carry
import Derived.Deep.DeepLaidRun
import Derived.Test.YtdngaaploooceaaDoorP6
set_option maxRecDepth 100000
namespace Go.Proofs.YtdngaaploooceaaDoor.Sy
open Go.RowKit Kit Go.Proofs
def m0 : Img := (([(1, 0), (26, 0)], []), ([], [], 0, 0, 0), ([], [], []), ([], 1, 0))
theorem m0_read : readI (writeB m0) = (0, m0) := by kernel_rfl
theorem m0_write : writeE m0 = 0 := by kernel_rfl
theorem m0_len : (writeB m0).length = 4608 := by kernel_rfl
theorem m0_u8 : u8s (writeB m0) = true := writeB_u8 (by kernel_rfl)
noncomputable def fn6 := mkFn Tryd.f4
noncomputable def C6 : Cx := ⟨T, FL, [(5, writeCtr), (7, readCtr)], [], [8, 1000000+7]⟩
theorem C6_ok : CxOk Tryd.prog C6 := ⟨T_ok, FL_ok, .cons write_ok (.cons read_ok (.nil _)), .nil _⟩
theorem awake_ok : CtrOk Tryd.prog 4 (ctr Args.nil fun _ => ans (rB true)) := by
  refine .mk C6_ok mixed (q := fn6) (.of Tryd.func4 (by kernel_rfl)) (N := 0) (nr := []) .none (by decide) ?_
  rintro ⟨⟩ hb
  refine Gives.of_eq (t' := .need true (.ite false (.need true (.ite true (.ite false (.ite false (.ite false (.ret (rB ((((((((readI ([] : List Int))).2).2).2).2).2).1 == (1 : Int)), ⟨0, [], []⟩)) (.ret (rB false, ⟨0, [], []⟩))) (.ret (rB false, ⟨0, [], []⟩))) (.ret (rB false, ⟨0, [], []⟩))) (.ret (rB false, ⟨0, [], []⟩)))) (.need true (.ite true (.ite true (.ite true (.ite true (.ret (rB ((((((((readI (writeB (([((1 : Int), (0 : Int)), ((26 : Int), (0 : Int))], ([] : List ByteArray)), ((([] : List (Prod ByteArray (Prod Bool Int))), (([] : List Int), ((0 : Int), ((0 : Int), (0 : Int))))), ((([] : List (List Int)), (([] : List (List Int)), ([] : List Bool))), (([] : List (Prod Bool Int)), ((1 : Int), (0 : Int))))))))).2).2).2).2).2).1 == (1 : Int)), ⟨0, [], []⟩)) (.ret (rB false, ⟨0, [], []⟩))) (.ret (rB false, ⟨0, [], []⟩))) (.ret (rB false, ⟨0, [], []⟩))) (.ret (rB false, ⟨0, [], []⟩)))))) (by kernel_rfl) ?_
  refine .need rfl (.ff rfl (.need rfl (.tt rfl (.tt rfl (.tt rfl (.tt rfl ?_))))))
  have e : ((readI (writeB m0)).2.2.2.2.2.1 == (1 : Int)) = true := by rw [m0_read]; rfl
  unfold m0 at e
  rw [e]
  exact .refl _
def mK (e : Int) : Img := (([(1, 3), (26, 0)], []), ([(bs "d", true, 0), (bs "d/b", false, 2)], [1], 2, 1, 300), ([[7]], [[8]], [false, true]), ([(true, 5), (false, 65285)], e, 3))
def lK : List File := [(bs "prog", false, [88, 82, 0, 2, 1, 0, 3, 26, 0, 0]), (bs "tree/d", true, []), (bs "tree/d/b", false, [7]), (bs "args/0", false, [8]), (bs "fails", false, [0, 1]), (bs "class", false, [2, 1, 1, 44, 2, 1]), (bs "trace", false, [1, 0, 5, 0, 255, 5, 1, 0, 3])]
theorem mK_files : imgFs (mK 1) = lK := by kernel_rfl
theorem mK_write : writeE (mK 1) = 0 := by kernel_rfl
theorem mK_read : readT (writeB (mK 1)) = (0, lK) := by kernel_rfl
theorem mK_form : writeE (mK 0) = 4 := by kernel_rfl
theorem mK_nil : (readI []).1 = 4 := by kernel_rfl
theorem mK_short : (readI (arcF (lK.take 6))).1 = 4 := by kernel_rfl
theorem mK_tmay : tMay (lK.take 6) = 0 := by kernel_rfl
end Go.Proofs.YtdngaaploooceaaDoor.Sy

/- Contracts: an image by hand. -/
set_option maxRecDepth 100000
namespace Go.Proofs.YtdngaaploooceaaDoor.Sy
open Go.RowKit Kit Go.Proofs
noncomputable def fnK := mkFn Tryd.f3
noncomputable def CK : Cx := ⟨T, FL, [(4, ctr Args.nil fun _ => ans (rB true)), (5, writeCtr), (6, tReadCtr), (8, tWriteCtr), (7, readCtr)], [], [1, GK, FZ + 6, FZ + 7]⟩
theorem CK_ok : CxOk Tryd.prog CK := ⟨T_ok, FL_ok, .cons awake_ok (.cons write_ok (.cons tRead_ok (.cons tWrite_ok (.cons read_ok (.nil _))))), .nil _⟩
def oM (e : Int) : Ob := .cells 47 [.d (.sl tInst [(1, 3), (26, 0)]), .nil, .d (.sl tEnt [(bs "d", true, 0), (bs "d/b", false, 2)]), .d (.sl tI [1]), .d (.v (.int .i64 2)), .d (.v (.int .i64 1)), .d (.v (.int .i64 300)), .d (.sl tB [[7]]), .d (.sl tB [[8]]), .d (.sl .bool [false, true]), .d (.sl tEv [(true, 5), (false, 65285)]), .d (.v (.int .i64 e)), .d (.v (.int .u16 3))]
def nK : List ByteArray := [bs "prog", bs "tree/d", bs "tree/d/b", bs "args/0", bs "fails", bs "class", bs "trace"]
def dK : List ByteArray := lK.map fun f => txt f.2.2
@[reducible] def cpM : List SP := [.dat (.sl tInst), .nil, .dat (.sl tEnt), .dat (.sl tI), .dat tI, .dat tI, .dat tI, .dat (.sl tB), .dat (.sl tB), .dat (.sl .bool), .dat (.sl tEv), .dat tI, .dat (.int .u16)]
def qKl : Frm := ⟨131, [(1, .np 1 0), (4, .dat (.sl tFile)), (6, .dat (.sl .str)), (7, .dat (.sl .str)), (8, .dat tI)], [(1, .cells 47 cpM)]⟩
def RKl : qKl.V → Tr (Ex × St) := fun v =>
  .need (decide (v.1.2.1 = lK ∧ v.1.2.2.1 = nK ∧ v.1.2.2.2.1 = dK ∧ 0 ≤ v.1.2.2.2.2.1 ∧ v.1.2.2.2.2.1 ≤ 7)) (.ret (.ex 0, ⟨131, [(1, .e (.c (.np 1 0))), (4, rL tFile v.1.2.1)], (qKl.st v).objs⟩))
noncomputable def lpK : LP := [(0, sumP qKl RKl)]
set_option maxHeartbeats 4000000 in
theorem lpK_ok : LpsOk 0 CK [] lpK fnK.loops := by
  refine .all (by kernel_rfl) ?_
  simp only [lpK, List.forall_mem_cons, List.not_mem_nil, false_imp_iff, implies_true, and_true]
  refine .pat qKl RKl (fun v => (7 - v.1.2.2.2.2.1).toNat) ?_
  rintro ⟨⟨⟨⟩, (l : List File), (ns : List ByteArray), (ds : List ByteArray), (k : Int), ⟨⟩⟩, o⟩ ih
  refine Gives.run (t' := .ite (decide (k < (7 : Int))) (.need (inR k (List.length l)) (.need (inR k (List.length ns)) (.ite (!(decide (((List.getD l (Int.toNat k) (ByteArray.empty, (false, ([] : List Int))))).1 = (List.getD ns (Int.toNat k) ByteArray.empty)))) (.ret (.rt, ⟨131, [(0, .e (.c (.kb false)))], []⟩)) (.need (inR k (List.length l)) (.need true (.need (inR k (List.length ds)) (.ite (!(decide ((txt (((List.getD l (Int.toNat k) (ByteArray.empty, (false, ([] : List Int))))).2).2) = (List.getD ds (Int.toNat k) ByteArray.empty)))) (.ret (.rt, ⟨131, [(0, .e (.c (.kb false)))], []⟩)) (.need (inR k (List.length l)) (.ite (!((((List.getD l (Int.toNat k) (ByteArray.empty, (false, ([] : List Int))))).2).1 == (k == (1 : Int)))) (.ret (.rt, ⟨131, [(0, .e (.c (.kb false)))], []⟩)) (.need (decide (((-(9223372036854775808 : Int) : Int) ≤ (k + (1 : Int) : Int)) ∧ ((k + (1 : Int) : Int) ≤ (9223372036854775807 : Int)))) (.ret (.nx, ⟨131, [(1, .e (.c (.np 1 0))), (4, rL tFile l), (6, rL Ty.str ns), (7, rL Ty.str ds), (8, rI (k + (1 : Int) : Int))], [(1, .cells 47 [.d (.sl tInst ((o).1).1), .nil, .d (.sl tEnt ((((o).1).2).2).1), .d (.sl tI (((((o).1).2).2).2).1), .d (.v (.int .i64 ((((((o).1).2).2).2).2).1)), .d (.v (.int .i64 (((((((o).1).2).2).2).2).2).1)), .d (.v (.int .i64 ((((((((o).1).2).2).2).2).2).2).1)), .d (.sl tB (((((((((o).1).2).2).2).2).2).2).2).1), .d (.sl tB ((((((((((o).1).2).2).2).2).2).2).2).2).1), .d (.sl Ty.bool (((((((((((o).1).2).2).2).2).2).2).2).2).2).1), .d (.sl tEv ((((((((((((o).1).2).2).2).2).2).2).2).2).2).2).1), .d (.v (.int .i64 (((((((((((((o).1).2).2).2).2).2).2).2).2).2).2).2).1)), .d (.v (.int .u16 ((((((((((((((o).1).2).2).2).2).2).2).2).2).2).2).2).2).1))])]⟩)))))))))))) (.ret (.ex 0, ⟨131, [(1, .e (.c (.np 1 0))), (4, rL tFile l)], [(1, .cells 47 [.d (.sl tInst ((o).1).1), .nil, .d (.sl tEnt ((((o).1).2).2).1), .d (.sl tI (((((o).1).2).2).2).1), .d (.v (.int .i64 ((((((o).1).2).2).2).2).1)), .d (.v (.int .i64 (((((((o).1).2).2).2).2).2).1)), .d (.v (.int .i64 ((((((((o).1).2).2).2).2).2).2).1)), .d (.sl tB (((((((((o).1).2).2).2).2).2).2).2).1), .d (.sl tB ((((((((((o).1).2).2).2).2).2).2).2).2).1), .d (.sl Ty.bool (((((((((((o).1).2).2).2).2).2).2).2).2).2).1), .d (.sl tEv ((((((((((((o).1).2).2).2).2).2).2).2).2).2).2).1), .d (.v (.int .i64 (((((((((((((o).1).2).2).2).2).2).2).2).2).2).2).2).1)), .d (.v (.int .u16 ((((((((((((((o).1).2).2).2).2).2).2).2).2).2).2).2).2).1))])]⟩))) (by kernel_rfl) ?_
  refine .rnd fun ⟨h1, h2, h3, h4, h5⟩ => ?_
  have h1 : l = lK := h1
  have h2 : ns = nK := h2
  have h3 : ds = dK := h3
  have h4 : 0 ≤ k := h4
  have h5 : k ≤ 7 := h5
  subst h1 h2 h3
  have hl : lK.length = 7 := by decide +kernel
  have hn : nK.length = 7 := by decide +kernel
  have hd : dK.length = 7 := by decide +kernel
  refine .lif (fun hk => ?_) (fun hk => ?_)
  · have hall : (List.range 7).all (fun j => decide ((lK.getD j (ByteArray.empty, false, [])).1 = nK.getD j ByteArray.empty) && (decide (txt (lK.getD j (ByteArray.empty, false, [])).2.2 = dK.getD j ByteArray.empty) && ((lK.getD j (ByteArray.empty, false, [])).2.1 == ((j : Int) == 1)))) = true := by decide +kernel
    have hj := List.all_eq_true.1 hall k.toNat (List.mem_range.2 (by omega))
    rw [show ((k.toNat : Nat) : Int) = k by omega, Bool.and_eq_true, Bool.and_eq_true] at hj
    obtain ⟨j1, j2, j3⟩ := hj
    refine .lneed (inR_of h4 (by omega)) (.lneed (inR_of h4 (by omega)) (.lite (fun h => by rw [j1] at h; cases h) (fun _ => ?_)))
    refine .lneed (inR_of h4 (by omega)) (.lneed rfl (.lneed (inR_of h4 (by omega)) (.lite (fun h => by rw [j2] at h; cases h) (fun _ => ?_))))
    refine .lneed (inR_of h4 (by omega)) (.lite (fun h => by rw [j3] at h; cases h) (fun _ => .lnd (by omega) ?_))
    refine Gives.next (σ' := qKl.st (((), lK, nK, dK, k + 1, ()), o)) (by kernel_rfl) ((ih (((), lK, nK, dK, k + 1, ()), o) (by show (7 - (k + 1)).toNat < (7 - k).toNat; omega)).trans ?_)
    exact .nd ⟨rfl, rfl, rfl, by show 0 ≤ k + 1; omega, by show k + 1 ≤ 7; omega⟩ (.refl _)
  · exact .refl _
end Go.Proofs.YtdngaaploooceaaDoor.Sy

/- Contracts: an image by hand. -/
set_option maxRecDepth 100000
namespace Go.Proofs.YtdngaaploooceaaDoor.Sy
open Go.RowKit Kit Go.Proofs
set_option maxHeartbeats 4000000 in
theorem known_ok : CtrOk Tryd.prog 3 (ctr Args.nil fun _ => ans (rB true)) := by
  refine .mk CK_ok mixed (q := fnK) (.of Tryd.func3 (by kernel_rfl)) (N := 0) (nr := []) lpK_ok (by decide) ?_
  rintro ⟨⟩ hb
  refine Gives.seq (by kernel_rfl) ?_
  refine Gives.run (t' := .ret (.nx, ⟨131, [], []⟩)) (by kernel_rfl) ?_
  refine Gives.goto rfl (Gives.seq (by kernel_rfl) ?_)
  refine Gives.run (t' := .ite false (.ret (.rt, ⟨131, [(0, .e (.c (.kb false)))], []⟩)) (.ret (.nx, ⟨131, [(18, .e (.c (.kb false)))], []⟩))) (by kernel_rfl) ?_
  refine .lite (fun h => by cases h) (fun _ => ?_)
  refine Gives.goto rfl (Gives.seq (by kernel_rfl) ?_)
  refine Gives.run (t' := .ret (.nx, ⟨131, [(1, .e (.c (.np 1 0)))], [(1, .cells 47 [.d (.sl (Ty.pair (Ty.int IntKind.i64) (Ty.int IntKind.i64)) [((1 : Int), (3 : Int)), ((26 : Int), (0 : Int))]), .nil, .d (.sl (Ty.pair Ty.str (Ty.pair Ty.bool (Ty.int IntKind.i64))) [((ByteArray.mk (List.toArray [(100 : UInt8)])), (true, (0 : Int))), ((ByteArray.mk (List.toArray [(100 : UInt8), (47 : UInt8), (98 : UInt8)])), (false, (2 : Int)))]), .d (.sl (Ty.int IntKind.i64) [(1 : Int)]), .d (.v (.int .i64 (2 : Int))), .d (.v (.int .i64 (1 : Int))), .d (.v (.int .i64 (300 : Int))), .d (.sl (Ty.sl (Ty.int IntKind.u8)) [[(7 : Int)]]), .d (.sl (Ty.sl (Ty.int IntKind.u8)) [[(8 : Int)]]), .d (.sl Ty.bool [false, true]), .d (.sl (Ty.pair Ty.bool (Ty.int IntKind.u16)) [(true, (5 : Int)), (false, (65285 : Int))]), .d (.v (.int .i64 (1 : Int))), .d (.v (.int .u16 (3 : Int)))])]⟩)) (by kernel_rfl) ?_
  refine Gives.goto rfl (Gives.seq (by kernel_rfl) ?_)
  refine Gives.run (t' := .need true (.ite false (.ret (.nx, ⟨131, [(1, .e (.c (.np 1 0))), (2, .e (.c (.nil))), (3, rI (writeE (([((1 : Int), (3 : Int)), ((26 : Int), (0 : Int))], ([] : List ByteArray)), (([((ByteArray.mk (List.toArray [(100 : UInt8)])), (true, (0 : Int))), ((ByteArray.mk (List.toArray [(100 : UInt8), (47 : UInt8), (98 : UInt8)])), (false, (2 : Int)))], ([(1 : Int)], ((2 : Int), ((1 : Int), (300 : Int))))), (([[(7 : Int)]], ([[(8 : Int)]], [false, true])), ([(true, (5 : Int)), (false, (65285 : Int))], ((1 : Int), (3 : Int))))))))], [(1, .cells 47 [.d (.sl (Ty.pair (Ty.int IntKind.i64) (Ty.int IntKind.i64)) [((1 : Int), (3 : Int)), ((26 : Int), (0 : Int))]), .nil, .d (.sl (Ty.pair Ty.str (Ty.pair Ty.bool (Ty.int IntKind.i64))) [((ByteArray.mk (List.toArray [(100 : UInt8)])), (true, (0 : Int))), ((ByteArray.mk (List.toArray [(100 : UInt8), (47 : UInt8), (98 : UInt8)])), (false, (2 : Int)))]), .d (.sl (Ty.int IntKind.i64) [(1 : Int)]), .d (.v (.int .i64 (2 : Int))), .d (.v (.int .i64 (1 : Int))), .d (.v (.int .i64 (300 : Int))), .d (.sl (Ty.sl (Ty.int IntKind.u8)) [[(7 : Int)]]), .d (.sl (Ty.sl (Ty.int IntKind.u8)) [[(8 : Int)]]), .d (.sl Ty.bool [false, true]), .d (.sl (Ty.pair Ty.bool (Ty.int IntKind.u16)) [(true, (5 : Int)), (false, (65285 : Int))]), .d (.v (.int .i64 (1 : Int))), .d (.v (.int .u16 (3 : Int)))])]⟩)) (.ret (.nx, ⟨131, [(1, .e (.c (.np 1 0))), (2, .e (.c (.row 40050041))), (3, rI (0 : Int))], [(1, .cells 47 [.d (.sl (Ty.pair (Ty.int IntKind.i64) (Ty.int IntKind.i64)) [((1 : Int), (3 : Int)), ((26 : Int), (0 : Int))]), .nil, .d (.sl (Ty.pair Ty.str (Ty.pair Ty.bool (Ty.int IntKind.i64))) [((ByteArray.mk (List.toArray [(100 : UInt8)])), (true, (0 : Int))), ((ByteArray.mk (List.toArray [(100 : UInt8), (47 : UInt8), (98 : UInt8)])), (false, (2 : Int)))]), .d (.sl (Ty.int IntKind.i64) [(1 : Int)]), .d (.v (.int .i64 (2 : Int))), .d (.v (.int .i64 (1 : Int))), .d (.v (.int .i64 (300 : Int))), .d (.sl (Ty.sl (Ty.int IntKind.u8)) [[(7 : Int)]]), .d (.sl (Ty.sl (Ty.int IntKind.u8)) [[(8 : Int)]]), .d (.sl Ty.bool [false, true]), .d (.sl (Ty.pair Ty.bool (Ty.int IntKind.u16)) [(true, (5 : Int)), (false, (65285 : Int))]), .d (.v (.int .i64 (1 : Int))), .d (.v (.int .u16 (3 : Int)))]), (40050041, .row tU 5 (writeB (([((1 : Int), (3 : Int)), ((26 : Int), (0 : Int))], ([] : List ByteArray)), (([((ByteArray.mk (List.toArray [(100 : UInt8)])), (true, (0 : Int))), ((ByteArray.mk (List.toArray [(100 : UInt8), (47 : UInt8), (98 : UInt8)])), (false, (2 : Int)))], ([(1 : Int)], ((2 : Int), ((1 : Int), (300 : Int))))), (([[(7 : Int)]], ([[(8 : Int)]], [false, true])), ([(true, (5 : Int)), (false, (65285 : Int))], ((1 : Int), (3 : Int))))))))]⟩)))) (by kernel_rfl) ?_
  have hw : (writeE (mK 1) != 0) = false := by rw [mK_write]; rfl
  refine .lneed rfl (.lite (fun h => by cases h) (fun _ => ?_))
  have hu : u8s (writeB (mK 1)) = true := writeB_u8 (by kernel_rfl)
  have hl : (writeB (mK 1)).length ≤ 65536 := of_decide_eq_true (by kernel_rfl)
  have hr := mK_read
  refine Gives.goto (σ' := ⟨131, [(1, .e (.c (.np 1 0))), (2, .e (.c (.row 40050041))), (3, rI 0)], [(1, oM 1), (40050041, .row tU 5 (writeB (mK 1)))]⟩) (by kernel_rfl) ?_
  generalize writeB (mK 1) = B at hu hl hr ⊢
  refine Gives.seq (by kernel_rfl) ?_
  refine Gives.run (t' := .need (decide (((u8s B) = true) ∧ ((List.length B) ≤ 1000000000))) (.ret (.nx, ⟨131, [(1, .e (.c (.np 1 0))), (3, rI (0 : Int)), (4, rL tFile ((readT B)).2), (5, rI ((readT B)).1)], [(1, .cells 47 [.d (.sl tInst [((1 : Int), (3 : Int)), ((26 : Int), (0 : Int))]), .nil, .d (.sl tEnt [((bs "d"), (true, (0 : Int))), ((bs "d/b"), (false, (2 : Int)))]), .d (.sl tI [(1 : Int)]), .d (.v (.int .i64 (2 : Int))), .d (.v (.int .i64 (1 : Int))), .d (.v (.int .i64 (300 : Int))), .d (.sl tB [[(7 : Int)]]), .d (.sl tB [[(8 : Int)]]), .d (.sl Ty.bool [false, true]), .d (.sl tEv [(true, (5 : Int)), (false, (65285 : Int))]), .d (.v (.int .i64 (1 : Int))), .d (.v (.int .u16 (3 : Int)))])]⟩))) (by kernel_rfl) ?_
  refine .lnd ⟨hu, by omega⟩ ?_
  rw [hr]
  clear hr
  refine Gives.goto (σ' := ⟨131, [(1, .e (.c (.np 1 0))), (3, rI 0), (4, rL tFile lK), (5, rI 0)], [(1, oM 1)]⟩) rfl (Gives.seq (by kernel_rfl) ?_)
  refine Gives.run (t' := .ite false (.ret (.rt, ⟨131, [(0, .e (.c (.kb false)))], []⟩)) (.ite false (.ret (.rt, ⟨131, [(0, .e (.c (.kb false)))], []⟩)) (.ite false (.ret (.rt, ⟨131, [(0, .e (.c (.kb false)))], []⟩)) (.ret (.nx, ⟨131, [(1, .e (.c (.np 1 0))), (4, rL tFile lK), (59, .e (.c (.kb false)))], [(1, .cells 47 [.d (.sl tInst [((1 : Int), (3 : Int)), ((26 : Int), (0 : Int))]), .nil, .d (.sl tEnt [((bs "d"), (true, (0 : Int))), ((bs "d/b"), (false, (2 : Int)))]), .d (.sl tI [(1 : Int)]), .d (.v (.int .i64 (2 : Int))), .d (.v (.int .i64 (1 : Int))), .d (.v (.int .i64 (300 : Int))), .d (.sl tB [[(7 : Int)]]), .d (.sl tB [[(8 : Int)]]), .d (.sl Ty.bool [false, true]), .d (.sl tEv [(true, (5 : Int)), (false, (65285 : Int))]), .d (.v (.int .i64 (1 : Int))), .d (.v (.int .u16 (3 : Int)))])]⟩))))) (by kernel_rfl) ?_
  refine .lite (fun h => by cases h) (fun _ => .lite (fun h => by cases h) (fun _ => .lite (fun h => by cases h) (fun _ => ?_)))
  refine Gives.goto (σ' := ⟨131, [(1, .e (.c (.np 1 0))), (4, rL tFile lK), (59, .e (.c (.kb false)))], [(1, oM 1)]⟩) rfl (Gives.seq (by kernel_rfl) ?_)
  refine Gives.run (t' := .ret (.nx, ⟨131, [(1, .e (.c (.np 1 0))), (4, rL tFile lK), (6, rL Ty.str [(ByteArray.mk (List.toArray [(112 : UInt8), (114 : UInt8), (111 : UInt8), (103 : UInt8)])), (ByteArray.mk (List.toArray [(116 : UInt8), (114 : UInt8), (101 : UInt8), (101 : UInt8), (47 : UInt8), (100 : UInt8)])), (ByteArray.mk (List.toArray [(116 : UInt8), (114 : UInt8), (101 : UInt8), (101 : UInt8), (47 : UInt8), (100 : UInt8), (47 : UInt8), (98 : UInt8)])), (ByteArray.mk (List.toArray [(97 : UInt8), (114 : UInt8), (103 : UInt8), (115 : UInt8), (47 : UInt8), (48 : UInt8)])), (ByteArray.mk (List.toArray [(102 : UInt8), (97 : UInt8), (105 : UInt8), (108 : UInt8), (115 : UInt8)])), (ByteArray.mk (List.toArray [(99 : UInt8), (108 : UInt8), (97 : UInt8), (115 : UInt8), (115 : UInt8)])), (ByteArray.mk (List.toArray [(116 : UInt8), (114 : UInt8), (97 : UInt8), (99 : UInt8), (101 : UInt8)]))])], [(1, .cells 47 [.d (.sl tInst [((1 : Int), (3 : Int)), ((26 : Int), (0 : Int))]), .nil, .d (.sl tEnt [((bs "d"), (true, (0 : Int))), ((bs "d/b"), (false, (2 : Int)))]), .d (.sl tI [(1 : Int)]), .d (.v (.int .i64 (2 : Int))), .d (.v (.int .i64 (1 : Int))), .d (.v (.int .i64 (300 : Int))), .d (.sl tB [[(7 : Int)]]), .d (.sl tB [[(8 : Int)]]), .d (.sl Ty.bool [false, true]), .d (.sl tEv [(true, (5 : Int)), (false, (65285 : Int))]), .d (.v (.int .i64 (1 : Int))), .d (.v (.int .u16 (3 : Int)))])]⟩)) (by kernel_rfl) ?_
  refine Gives.goto rfl (Gives.seq (by kernel_rfl) ?_)
  refine Gives.run (t' := .ret (.nx, ⟨131, [(1, .e (.c (.np 1 0))), (4, rL tFile lK), (6, rL Ty.str [(ByteArray.mk (List.toArray [(112 : UInt8), (114 : UInt8), (111 : UInt8), (103 : UInt8)])), (ByteArray.mk (List.toArray [(116 : UInt8), (114 : UInt8), (101 : UInt8), (101 : UInt8), (47 : UInt8), (100 : UInt8)])), (ByteArray.mk (List.toArray [(116 : UInt8), (114 : UInt8), (101 : UInt8), (101 : UInt8), (47 : UInt8), (100 : UInt8), (47 : UInt8), (98 : UInt8)])), (ByteArray.mk (List.toArray [(97 : UInt8), (114 : UInt8), (103 : UInt8), (115 : UInt8), (47 : UInt8), (48 : UInt8)])), (ByteArray.mk (List.toArray [(102 : UInt8), (97 : UInt8), (105 : UInt8), (108 : UInt8), (115 : UInt8)])), (ByteArray.mk (List.toArray [(99 : UInt8), (108 : UInt8), (97 : UInt8), (115 : UInt8), (115 : UInt8)])), (ByteArray.mk (List.toArray [(116 : UInt8), (114 : UInt8), (97 : UInt8), (99 : UInt8), (101 : UInt8)]))]), (7, rL Ty.str [(ByteArray.mk (List.toArray [(88 : UInt8), (82 : UInt8), (0 : UInt8), (2 : UInt8), (1 : UInt8), (0 : UInt8), (3 : UInt8), (26 : UInt8), (0 : UInt8), (0 : UInt8)])), (ByteArray.mk (List.toArray ([] : List UInt8))), (ByteArray.mk (List.toArray [(7 : UInt8)])), (ByteArray.mk (List.toArray [(8 : UInt8)])), (ByteArray.mk (List.toArray [(0 : UInt8), (1 : UInt8)])), (ByteArray.mk (List.toArray [(2 : UInt8), (1 : UInt8), (1 : UInt8), (44 : UInt8), (2 : UInt8), (1 : UInt8)])), (ByteArray.mk (List.toArray [(1 : UInt8), (0 : UInt8), (5 : UInt8), (0 : UInt8), (255 : UInt8), (5 : UInt8), (1 : UInt8), (0 : UInt8), (3 : UInt8)]))])], [(1, .cells 47 [.d (.sl tInst [((1 : Int), (3 : Int)), ((26 : Int), (0 : Int))]), .nil, .d (.sl tEnt [((bs "d"), (true, (0 : Int))), ((bs "d/b"), (false, (2 : Int)))]), .d (.sl tI [(1 : Int)]), .d (.v (.int .i64 (2 : Int))), .d (.v (.int .i64 (1 : Int))), .d (.v (.int .i64 (300 : Int))), .d (.sl tB [[(7 : Int)]]), .d (.sl tB [[(8 : Int)]]), .d (.sl Ty.bool [false, true]), .d (.sl tEv [(true, (5 : Int)), (false, (65285 : Int))]), .d (.v (.int .i64 (1 : Int))), .d (.v (.int .u16 (3 : Int)))])]⟩)) (by kernel_rfl) ?_
  refine Gives.goto rfl (Gives.seq (by kernel_rfl) ?_)
  refine Gives.run (t' := .need true (.ret (.nx, ⟨131, [(1, .e (.c (.np 1 0))), (4, rL tFile lK)], [(1, .cells 47 [.d (.sl tInst [((1 : Int), (3 : Int)), ((26 : Int), (0 : Int))]), .nil, .d (.sl tEnt [((bs "d"), (true, (0 : Int))), ((bs "d/b"), (false, (2 : Int)))]), .d (.sl tI [(1 : Int)]), .d (.v (.int .i64 (2 : Int))), .d (.v (.int .i64 (1 : Int))), .d (.v (.int .i64 (300 : Int))), .d (.sl tB [[(7 : Int)]]), .d (.sl tB [[(8 : Int)]]), .d (.sl Ty.bool [false, true]), .d (.sl tEv [(true, (5 : Int)), (false, (65285 : Int))]), .d (.v (.int .i64 (1 : Int))), .d (.v (.int .u16 (3 : Int)))])]⟩))) (by kernel_rfl) ?_
  refine .lneed rfl ?_
  refine Gives.goto (σ' := ⟨131, [(1, .e (.c (.np 1 0))), (4, rL tFile lK)], [(1, oM 1)]⟩) rfl (Gives.seq (by kernel_rfl) ?_)
  refine Gives.run (t' := .ret (.nx, ⟨131, [(1, .e (.c (.np 1 0))), (4, rL tFile lK)], [(1, .cells 47 [.d (.sl tInst [((1 : Int), (3 : Int)), ((26 : Int), (0 : Int))]), .nil, .d (.sl tEnt [((bs "d"), (true, (0 : Int))), ((bs "d/b"), (false, (2 : Int)))]), .d (.sl tI [(1 : Int)]), .d (.v (.int .i64 (2 : Int))), .d (.v (.int .i64 (1 : Int))), .d (.v (.int .i64 (300 : Int))), .d (.sl tB [[(7 : Int)]]), .d (.sl tB [[(8 : Int)]]), .d (.sl Ty.bool [false, true]), .d (.sl tEv [(true, (5 : Int)), (false, (65285 : Int))]), .d (.v (.int .i64 (0 : Int))), .d (.v (.int .u16 (3 : Int)))])]⟩)) (by kernel_rfl) ?_
  refine Gives.goto (σ' := ⟨131, [(1, .e (.c (.np 1 0))), (4, rL tFile lK)], [(1, oM 0)]⟩) (by kernel_rfl) (Gives.seq (by kernel_rfl) ?_)
  refine Gives.run (t' := .need true (.ite true (.ret (.nx, ⟨131, [(4, rL tFile lK), (10, rI (writeE (([((1 : Int), (3 : Int)), ((26 : Int), (0 : Int))], ([] : List ByteArray)), (([((bs "d"), (true, (0 : Int))), ((bs "d/b"), (false, (2 : Int)))], ([(1 : Int)], ((2 : Int), ((1 : Int), (300 : Int))))), (([[(7 : Int)]], ([[(8 : Int)]], [false, true])), ([(true, (5 : Int)), (false, (65285 : Int))], ((0 : Int), (3 : Int))))))))], [(1, .cells 47 [.d (.sl tInst [((1 : Int), (3 : Int)), ((26 : Int), (0 : Int))]), .nil, .d (.sl tEnt [((bs "d"), (true, (0 : Int))), ((bs "d/b"), (false, (2 : Int)))]), .d (.sl tI [(1 : Int)]), .d (.v (.int .i64 (2 : Int))), .d (.v (.int .i64 (1 : Int))), .d (.v (.int .i64 (300 : Int))), .d (.sl tB [[(7 : Int)]]), .d (.sl tB [[(8 : Int)]]), .d (.sl Ty.bool [false, true]), .d (.sl tEv [(true, (5 : Int)), (false, (65285 : Int))]), .d (.v (.int .i64 (0 : Int))), .d (.v (.int .u16 (3 : Int)))])]⟩)) (.ret (.nx, ⟨131, [(4, rL tFile lK), (10, rI (0 : Int))], [(1, .cells 47 [.d (.sl tInst [((1 : Int), (3 : Int)), ((26 : Int), (0 : Int))]), .nil, .d (.sl tEnt [((bs "d"), (true, (0 : Int))), ((bs "d/b"), (false, (2 : Int)))]), .d (.sl tI [(1 : Int)]), .d (.v (.int .i64 (2 : Int))), .d (.v (.int .i64 (1 : Int))), .d (.v (.int .i64 (300 : Int))), .d (.sl tB [[(7 : Int)]]), .d (.sl tB [[(8 : Int)]]), .d (.sl Ty.bool [false, true]), .d (.sl tEv [(true, (5 : Int)), (false, (65285 : Int))]), .d (.v (.int .i64 (0 : Int))), .d (.v (.int .u16 (3 : Int)))]), (40050103, .row tU 5 (writeB (([((1 : Int), (3 : Int)), ((26 : Int), (0 : Int))], ([] : List ByteArray)), (([((bs "d"), (true, (0 : Int))), ((bs "d/b"), (false, (2 : Int)))], ([(1 : Int)], ((2 : Int), ((1 : Int), (300 : Int))))), (([[(7 : Int)]], ([[(8 : Int)]], [false, true])), ([(true, (5 : Int)), (false, (65285 : Int))], ((0 : Int), (3 : Int))))))))]⟩)))) (by kernel_rfl) ?_
  refine .lneed rfl (.lite (fun _ => ?_) (fun h => by cases h))
  refine Gives.goto (σ' := ⟨131, [(4, rL tFile lK), (10, rI 4)], [(1, oM 0)]⟩) (by kernel_rfl) (Gives.seq (by kernel_rfl) ?_)
  refine Gives.run (t' := .need true (.ret (.nx, ⟨131, [(4, rL tFile lK), (10, rI (4 : Int)), (12, rI ((readI ([] : List Int))).1)], [(1, .cells 47 [.d (.sl tInst [((1 : Int), (3 : Int)), ((26 : Int), (0 : Int))]), .nil, .d (.sl tEnt [((bs "d"), (true, (0 : Int))), ((bs "d/b"), (false, (2 : Int)))]), .d (.sl tI [(1 : Int)]), .d (.v (.int .i64 (2 : Int))), .d (.v (.int .i64 (1 : Int))), .d (.v (.int .i64 (300 : Int))), .d (.sl tB [[(7 : Int)]]), .d (.sl tB [[(8 : Int)]]), .d (.sl Ty.bool [false, true]), .d (.sl tEv [(true, (5 : Int)), (false, (65285 : Int))]), .d (.v (.int .i64 (0 : Int))), .d (.v (.int .u16 (3 : Int)))]), (11, .cells 47 [.d (.sl tInst ((((readI ([] : List Int))).2).1).1), .d (.sl Ty.str ((((readI ([] : List Int))).2).1).2), .d (.sl tEnt (((((readI ([] : List Int))).2).2).1).1), .d (.sl tI ((((((readI ([] : List Int))).2).2).1).2).1), .d (.v (.int .i64 (((((((readI ([] : List Int))).2).2).1).2).2).1)), .d (.v (.int .i64 ((((((((readI ([] : List Int))).2).2).1).2).2).2).1)), .d (.v (.int .i64 ((((((((readI ([] : List Int))).2).2).1).2).2).2).2)), .d (.sl tB ((((((readI ([] : List Int))).2).2).2).1).1), .d (.sl tB (((((((readI ([] : List Int))).2).2).2).1).2).1), .d (.sl Ty.bool (((((((readI ([] : List Int))).2).2).2).1).2).2), .d (.sl tEv ((((((readI ([] : List Int))).2).2).2).2).1), .d (.v (.int .i64 (((((((readI ([] : List Int))).2).2).2).2).2).1)), .d (.v (.int .u16 (((((((readI ([] : List Int))).2).2).2).2).2).2))])]⟩))) (by kernel_rfl) ?_
  rw [mK_nil]
  refine .lneed rfl ?_
  generalize (readI ([] : List Int)).2 = z
  refine Gives.goto rfl (Gives.seq (by kernel_rfl) ?_)
  refine Gives.run (t' := .need true (.ite false (.ret (.nx, ⟨131, [(10, rI (4 : Int)), (12, rI (4 : Int)), (13, .e (.c (.nil)))], [(1, .cells 47 [.d (.sl tInst [((1 : Int), (3 : Int)), ((26 : Int), (0 : Int))]), .nil, .d (.sl tEnt [((bs "d"), (true, (0 : Int))), ((bs "d/b"), (false, (2 : Int)))]), .d (.sl tI [(1 : Int)]), .d (.v (.int .i64 (2 : Int))), .d (.v (.int .i64 (1 : Int))), .d (.v (.int .i64 (300 : Int))), .d (.sl tB [[(7 : Int)]]), .d (.sl tB [[(8 : Int)]]), .d (.sl Ty.bool [false, true]), .d (.sl tEv [(true, (5 : Int)), (false, (65285 : Int))]), .d (.v (.int .i64 (0 : Int))), .d (.v (.int .u16 (3 : Int)))]), (11, .cells 47 [.d (.sl tInst ((z).1).1), .d (.sl Ty.str ((z).1).2), .d (.sl tEnt (((z).2).1).1), .d (.sl tI ((((z).2).1).2).1), .d (.v (.int .i64 (((((z).2).1).2).2).1)), .d (.v (.int .i64 ((((((z).2).1).2).2).2).1)), .d (.v (.int .i64 ((((((z).2).1).2).2).2).2)), .d (.sl tB ((((z).2).2).1).1), .d (.sl tB (((((z).2).2).1).2).1), .d (.sl Ty.bool (((((z).2).2).1).2).2), .d (.sl tEv ((((z).2).2).2).1), .d (.v (.int .i64 (((((z).2).2).2).2).1)), .d (.v (.int .u16 (((((z).2).2).2).2).2))])]⟩)) (.ret (.nx, ⟨131, [(10, rI (4 : Int)), (12, rI (4 : Int)), (13, .e (.c (.row 40113)))], [(1, .cells 47 [.d (.sl tInst [((1 : Int), (3 : Int)), ((26 : Int), (0 : Int))]), .nil, .d (.sl tEnt [((bs "d"), (true, (0 : Int))), ((bs "d/b"), (false, (2 : Int)))]), .d (.sl tI [(1 : Int)]), .d (.v (.int .i64 (2 : Int))), .d (.v (.int .i64 (1 : Int))), .d (.v (.int .i64 (300 : Int))), .d (.sl tB [[(7 : Int)]]), .d (.sl tB [[(8 : Int)]]), .d (.sl Ty.bool [false, true]), .d (.sl tEv [(true, (5 : Int)), (false, (65285 : Int))]), .d (.v (.int .i64 (0 : Int))), .d (.v (.int .u16 (3 : Int)))]), (11, .cells 47 [.d (.sl tInst ((z).1).1), .d (.sl Ty.str ((z).1).2), .d (.sl tEnt (((z).2).1).1), .d (.sl tI ((((z).2).1).2).1), .d (.v (.int .i64 (((((z).2).1).2).2).1)), .d (.v (.int .i64 ((((((z).2).1).2).2).2).1)), .d (.v (.int .i64 ((((((z).2).1).2).2).2).2)), .d (.sl tB ((((z).2).2).1).1), .d (.sl tB (((((z).2).2).1).2).1), .d (.sl Ty.bool (((((z).2).2).1).2).2), .d (.sl tEv ((((z).2).2).2).1), .d (.v (.int .i64 (((((z).2).2).2).2).1)), .d (.v (.int .u16 (((((z).2).2).2).2).2))]), (40113, .row tU 5 (arcF (List.drop 0 (List.take 6 lK))))]⟩)))) (by kernel_rfl) ?_
  refine .lneed rfl (.lite (fun h => by cases h) (fun _ => ?_))
  have hu : u8s (arcF ((lK.take 6).drop 0)) = true := by kernel_rfl
  have hl : (arcF ((lK.take 6).drop 0)).length ≤ 65536 := of_decide_eq_true (by kernel_rfl)
  have hr : (readI (arcF ((lK.take 6).drop 0))).1 = 4 := mK_short
  generalize arcF ((lK.take 6).drop 0) = B at hu hl hr ⊢
  refine Gives.goto rfl (Gives.seq (by kernel_rfl) ?_)
  refine Gives.run (t' := .need (decide (((u8s B) = true) ∧ ((List.length B) ≤ 1000000000))) (.ret (.nx, ⟨131, [(10, rI (4 : Int)), (12, rI (4 : Int)), (16, rI ((readI B)).1)], [(1, .cells 47 [.d (.sl tInst [((1 : Int), (3 : Int)), ((26 : Int), (0 : Int))]), .nil, .d (.sl tEnt [((bs "d"), (true, (0 : Int))), ((bs "d/b"), (false, (2 : Int)))]), .d (.sl tI [(1 : Int)]), .d (.v (.int .i64 (2 : Int))), .d (.v (.int .i64 (1 : Int))), .d (.v (.int .i64 (300 : Int))), .d (.sl tB [[(7 : Int)]]), .d (.sl tB [[(8 : Int)]]), .d (.sl Ty.bool [false, true]), .d (.sl tEv [(true, (5 : Int)), (false, (65285 : Int))]), .d (.v (.int .i64 (0 : Int))), .d (.v (.int .u16 (3 : Int)))]), (11, .cells 47 [.d (.sl tInst ((z).1).1), .d (.sl Ty.str ((z).1).2), .d (.sl tEnt (((z).2).1).1), .d (.sl tI ((((z).2).1).2).1), .d (.v (.int .i64 (((((z).2).1).2).2).1)), .d (.v (.int .i64 ((((((z).2).1).2).2).2).1)), .d (.v (.int .i64 ((((((z).2).1).2).2).2).2)), .d (.sl tB ((((z).2).2).1).1), .d (.sl tB (((((z).2).2).1).2).1), .d (.sl Ty.bool (((((z).2).2).1).2).2), .d (.sl tEv ((((z).2).2).2).1), .d (.v (.int .i64 (((((z).2).2).2).2).1)), .d (.v (.int .u16 (((((z).2).2).2).2).2))]), (15, .cells 47 [.d (.sl tInst ((((readI B)).2).1).1), .d (.sl Ty.str ((((readI B)).2).1).2), .d (.sl tEnt (((((readI B)).2).2).1).1), .d (.sl tI ((((((readI B)).2).2).1).2).1), .d (.v (.int .i64 (((((((readI B)).2).2).1).2).2).1)), .d (.v (.int .i64 ((((((((readI B)).2).2).1).2).2).2).1)), .d (.v (.int .i64 ((((((((readI B)).2).2).1).2).2).2).2)), .d (.sl tB ((((((readI B)).2).2).2).1).1), .d (.sl tB (((((((readI B)).2).2).2).1).2).1), .d (.sl Ty.bool (((((((readI B)).2).2).2).1).2).2), .d (.sl tEv ((((((readI B)).2).2).2).2).1), .d (.v (.int .i64 (((((((readI B)).2).2).2).2).2).1)), .d (.v (.int .u16 (((((((readI B)).2).2).2).2).2).2))])]⟩))) (by kernel_rfl) ?_
  refine .lnd ⟨hu, by omega⟩ ?_
  rw [hr]
  generalize (readI B).2 = z2
  refine Gives.goto rfl (Gives.seq (by kernel_rfl) ?_)
  refine Gives.run (t' := .ite true (.ite true (.ret (.nx, ⟨131, [(0, rB ((4 : Int) == (4 : Int)))], [(1, .cells 47 [.d (.sl tInst [((1 : Int), (3 : Int)), ((26 : Int), (0 : Int))]), .nil, .d (.sl tEnt [((bs "d"), (true, (0 : Int))), ((bs "d/b"), (false, (2 : Int)))]), .d (.sl tI [(1 : Int)]), .d (.v (.int .i64 (2 : Int))), .d (.v (.int .i64 (1 : Int))), .d (.v (.int .i64 (300 : Int))), .d (.sl tB [[(7 : Int)]]), .d (.sl tB [[(8 : Int)]]), .d (.sl Ty.bool [false, true]), .d (.sl tEv [(true, (5 : Int)), (false, (65285 : Int))]), .d (.v (.int .i64 (0 : Int))), .d (.v (.int .u16 (3 : Int)))]), (11, .cells 47 [.d (.sl tInst ((z).1).1), .d (.sl Ty.str ((z).1).2), .d (.sl tEnt (((z).2).1).1), .d (.sl tI ((((z).2).1).2).1), .d (.v (.int .i64 (((((z).2).1).2).2).1)), .d (.v (.int .i64 ((((((z).2).1).2).2).2).1)), .d (.v (.int .i64 ((((((z).2).1).2).2).2).2)), .d (.sl tB ((((z).2).2).1).1), .d (.sl tB (((((z).2).2).1).2).1), .d (.sl Ty.bool (((((z).2).2).1).2).2), .d (.sl tEv ((((z).2).2).2).1), .d (.v (.int .i64 (((((z).2).2).2).2).1)), .d (.v (.int .u16 (((((z).2).2).2).2).2))]), (15, .cells 47 [.d (.sl tInst ((z2).1).1), .d (.sl Ty.str ((z2).1).2), .d (.sl tEnt (((z2).2).1).1), .d (.sl tI ((((z2).2).1).2).1), .d (.v (.int .i64 (((((z2).2).1).2).2).1)), .d (.v (.int .i64 ((((((z2).2).1).2).2).2).1)), .d (.v (.int .i64 ((((((z2).2).1).2).2).2).2)), .d (.sl tB ((((z2).2).2).1).1), .d (.sl tB (((((z2).2).2).1).2).1), .d (.sl Ty.bool (((((z2).2).2).1).2).2), .d (.sl tEv ((((z2).2).2).2).1), .d (.v (.int .i64 (((((z2).2).2).2).2).1)), .d (.v (.int .u16 (((((z2).2).2).2).2).2))])]⟩)) (.ret (.nx, ⟨131, [(0, .e (.c (.kb false)))], [(1, .cells 47 [.d (.sl tInst [((1 : Int), (3 : Int)), ((26 : Int), (0 : Int))]), .nil, .d (.sl tEnt [((bs "d"), (true, (0 : Int))), ((bs "d/b"), (false, (2 : Int)))]), .d (.sl tI [(1 : Int)]), .d (.v (.int .i64 (2 : Int))), .d (.v (.int .i64 (1 : Int))), .d (.v (.int .i64 (300 : Int))), .d (.sl tB [[(7 : Int)]]), .d (.sl tB [[(8 : Int)]]), .d (.sl Ty.bool [false, true]), .d (.sl tEv [(true, (5 : Int)), (false, (65285 : Int))]), .d (.v (.int .i64 (0 : Int))), .d (.v (.int .u16 (3 : Int)))]), (11, .cells 47 [.d (.sl tInst ((z).1).1), .d (.sl Ty.str ((z).1).2), .d (.sl tEnt (((z).2).1).1), .d (.sl tI ((((z).2).1).2).1), .d (.v (.int .i64 (((((z).2).1).2).2).1)), .d (.v (.int .i64 ((((((z).2).1).2).2).2).1)), .d (.v (.int .i64 ((((((z).2).1).2).2).2).2)), .d (.sl tB ((((z).2).2).1).1), .d (.sl tB (((((z).2).2).1).2).1), .d (.sl Ty.bool (((((z).2).2).1).2).2), .d (.sl tEv ((((z).2).2).2).1), .d (.v (.int .i64 (((((z).2).2).2).2).1)), .d (.v (.int .u16 (((((z).2).2).2).2).2))]), (15, .cells 47 [.d (.sl tInst ((z2).1).1), .d (.sl Ty.str ((z2).1).2), .d (.sl tEnt (((z2).2).1).1), .d (.sl tI ((((z2).2).1).2).1), .d (.v (.int .i64 (((((z2).2).1).2).2).1)), .d (.v (.int .i64 ((((((z2).2).1).2).2).2).1)), .d (.v (.int .i64 ((((((z2).2).1).2).2).2).2)), .d (.sl tB ((((z2).2).2).1).1), .d (.sl tB (((((z2).2).2).1).2).1), .d (.sl Ty.bool (((((z2).2).2).1).2).2), .d (.sl tEv ((((z2).2).2).2).1), .d (.v (.int .i64 (((((z2).2).2).2).2).1)), .d (.v (.int .u16 (((((z2).2).2).2).2).2))])]⟩))) (.ret (.nx, ⟨131, [(0, .e (.c (.kb false)))], [(1, .cells 47 [.d (.sl tInst [((1 : Int), (3 : Int)), ((26 : Int), (0 : Int))]), .nil, .d (.sl tEnt [((bs "d"), (true, (0 : Int))), ((bs "d/b"), (false, (2 : Int)))]), .d (.sl tI [(1 : Int)]), .d (.v (.int .i64 (2 : Int))), .d (.v (.int .i64 (1 : Int))), .d (.v (.int .i64 (300 : Int))), .d (.sl tB [[(7 : Int)]]), .d (.sl tB [[(8 : Int)]]), .d (.sl Ty.bool [false, true]), .d (.sl tEv [(true, (5 : Int)), (false, (65285 : Int))]), .d (.v (.int .i64 (0 : Int))), .d (.v (.int .u16 (3 : Int)))]), (11, .cells 47 [.d (.sl tInst ((z).1).1), .d (.sl Ty.str ((z).1).2), .d (.sl tEnt (((z).2).1).1), .d (.sl tI ((((z).2).1).2).1), .d (.v (.int .i64 (((((z).2).1).2).2).1)), .d (.v (.int .i64 ((((((z).2).1).2).2).2).1)), .d (.v (.int .i64 ((((((z).2).1).2).2).2).2)), .d (.sl tB ((((z).2).2).1).1), .d (.sl tB (((((z).2).2).1).2).1), .d (.sl Ty.bool (((((z).2).2).1).2).2), .d (.sl tEv ((((z).2).2).2).1), .d (.v (.int .i64 (((((z).2).2).2).2).1)), .d (.v (.int .u16 (((((z).2).2).2).2).2))]), (15, .cells 47 [.d (.sl tInst ((z2).1).1), .d (.sl Ty.str ((z2).1).2), .d (.sl tEnt (((z2).2).1).1), .d (.sl tI ((((z2).2).1).2).1), .d (.v (.int .i64 (((((z2).2).1).2).2).1)), .d (.v (.int .i64 ((((((z2).2).1).2).2).2).1)), .d (.v (.int .i64 ((((((z2).2).1).2).2).2).2)), .d (.sl tB ((((z2).2).2).1).1), .d (.sl tB (((((z2).2).2).1).2).1), .d (.sl Ty.bool (((((z2).2).2).1).2).2), .d (.sl tEv ((((z2).2).2).2).1), .d (.v (.int .i64 (((((z2).2).2).2).2).1)), .d (.v (.int .u16 (((((z2).2).2).2).2).2))])]⟩))) (by kernel_rfl) ?_
  refine .lite (fun _ => .lite (fun _ => ?_) (fun h => by cases h)) (fun h => by cases h)
  refine Gives.goto rfl ?_
  exact Gives.of_eq (t' := .ret (rB true, ⟨0, [], []⟩)) (by kernel_rfl) (.refl _)
end Go.Proofs.YtdngaaploooceaaDoor.Sy

/- The joins, first part: what a reading of an argument gives: the data that the calculus speaks of. -/
namespace Go.Proofs.YtdngaaploooceaaDoor.Sy
open Go Go.RowKit Kit

/-- the numbers in it lie in their kinds -/
def Rg : (t : Ty) → t.El → Prop
  | .int k, n => (Lit.int k n).wf = true
  | .sl t, l => ∀ x ∈ l, Rg t x
  | .pair a b, x => Rg a x.1 ∧ Rg b x.2
  | _, _ => True
/-- these fields, from this place on, lay data of this kind -/
def layOk (P : Program) : Ty → Nat → List (Nat × TypeId) → Bool
  | .int k, off, [f] => f.1 == off && (match P.underlying f.2 with | some (.int k') => decide (k' = k) | _ => false) && P.cellsOf f.2 == 1
  | .bool, off, [f] => f.1 == off && (match P.underlying f.2 with | some .bool => true | _ => false) && P.cellsOf f.2 == 1
  | .str, off, [f] => f.1 == off && (match P.underlying f.2 with | some .string => true | _ => false) && P.cellsOf f.2 == 1
  | .sl t, off, [f] => f.1 == off && (match P.underlying f.2 with | some (.slice e) => P.cellsOf e == t.sz && layOk P t 0 [(0, e)] | _ => false) && P.cellsOf f.2 == 1
  | .pair a b, off, [f] => f.1 == off && (match P.underlying f.2 with
      | some (.struct fs) => (match fs.toList.map fun g => (g.offset, g.type) with | f0 :: f1 :: r => layOk P a 0 [f0] && layOk P b a.sz (f1 :: r) | _ => false)
      | _ => false) && P.cellsOf f.2 == a.sz + b.sz
  | .pair a b, off, f0 :: f1 :: r => layOk P a off [f0] && layOk P b (off + a.sz) (f1 :: r)
  | _, _, _ => false
def snap (w : World) : Snap := fun b => w.heap[b]?
theorem snap_cell {w : World} {a : Addr} {v : Value} (h : w.cell? a = some v) : (snap w).cell a = some v := by
  unfold World.cell? at h
  unfold Snap.cell snap
  split at h
  · rename_i c e f hm; rw [hm]; exact h
  · cases h
theorem take_one {l : List Value} {o n : Nat} {v : Value} (h : (l.drop o).take n = [v]) : (l.drop o).take 1 = [v] := by
  cases hd : l.drop o with
  | nil => rw [hd] at h; simp at h
  | cons x r =>
    rw [hd] at h
    cases n with
    | zero => simp at h
    | succ n => simp at h; simp [h.1]
theorem pick_all {α : Type} {d : α} {p : Nat → α → Prop} : ∀ (n : Nat), (∀ i, i < n → ∃ x, p i x) → ∃ l : List α, l.length = n ∧ ∀ i, i < n → p i (l.getD i d) := by
  intro n h
  refine ⟨(List.range n).map fun i => if hi : i < n then (h i hi).choose else d, by simp, fun i hi => ?_⟩
  have : ((List.range n).map fun i => if hi : i < n then (h i hi).choose else d).getD i d = (h i hi).choose := by
    rw [List.getD, List.getElem?_map, List.getElem?_range hi]; simp [hi]
  rw [this]; exact (h i hi).choose_spec
section
variable {H : Type} {enc : TypeId × Value → H} {P : Program} {w : World} {base : Nat} {spare : Nat → Bool} {held : Bool}
theorem lay_sz {P : Program} : ∀ (ty : Ty) (off : Nat) (fs : List (Nat × TypeId)), layOk P ty off fs = true → ∀ f, fs = [f] → f.1 = off ∧ P.cellsOf f.2 = ty.sz := by
  intro ty off fs h f e
  subst e
  cases ty <;> simp only [layOk, Bool.and_eq_true, beq_iff_eq] at h <;> exact ⟨h.1.1, h.2⟩
theorem open_lay : ∀ (ty : Ty) (off : Nat) (fs : List (Nat × TypeId)) (cs : List Value), layOk P ty off fs = true →
    (∀ f ∈ fs, ∃ n y, DataW.trod enc P w base spare held n f.2 ((cs.drop f.1).take (P.cellsOf f.2)) = some y) →
    ∃ x : ty.El, Cells (snap w) (split ty x) ((cs.drop off).take ty.sz) ∧ Rg ty x := by
  intro ty
  induction ty with
  | int k =>
    intro off fs cs h ht
    match fs, h with
    | [f], h =>
      simp only [layOk, Bool.and_eq_true, beq_iff_eq] at h
      obtain ⟨⟨h1, h2⟩, h3⟩ := h
      obtain ⟨n, y, hy⟩ := ht f (by simp)
      split at h2
      · rename_i k' hk
        have h2 := of_decide_eq_true h2
        subst h2
        obtain ⟨z, hz, -, hw⟩ := DataW.trod_int hk hy
        rw [h1] at hz
        refine ⟨z, ?_, hw⟩
        show Cells _ [D.v (.int _ z)] ((cs.drop off).take 1)
        rw [take_one hz]
        exact .cons (.v rfl) .nil
      · cases h2
  | bool =>
    intro off fs cs h ht
    match fs, h with
    | [f], h =>
      simp only [layOk, Bool.and_eq_true, beq_iff_eq] at h
      obtain ⟨⟨h1, h2⟩, h3⟩ := h
      obtain ⟨n, y, hy⟩ := ht f (by simp)
      split at h2
      · rename_i hk
        obtain ⟨z, hz, -⟩ := DataW.trod_bool hk hy
        rw [h1] at hz
        refine ⟨z, ?_, trivial⟩
        show Cells _ [D.v (.bool z)] ((cs.drop off).take 1)
        rw [take_one hz]
        exact .cons (.v rfl) .nil
      · cases h2
  | str =>
    intro off fs cs h ht
    match fs, h with
    | [f], h =>
      simp only [layOk, Bool.and_eq_true, beq_iff_eq] at h
      obtain ⟨⟨h1, h2⟩, h3⟩ := h
      obtain ⟨n, y, hy⟩ := ht f (by simp)
      split at h2
      · rename_i hk
        obtain ⟨z, hz, -, hw⟩ := DataW.trod_string hk hy
        rw [h1] at hz
        refine ⟨z, ?_, trivial⟩
        show Cells _ [D.v (.string z)] ((cs.drop off).take 1)
        rw [take_one hz]
        exact .cons (.v rfl) .nil
      · cases h2
  | sl t ih =>
    intro off fs cs h ht
    match fs, h with
    | [f], h =>
      simp only [layOk, Bool.and_eq_true, beq_iff_eq] at h
      obtain ⟨⟨h1, h2⟩, h3⟩ := h
      obtain ⟨n, y, hy⟩ := ht f (by simp)
      split at h2
      · rename_i e hk
        simp only [Bool.and_eq_true, beq_iff_eq] at h2
        obtain ⟨hsz, hl⟩ := h2
        rcases DataW.trod_slice hk hy with ⟨h0, -⟩ | ⟨a, len, cap, elems, rest, m, -, hz, -, hb, hlc, hcm, hlen, hel, -, -⟩
        · rw [h1] at h0
          refine ⟨[], ?_, fun x hx => by cases hx⟩
          show Cells _ [D.sl t []] ((cs.drop off).take 1)
          rw [take_one h0]
          exact .cons (DR.sl (t := t) (l := []) (A := none) (c := 0) (fun _ _ => undef) (Nat.le_refl _) (Nat.zero_le _) (fun h => absurd rfl h) (fun k j e x h => by simp [rows] at h)) .nil
        · rw [h1] at hz
          have each : ∀ i, i < len → ∃ x : t.El, Rg t x ∧ ∃ us : List Value, (∀ j, j < t.sz → w.cell? (a.add (i * t.sz + j)) = us[j]?) ∧ Cells (snap w) (split t x) us := by
            intro i hi
            have he := hel i hi
            have hi' : i < elems.length := by omega
            rw [List.getElem?_eq_getElem hi'] at he
            obtain ⟨us, hus, hy⟩ := Option.bind_eq_some_iff.1 he
            obtain ⟨-, hul, huc⟩ := World.cells?_some hus
            obtain ⟨x, hx, hr⟩ := ih 0 [(0, e)] us hl (fun f hf => by
              have hf' : f = (0, e) := by simpa using hf
              subst hf'
              exact ⟨m, _, by show DataW.trod enc P w base spare held m e (List.take (P.cellsOf e) (List.drop 0 us)) = _; rw [List.drop_zero, List.take_of_length_le (by omega)]; exact hy⟩)
            rw [List.drop_zero, List.take_of_length_le (by omega)] at hx
            refine ⟨x, hr, us, fun j hj => ?_, hx⟩
            rw [← huc j (by omega), Addr.add_add, hsz]
          obtain ⟨l, hll, hlp⟩ := pick_all (d := t.dflt) len each
          subst hll
          refine ⟨l, ?_, fun x hx => ?_⟩
          · show Cells _ [D.sl t l] ((cs.drop off).take 1)
            rw [take_one hz]
            have cell : ∀ i j, i < l.length → j < t.sz → ∃ v d, (snap w).cell (a.add (i * t.sz + j)) = some v ∧ (split t (l.getD i t.dflt))[j]? = some d ∧ DR (snap w) d v := by
              intro i j hi hj
              obtain ⟨-, us, hu, hc⟩ := hlp i hi
              have hjl : j < (split t (l.getD i t.dflt)).length := by rw [split_len]; exact hj
              obtain ⟨v, hv, hd⟩ := hc.at_ (List.getElem?_eq_getElem hjl)
              exact ⟨v, _, snap_cell (by rw [hu j hj]; exact hv), List.getElem?_eq_getElem hjl, hd⟩
            refine .cons (DR.sl (t := t) (l := l) (A := some a) (c := cap) (fun k j => ((snap w).cell (a.add (k * t.sz + j))).getD undef) hlc hcm (fun _ => ⟨a, rfl, fun k j hk hj => ?_⟩) (fun k j es d hes hd => ?_)) .nil
            · obtain ⟨v, -, h1, -⟩ := cell k j hk hj
              rw [h1]; rfl
            · have hk : k < l.length := by
                have := (List.getElem?_eq_some_iff.1 hes).1
                rwa [rows_len] at this
              rw [rows_at t hk] at hes
              cases hes
              have hj : j < t.sz := by
                have := (List.getElem?_eq_some_iff.1 hd).1
                rwa [split_len] at this
              obtain ⟨v, d', h1, h2, h3⟩ := cell k j hk hj
              rw [h2] at hd
              cases hd
              rw [h1]
              exact h3
          · obtain ⟨i, hi, rfl⟩ := List.getElem_of_mem hx
            have := (hlp i hi).1
            simpa [List.getD, List.getElem?_eq_getElem hi] using this
      · cases h2
  | pair a b iha ihb =>
    intro off fs cs h ht
    have key : ∀ (o : Nat) (c : List Value) (f0 f1 : Nat × TypeId) (r : List (Nat × TypeId)), layOk P a o [f0] = true → layOk P b (o + a.sz) (f1 :: r) = true →
        (∀ f ∈ f0 :: f1 :: r, ∃ n y, DataW.trod enc P w base spare held n f.2 ((c.drop f.1).take (P.cellsOf f.2)) = some y) → ∃ x : a.El × b.El, Cells (snap w) (split a x.1 ++ split b x.2) ((c.drop o).take (a.sz + b.sz)) ∧ (Rg a x.1 ∧ Rg b x.2) := by
      intro o c f0 f1 r k1 k2 kt
      obtain ⟨x1, hx1, hr1⟩ := iha o [f0] c k1 (fun f hf => by
        have hf' : f = f0 := by simpa using hf
        subst hf'
        exact kt f (by simp))
      obtain ⟨x2, hx2, hr2⟩ := ihb (o + a.sz) (f1 :: r) c k2 (fun f hf => kt f (List.mem_cons_of_mem _ hf))
      refine ⟨(x1, x2), ?_, hr1, hr2⟩
      rw [List.take_add, List.drop_drop]
      exact hx1.append hx2
    match fs, h with
    | [f], h =>
      simp only [layOk, Bool.and_eq_true, beq_iff_eq] at h
      obtain ⟨⟨h1, h2⟩, h3⟩ := h
      obtain ⟨n, y, hy⟩ := ht f (by simp)
      split at h2
      · rename_i gs hk
        obtain ⟨xs, m, -, -, hlen, hxl, hf⟩ := DataW.trod_struct hk hy
        split at h2
        · rename_i f0 f1 r hfs
          rw [Bool.and_eq_true] at h2
          rw [h1, h3] at hf
          obtain ⟨x, hx, hr⟩ := key 0 ((cs.drop off).take (a.sz + b.sz)) f0 f1 r h2.1 (by rw [Nat.zero_add]; exact h2.2) (fun f' hf' => by
            rw [← hfs] at hf'
            obtain ⟨g, hg, rfl⟩ := List.mem_map.1 hf'
            obtain ⟨i, hi, hgi⟩ := List.getElem_of_mem hg
            have hi' : i < gs.size := by simpa using hi
            have e1 : gs[i]? = some g := by rw [Array.getElem?_eq_getElem hi']; simpa using hgi
            have := hf i g e1
            exact ⟨m, xs[i]'(by omega), by rw [this, List.getElem?_eq_getElem (by omega)]⟩)
          rw [List.drop_zero, List.take_take, Nat.min_self] at hx
          exact ⟨x, hx, hr⟩
        · cases h2
      · cases h2
    | f0 :: f1 :: r, h =>
      simp only [layOk, Bool.and_eq_true] at h
      exact key off cs f0 f1 r h.1 h.2 ht
end
end Go.Proofs.YtdngaaploooceaaDoor.Sy

/- The claim: ImageKnown: the law returns true. -/
set_option maxRecDepth 100000
namespace Go.Proofs.YtdngaaploooceaaDoor.Sy
open Go Go.RowKit Kit Go.ChangeShapes Go.WideShapes Go.ChangeAt
section
variable {H : Type} {enc : TypeId × Value → H} {P : Program}
/-- of what was there nothing has turned: the row's answer -/
theorem post_below {f : Func} {s : ChangeSpec} {apart fresh handsOn again : Bool} {W W' : World} {args : Array Value} {v : Value} {ds gs : List (DataW H)} {before pa pv : List MemPlace}
    (hW : DataW.Whole enc P f.params.toList s.vars apart W args.toList ds gs before)
    (hres : ∀ (b : Nat) (sp : Nat → Bool) (hd : Bool), DataW.TrodAll enc P W' b sp hd f.resultTypes.toList (v.resultList f.resultTypes.size) (s.fn H (ds ++ gs)).results [])
    (hargs : ∀ sp : Nat → Bool, (∀ p ∈ before, sp p.block = true) → DataW.TrodAll enc P W' 0 sp true f.params.toList args.toList (s.fn H (ds ++ gs)).args pa)
    (hvars : ∀ sp : Nat → Bool, (∀ p ∈ before, sp p.block = true) → DataW.TrodVars enc P W' sp s.vars (s.fn H (ds ++ gs)).vars pv)
    (hps : before = pa ++ pv) (hb : Below W.heap.size W W')
    (hok : ∀ (j : Nat) (t : TypeId) (r : Value), f.resultTypes[j]? = some t → (v.resultList f.resultTypes.size)[j]? = some r → Value.okWide P W' .any 0 t r) :
    s.post enc P f apart fresh handsOn again W args v W' := by
  have hlt := hW.lt
  have hold : ∀ p ∈ before, (fun b => decide (b < W.heap.size)) p.block = true := fun p hp => by simpa using hlt p hp
  refine ⟨ds, gs, before, [], pa, pv, hW, hres _ _ _, hargs _ hold, hvars _ hold, World.keptBut_mono (fun p hp => ⟨hp, ?_⟩) (hb.frame (· ∈ before)), fun _ => ?_⟩
  · rw [hps, List.mem_append] at hp
    exact Or.inr hp
  · obtain ⟨_, _, _, _, _, hz, hn⟩ := hW
    refine ⟨hok, _, _, ([] ++ pa) ++ pv, ⟨[] ++ pa, pv, trodAll_append (hargs _ (fun _ _ => rfl)) (hres _ _ _), hvars _ (fun _ _ => rfl), rfl, ?_, ?_⟩, ?_⟩
    · intro b off hp
      have hp' : MemPlace.cell b off ∈ before := by rw [hps]; simpa using hp
      rw [hb.frozen (hlt _ hp')]
      exact hz b off hp'
    · intro ha
      have := hn ha
      rw [hps] at this
      simpa using this
    · intro p hp _
      rw [hps]
      simpa using hp
end
def base (W : World) : Base := { W with L := fun _ => False, gh := fun _ => none }
theorem rel0 (W : World) : Rel (base W) (snap W) (snap W) (fun _ => none) St.nil #[] W where
  below := ⟨rfl, rfl, rfl, Nat.le_refl _, fun _ _ _ => rfl⟩
  snap := fun _ _ h => h
  mono := fun _ _ h => h
  newM := fun _ _ h => .inl h
  apart := fun _ _ _ h => by cases h
  inj := fun _ _ _ _ _ h => by cases h
  size := Nat.zero_le _
  small := Nat.zero_le _
  env := fun _ _ h => by cases h
  objs := fun _ _ h => by cases h
theorem below0 {W w : World} {M M' : Snap} {β : Plc} {σ : St} {tm : Array Value} (h : Rel (base W) M M' β σ tm w) : Below W.heap.size W w :=
  ⟨h.below.os, h.below.tape, h.below.output, h.below.size, fun k hk => h.below.block k hk (fun h => h)⟩

open Go Go.RowKit Kit Go.ChangeShapes Go.WideShapes Go.ChangeAt
theorem own : ownKnob Tryd.prog.godebug = none := by kernel_rfl
theorem known_calls {W : World} : Calls Tryd.prog 3 #[] W fun e w' => e = .returned (.bool true) ∧ Below W.heap.size W w' := by
  refine (known_ok.2 (base W) (snap W) (fun _ => none) St.nil [] [] (rel0 W) .nil (fun r => r.1 = .e (.c (.kb true)) ∨ r.1 = rB true) ?_).mono ?_
  · show Tr.sat _ (Tr.bind (.ret _) _)
    exact .inr rfl
  · rintro e w' ⟨x, τ', v, M', β', hK, rfl, hx, hrel⟩
    refine ⟨?_, below0 hrel⟩
    rcases hK with hK | hK
    · have hK : x = .e (.c (.kb true)) := hK
      subst hK
      have : v = .bool true := hx
      rw [this]
    · have hK : x = rB true := hK
      subst hK
      have hx : DR M' (.v (.bool true)) v := hx
      cases hx with
      | v h => rfl
theorem known_contract (H : Type) (enc : TypeId × Value → H) (W : World) (args : Array Value) (ds gs : List (DataW H)) (before : List MemPlace)
    (hW : DataW.Whole enc Tryd.prog Tryd.f3.params.toList Rows.imageKnownSpec.vars false W args.toList ds gs before) :
    Calls Tryd.prog 3 args W fun e W' => ∃ v, e = .returned v ∧ Rows.imageKnownSpec.post enc Tryd.prog Tryd.f3 false true false false W args v W' := by
  have hW' := hW
  obtain ⟨p, q, hA0, hV, rfl, hfz, hnd⟩ := hW
  have hA : DataW.TrodAll enc Tryd.prog W 0 (fun _ => true) true Tryd.f3.params.toList args.toList ds p := hA0
  rw [Tryd.params3] at hA
  obtain ⟨hargs, rfl, rfl⟩ := trodAll_nil hA
  obtain rfl : args = #[] := by cases args; simp_all
  obtain ⟨rfl, rfl⟩ := trodVars_none hV
  clear hA0 hA
  simp only [List.append_nil] at hW'
  refine (known_calls (W := W)).mono fun e W' ⟨he, hb⟩ => ?_
  subst he
  exact ⟨_, rfl, post_below (pa := []) (pv := []) hW' (fun _ _ _ => trodAll_cons_mk (shut_bool Tryd.underlying4 _) trodAll_mk0)
    (fun _ _ => trodAll_mk0) (fun _ _ => rfl) rfl
    hb (ok_one (by kernel_rfl) rfl (okWide_bool_mk Tryd.underlying4 _))⟩
/-! ### the witness: every listed table lies as the program's text lays it -/
def flatD : DataW Unit → List Value
  | .lit (.int k n) => [.int k n]
  | .agg l => flatDs l
  | _ => []
where flatDs : List (DataW Unit) → List Value
  | [] => []
  | d :: r => flatD d ++ flatDs r
def layOne (vs : List Value) : Obj → Obj
  | .cells _ t fr => .cells vs.toArray t fr
  | o => o
def layTab (P : Program) (h : Array Obj) (x : String × DataW Unit) : Array Obj :=
  match P.globalNamed x.1 with
  | some g => h.modify g (layOne (flatD x.2))
  | none => h
noncomputable def laidWorld (l : List (String × DataW Unit)) (os : Os) : World :=
  { World.holding Tryd.prog os ⟨#[], #[], []⟩ with heap := l.foldl (layTab Tryd.prog) (World.holding Tryd.prog os ⟨#[], #[], []⟩).heap }
theorem known_met (os : Os) : laidMet Tryd.prog Rows.imageKnownRow.laid ((laidWorld Rows.imageKnownRow.laid os).forCall (fun _ _ => 0) ⟨#[], #[], []⟩).memory :=
  laidMet_of_run3 8 (by kernel_rfl) (by kernel_rfl) (by kernel_rfl)
theorem known_reads (os : Os) {H : Type} (enc : TypeId × Value → H) : ∃ ds places, DataW.whole enc Tryd.prog ((laidWorld Rows.imageKnownRow.laid os).forCall (fun _ _ => 0) ⟨#[], #[], []⟩).memory Tryd.f3.params.toList Rows.imageKnownSpec.vars false #[].toList 8 = some (ds, [], places) :=
  ⟨[], [], by kernel_rfl⟩
theorem known_lifted (os : Os) (started : os.Started) (H : Type) (enc : TypeId × Value → H) (F : Stop.Interp) :
    ReturnsInHanded {} Tryd.checked os 3 .any ((OpenSpec.ofChange Rows.imageKnownSpec).preRow enc Tryd.prog Tryd.f3 Rows.imageKnownRow.domain false Rows.imageKnownRow.laid) (((OpenSpec.ofChange Rows.imageKnownSpec).at F).post enc Tryd.prog Tryd.f3 false true false false) := by
  obtain ⟨ds, places, hx⟩ := known_reads os enc
  refine returnsInHanded_of_row (C := Tryd.checked) (s := OpenSpec.ofChange Rows.imageKnownSpec) own started (by kernel_rfl) Tryd.func3
    (witness_row_at (enc := enc) (C := Tryd.checked) false (laidWorld Rows.imageKnownRow.laid os) #[] rfl (by kernel_rfl) (by kernel_rfl) (by kernel_rfl)
      (OpenSpec.preRow_of_cond 8 hx (by kernel_rfl) (fun k hk => by cases hk) (by kernel_rfl) (known_met os))) ?_
  intro W b0 args ds gs before hval hW _ _ _ hL _ _
  exact known_contract H enc W args ds gs before hW
theorem known_said : Rows.ImageKnownSaid :=
  OpenClaim.holds_of_cond 3 Tryd.f3 rfl rfl rfl rfl rfl rfl rfl ⟨rfl, rfl, rfl, rfl, rfl⟩ rfl rfl rfl rfl rfl (by kernel_rfl) Tryd.func3 (by kernel_rfl)
    (of_decide_eq_true (by kernel_rfl)) (by unfold Func.isWrapper; first | (rw [if_pos (by decide +kernel)]; kernel_rfl) | (rw [if_neg (by decide +kernel)]; exact ⟨rfl, rfl⟩))
    (fun os started H enc _ F => by rw [OpenClaim.pre_eq_preRow]; exact known_lifted os started H enc F)
theorem known_plain (f : FuncId) (fn : Func) (hf : Tryd.pinned.checked.prog.funcNamed "crossroads/crossroadslaw23.ImageKnown" = some f) (hfn : Tryd.pinned.checked.prog.funcs[f]? = some fn) :
    false = Tryd.pinned.checked.prog.looks [] ∧ ∀ (j : Nat) t, fn.params[j]? = some t → Tryd.pinned.checked.prog.wantsStandIn t = false := by
  obtain rfl : f = 3 := Option.some.inj ((show Tryd.prog.funcNamed "crossroads/crossroadslaw23.ImageKnown" = some 3 by kernel_rfl).symm.trans hf) |>.symm
  obtain rfl : fn = Tryd.f3 := (Option.some.inj (Tryd.func3.symm.trans hfn)).symm
  refine ⟨by kernel_rfl, fun j t ht => ?_⟩
  rw [Tryd.params3] at ht
  have hm := Array.mem_of_getElem? ht
  simp at hm
theorem imageKnown_card : Rows.ImageKnownCardSaid :=
  Claim7.holds_tied_plain_at .later [] _ _ _ _ known_said (fun _ h => by cases h) (by kernel_rfl) (fun _ h => by cases h) imageKnown_row_tie rfl ⟨rfl, rfl⟩ (by kernel_rfl) rfl known_plain (by kernel_rfl)
#print axioms imageKnown_card
end Go.Proofs.YtdngaaploooceaaDoor.Sy
